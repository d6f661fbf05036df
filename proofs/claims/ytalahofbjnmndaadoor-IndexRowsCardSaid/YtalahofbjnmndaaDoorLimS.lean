/- The E machine: what a run lets stand; which objects may come to refer to newer ones. -/
import Derived.Test.YtalahofbjnmndaaDoorLimR
set_option linter.unusedVariables false
set_option linter.unusedSimpArgs false
namespace Go.Lim
open Go.RowKit
variable {cx : Cx}

def Obj.lt (n : Nat) : Obj → Bool
  | .box cs => AV.ltL n cs
  | .tok _ _ => true
  | .mp es => AV.ltL n (es.map (·.1)) && AV.ltL n (es.map (·.2))
  | .dead => true

theorem ltL_iff {n : Nat} {cs : List AV} : AV.ltL n cs = true ↔ ∀ v ∈ cs, AV.lt n v = true := by
  induction cs with
  | nil => simp [AV.ltL]
  | cons x r ih => simp [AV.ltL, ih]

mutual
theorem lt_mono {n n' : Nat} (h : n ≤ n') : ∀ (v : AV), AV.lt n v = true → AV.lt n' v = true
  | .bool _, _ | .int _ _, _ | .flt _ _, _ | .cpx _ _ _, _ | .str _, _ | .nilp, _ | .nilm, _ | .nilf, _ | .nili, _ => rfl
  | .ptr a b, g => by simp [AV.lt] at g ⊢; omega
  | .arr a b c d e, g => by simp [AV.lt] at g ⊢; omega
  | .map a, g => by simp [AV.lt] at g ⊢; omega
  | .rop cs o, g => by simp only [AV.lt] at g ⊢; exact ltL_mono h cs g
  | .slc tk es, g => by
    simp only [AV.lt, Bool.and_eq_true] at g ⊢
    refine ⟨?_, ltL_mono h es g.2⟩
    cases tk <;> simp at g ⊢
    omega
  | .fn f cs, g => by simp only [AV.lt] at g ⊢; exact ltL_mono h cs g
  | .ifc t v, g => by simp only [AV.lt] at g ⊢; exact lt_mono h v g
  | .agg cs, g => by simp only [AV.lt] at g ⊢; exact ltL_mono h cs g
  | .tup cs, g => by simp only [AV.lt] at g ⊢; exact ltL_mono h cs g
theorem ltL_mono {n n' : Nat} (h : n ≤ n') : ∀ (vs : List AV), AV.ltL n vs = true → AV.ltL n' vs = true
  | [], _ => rfl
  | v :: r, g => by
    simp only [AV.ltL, Bool.and_eq_true] at g ⊢
    exact ⟨lt_mono h v g.1, ltL_mono h r g.2⟩
end

theorem Obj.lt_mono {n n' : Nat} (h : n ≤ n') {o : Obj} (g : o.lt n = true) : o.lt n' = true := by
  cases o with
  | box cs => exact ltL_mono h _ g
  | tok a b => rfl
  | mp es => simp only [Obj.lt, Bool.and_eq_true] at g ⊢; exact ⟨ltL_mono h _ g.1, ltL_mono h _ g.2⟩
  | dead => rfl

/-- Of the old objects each stands, or is told, or refers to no newer ones than it did or is. -/
def EscP (H H' : Heap) (s : Esc) : Prop :=
  H.length ≤ H'.length ∧ ∀ id, id < H.length → H'[id]? = H[id]? ∨ (∃ i, s = some i ∧ i ≤ id) ∨ ∃ o o', H'[id]? = some o' ∧ H[id]? = some o ∧ ∀ n, id < n → o.lt n = true → o'.lt n = true

theorem EscP.refl (H : Heap) : EscP H H none := ⟨Nat.le_refl _, fun _ _ => .inl rfl⟩
theorem mrg_none (s : Esc) : Esc.mrg s none = s := by cases s <;> rfl
theorem none_mrg (s : Esc) : Esc.mrg none s = s := by cases s <;> rfl
theorem mrg_assoc (a b c : Esc) : (a.mrg b).mrg c = a.mrg (b.mrg c) := by
  cases a <;> cases b <;> cases c <;> simp [Esc.mrg, Nat.min_assoc]
theorem mrg_left {a b : Esc} {i : Nat} (h : a = some i) : ∃ j, a.mrg b = some j ∧ j ≤ i := by
  subst h; cases b with
  | none => exact ⟨i, rfl, Nat.le_refl _⟩
  | some b => exact ⟨min i b, rfl, Nat.min_le_left _ _⟩
theorem mrg_right {a b : Esc} {i : Nat} (h : b = some i) : ∃ j, a.mrg b = some j ∧ j ≤ i := by
  subst h; cases a with
  | none => exact ⟨i, rfl, Nat.le_refl _⟩
  | some a => exact ⟨min a i, rfl, Nat.min_le_right _ _⟩
theorem EscP.trans {H H1 H2 : Heap} {s1 s2 : Esc} (h : EscP H H1 s1) (h' : EscP H1 H2 s2) : EscP H H2 (s1.mrg s2) := by
  refine ⟨Nat.le_trans h.1 h'.1, fun id hid => ?_⟩
  rcases h'.2 id (Nat.lt_of_lt_of_le hid h.1) with h2 | ⟨i, h2, h3⟩ | ⟨o, o', h2, h3, h4⟩
  · rcases h.2 id hid with h5 | ⟨i, h5, h6⟩ | ⟨o, o', h5, h6, h7⟩
    · exact .inl (h2.trans h5)
    · obtain ⟨j, h8, h9⟩ := mrg_left (b := s2) h5; exact .inr (.inl ⟨j, h8, by omega⟩)
    · exact .inr (.inr ⟨o, o', by rw [h2, h5], h6, h7⟩)
  · obtain ⟨j, h8, h9⟩ := mrg_right (a := s1) h2; exact .inr (.inl ⟨j, h8, by omega⟩)
  · rcases h.2 id hid with h5 | ⟨i, h5, h6⟩ | ⟨p, p', h5, h6, h7⟩
    · exact .inr (.inr ⟨o, o', h2, by rw [← h5, h3], h4⟩)
    · obtain ⟨j, h8, h9⟩ := mrg_left (b := s2) h5; exact .inr (.inl ⟨j, h8, by omega⟩)
    · rw [h5] at h3; simp at h3; subst h3
      exact .inr (.inr ⟨p, o', h2, h6, fun n hn hp => h4 n hn (h7 n hn hp)⟩)

theorem EscP.push (H : Heap) (o : Obj) : EscP H (H ++ [o]) none := ⟨by simp, fun id hid => .inl (List.getElem?_append_left hid)⟩
theorem EscP.set {H : Heap} {id : Nat} {o o' : Obj} {s : Esc} (hid : H[id]? = some o) (h : (∃ i, s = some i ∧ i ≤ id) ∨ ∀ n, id < n → o.lt n = true → o'.lt n = true) : EscP H (H.set id o') s := by
  refine ⟨by simp, fun i hi => ?_⟩
  by_cases hii : id = i
  · subst hii
    rcases h with h | h
    · exact .inr (.inl h)
    · exact .inr (.inr ⟨o, o', by rw [List.getElem?_set]; simp [hi], hid, h⟩)
  · exact .inl (by rw [List.getElem?_set, if_neg hii])

/-- Calls, too. -/
def CxEsc (cx : Cx) : Prop := ∀ k vs H v H' s, cx.call k vs H = some (v, H', s) → EscP H H' s
theorem CxEsc.len (h : CxEsc cx) : CxLen cx := fun k vs H v H' s hc => (h k vs H v H' s hc).1

theorem wrc_lt {n : Nat} {cs vs ds : List AV} {off : Nat} (h : wrc cs off vs = some ds) (h1 : AV.ltL n cs = true) (h2 : AV.ltL n vs = true) : AV.ltL n ds = true := by
  obtain ⟨_, rfl⟩ := wrc_some h
  rw [ltL_iff] at *
  intro v hv
  simp only [List.mem_append] at hv
  rcases hv with hv | hv | hv
  · exact h1 v (List.mem_of_mem_take hv)
  · exact h2 v hv
  · exact h1 v (List.mem_of_mem_drop hv)

theorem appendE_esc {H H' : Heap} {sz bytes : Nat} {u u' v : AV} {s : Esc} (h3 : appendE H sz bytes u u' = some (v, H', s)) : EscP H H' s := by
  unfold appendE at h3
  split at h3 <;> try (simp at h3; done)
  split at h3
  · simp at h3; rw [← h3.2.1, ← h3.2.2]; exact EscP.refl _
  · split at h3 <;> try (simp at h3; done)
    unfold appTok at h3
    split at h3 <;> try (simp at h3; done)
    · split at h3 <;> try (simp at h3; done)
      rename_i hH
      split at h3 <;> simp at h3
      rw [← h3.2.1, ← h3.2.2]; exact EscP.set hH (.inr fun n hn _ => rfl)
    · split at h3 <;> simp at h3
      rw [← h3.2.1, ← h3.2.2]; exact EscP.push _ _
    · simp at h3; rw [← h3.2.1, ← h3.2.2]; exact EscP.push _ _

theorem cells_lt {n : Nat} {z : AV} (hz : ∀ x ∈ z.cells, AV.lt n x = true) : AV.lt n z = true := by
  cases z <;> first | (simp only [AV.lt]; exact ltL_iff.2 hz) | exact hz _ (by simp [AV.cells])

theorem hop_esc (hc : CxEsc cx) {e : Env} {H H' : Heap} {x : EOp} {v : AV} {s : Esc} (h : hop cx e H x = some (v, H', s)) : EscP H H' s := by
  cases x <;> simp only [hop] at h <;> try (simp at h; done)
  · split at h <;> simp at h; rw [← h.2.1, ← h.2.2]; exact EscP.push _ _
  · simp only [Option.bind_eq_some_iff] at h
    obtain ⟨u, _, h2⟩ := h
    split at h2 <;> simp at h2; rw [← h2.2.1, ← h2.2.2]; exact EscP.push _ _
  · simp only [Option.bind_eq_some_iff] at h
    obtain ⟨u, hu, u', hu', h3⟩ := h
    clear hu hu'
    cases u <;> try (simp [storeE] at h3; done)
    rename_i id off
    simp only [storeE] at h3
    split at h3 <;> try (simp at h3; done)
    rename_i cs hH
    split at h3 <;> try (simp at h3; done)
    simp only [Option.bind_eq_some_iff] at h3
    obtain ⟨cs', hw, h4⟩ := h3
    simp at h4; rw [← h4.2.1, ← h4.2.2]
    refine EscP.set hH ?_
    unfold escOf
    split
    · rename_i hlt
      exact .inr fun n hn hcs => wrc_lt hw hcs (ltL_mono (by omega) _ hlt)
    · exact .inl ⟨id, rfl, Nat.le_refl _⟩
  · simp only [Option.bind_eq_some_iff] at h
    obtain ⟨u, _, u', _, h3⟩ := h
    unfold mksliceE at h3
    split at h3 <;> try (simp at h3; done)
    split at h3 <;> try (simp at h3; done)
    split at h3
    · simp at h3; rw [← h3.2.1, ← h3.2.2]; exact EscP.push _ _
    · split at h3 <;> simp at h3; rw [← h3.2.1, ← h3.2.2]; exact EscP.push _ _
  · simp at h; rw [← h.2.1, ← h.2.2]; exact EscP.push _ _
  · simp only [Option.bind_eq_some_iff] at h
    obtain ⟨u, hu, kv, hkv, w, hw0, h3⟩ := h
    clear hu hkv hw0
    cases u <;> try (simp [mapupdE] at h3; done)
    rename_i id
    simp only [mapupdE] at h3
    split at h3 <;> try (simp at h3; done)
    rename_i es hH
    split at h3 <;> try (simp at h3; done)
    simp only [Option.bind_eq_some_iff] at h3
    obtain ⟨es', hw, h4⟩ := h3
    simp at h4; rw [← h4.2.1, ← h4.2.2]
    refine EscP.set hH ?_
    unfold escOf
    split
    · rename_i hlt
      refine .inr fun n hn hcs => ?_
      have hall : ∀ x ∈ kv.cells ++ w.cells, AV.lt n x = true := ltL_iff.1 (ltL_mono (by omega) _ hlt)
      have hone : ∀ (z : AV), (∀ x ∈ z.cells, AV.lt n x = true) → AV.lt n z = true := by
        intro z hz
        cases z <;> first | (simp only [AV.lt]; exact ltL_iff.2 hz) | exact hz _ (by simp [AV.cells])
      have hk := hone kv (fun x hx => hall x (by simp [hx]))
      have hv := hone w (fun x hx => hall x (by simp [hx]))
      simp only [Obj.lt, Bool.and_eq_true, ltL_iff] at hcs ⊢
      simp only [mapSet, Option.map_eq_some_iff] at hw
      obtain ⟨r, _, hr⟩ := hw
      cases r with
      | none =>
        simp at hr; subst hr
        refine ⟨fun x hx => ?_, fun x hx => ?_⟩
        · simp only [List.map_append, List.mem_append, List.map_cons, List.map_nil, List.mem_singleton] at hx
          rcases hx with hx | rfl
          · exact hcs.1 x hx
          · exact hk
        · simp only [List.map_append, List.mem_append, List.map_cons, List.map_nil, List.mem_singleton] at hx
          rcases hx with hx | rfl
          · exact hcs.2 x hx
          · exact hv
      | some j =>
        simp at hr; subst hr
        refine ⟨fun x hx => ?_, fun x hx => ?_⟩
        · rw [List.map_set] at hx
          rcases List.mem_or_eq_of_mem_set hx with hx | rfl
          · exact hcs.1 x hx
          · exact hk
        · rw [List.map_set] at hx
          rcases List.mem_or_eq_of_mem_set hx with hx | rfl
          · exact hcs.2 x hx
          · exact hv
    · exact .inl ⟨id, rfl, Nat.le_refl _⟩
  · simp only [Option.bind_eq_some_iff] at h
    obtain ⟨u, hu, kv, hkv, h3⟩ := h
    rename_i kk zero _ _
    clear hu hkv
    cases u <;> try (simp [mapentE] at h3; done)
    rename_i id
    simp only [mapentE] at h3
    split at h3 <;> try (simp at h3; done)
    rename_i es hH
    split at h3 <;> try (simp at h3; done)
    simp only [Option.bind_eq_some_iff] at h3
    obtain ⟨r, _, h4⟩ := h3
    cases r with
    | none =>
      simp at h4; rw [← h4.2.1, ← h4.2.2]
      refine EscP.set hH ?_
      unfold escOf
      split
      · rename_i hlt
        refine .inr fun n hn hcs => ?_
        have hall : ∀ x ∈ kv.cells ++ zero.cells, AV.lt n x = true := ltL_iff.1 (ltL_mono (by omega) _ hlt)
        have hk := cells_lt (fun x hx => hall x (List.mem_append_left _ hx))
        have hv := cells_lt (fun x hx => hall x (List.mem_append_right _ hx))
        simp only [Obj.lt, Bool.and_eq_true, ltL_iff] at hcs ⊢
        refine ⟨fun x hx => ?_, fun x hx => ?_⟩
        · simp only [List.map_append, List.mem_append, List.map_cons, List.map_nil, List.mem_singleton] at hx
          rcases hx with hx | rfl
          · exact hcs.1 x hx
          · exact hk
        · simp only [List.map_append, List.mem_append, List.map_cons, List.map_nil, List.mem_singleton] at hx
          rcases hx with hx | rfl
          · exact hcs.2 x hx
          · exact hv
      · exact .inl ⟨id, rfl, Nat.le_refl _⟩
    | some j =>
      simp only [Option.bind_eq_some_iff] at h4
      obtain ⟨x', h8, h4⟩ := h4
      simp at h4; rw [← h4.2.1, ← h4.2.2]
      refine EscP.set hH ?_
      unfold escOf
      split
      · rename_i hlt
        refine .inr fun n hn hcs => ?_
        have hk := cells_lt (n := n) (ltL_iff.1 (ltL_mono (n := id + 1) (by omega) _ hlt))
        simp only [Obj.lt, Bool.and_eq_true, ltL_iff] at hcs ⊢
        refine ⟨fun x hx => ?_, fun x hx => ?_⟩
        · rw [List.map_set] at hx
          rcases List.mem_or_eq_of_mem_set hx with hx | rfl
          · exact hcs.1 x hx
          · exact hk
        · rw [List.map_set] at hx
          rcases List.mem_or_eq_of_mem_set hx with hx | rfl
          · exact hcs.2 x hx
          · exact hcs.2 _ (List.mem_map.2 ⟨x', List.mem_of_getElem? h8, rfl⟩)
      · exact .inl ⟨id, rfl, Nat.le_refl _⟩
  · simp only [Option.bind_eq_some_iff] at h
    obtain ⟨u, hu, st, hst, w, hw0, h3⟩ := h
    clear hu hst hw0
    cases u <;> try (simp [entstE] at h3; done)
    rename_i id
    cases st <;> try (simp [entstE] at h3; done)
    rename_i k nn
    cases k <;> try (simp [entstE] at h3; done)
    simp only [entstE] at h3
    split at h3 <;> try (simp at h3; done)
    rename_i es hH
    split at h3 <;> try (simp at h3; done)
    simp only [Option.bind_eq_some_iff] at h3
    obtain ⟨x', h8, h4⟩ := h3
    simp at h4; rw [← h4.2.1, ← h4.2.2]
    refine EscP.set hH ?_
    unfold escOf
    split
    · rename_i hlt
      refine .inr fun n hn hcs => ?_
      have hv := cells_lt (n := n) (ltL_iff.1 (ltL_mono (n := id + 1) (by omega) _ hlt))
      simp only [Obj.lt, Bool.and_eq_true, ltL_iff] at hcs ⊢
      refine ⟨fun x hx => ?_, fun x hx => ?_⟩
      · rw [List.map_set] at hx
        rcases List.mem_or_eq_of_mem_set hx with hx | rfl
        · exact hcs.1 x hx
        · exact hcs.1 _ (List.mem_map.2 ⟨x', List.mem_of_getElem? h8, rfl⟩)
      · rw [List.map_set] at hx
        rcases List.mem_or_eq_of_mem_set hx with hx | rfl
        · exact hcs.2 x hx
        · exact hv
    · exact .inl ⟨id, rfl, Nat.le_refl _⟩
  · simp only [Option.bind_eq_some_iff] at h
    obtain ⟨u, _, u', _, h3⟩ := h
    exact appendE_esc h3
  · simp only [Option.bind_eq_some_iff] at h
    obtain ⟨u, _, u', _, h3⟩ := h
    unfold appstrE at h3
    split at h3 <;> try (simp at h3; done)
    exact appendE_esc h3
  · simp only [Option.bind_eq_some_iff] at h
    obtain ⟨vs, _, u, _, h3⟩ := h
    unfold callE at h3
    split at h3 <;> try (simp at h3; done)
    exact hc _ _ _ _ _ _ h3

theorem evop_esc (hc : CxEsc cx) {o : EOper} {e e' : Env} {H H' : Heap} {s : Esc} (h : evop cx o e H = some (e', H', s)) : EscP H H' s := by
  simp only [evop, Option.bind_eq_some_iff] at h
  obtain ⟨b, _, h⟩ := h
  cases b
  · simp at h; rw [h.2.1, ← h.2.2]; exact EscP.refl _
  · simp only [if_true] at h
    split at h
    · simp only [Option.bind_eq_some_iff] at h
      obtain ⟨⟨v, H1, s1⟩, h1, h2⟩ := h
      simp at h2; rw [← h2.2.1, ← h2.2.2]; exact hop_esc hc h1
    · simp only [Option.bind_eq_some_iff] at h
      obtain ⟨v, _, h2⟩ := h
      simp at h2; rw [h2.2.1, ← h2.2.2]; exact EscP.refl _

theorem evops_esc (hc : CxEsc cx) : ∀ (xs : List EOper) (e : Env) (H : Heap) (s : Esc) (e' : Env) (H' : Heap) (s' : Esc), evops cx xs e H s = some (e', H', s') → ∃ t, s' = s.mrg t ∧ EscP H H' t
  | [], e, H, s, e', H', s', h => by
    simp [evops] at h
    obtain ⟨rfl, rfl, rfl⟩ := h
    exact ⟨none, (mrg_none _).symm, EscP.refl _⟩
  | x :: xs, e, H, s, e', H', s', h => by
    simp only [evops, Option.bind_eq_some_iff] at h
    obtain ⟨⟨e1, H1, s1⟩, h1, h2⟩ := h
    obtain ⟨t, h3, h4⟩ := evops_esc hc xs e1 H1 _ e' H' s' h2
    exact ⟨s1.mrg t, by rw [h3, mrg_assoc], (evop_esc hc h1).trans h4⟩

theorem evdops_esc (hc : CxEsc cx) : ∀ (xs : List DOper) (j : Nat) (e : Env) (H : Heap) (s : Esc) (hs : List (Nat × Heap)) (rs : List (DOper × Env × AV)) (e' : Env) (H' : Heap) (s' : Esc) (hs' : List (Nat × Heap)) (rs' : List (DOper × Env × AV)),
    evdops cx j xs e H s hs rs = some (e', H', s', hs', rs') → ∃ t, s' = s.mrg t ∧ EscP H H' t
  | [], j, e, H, s, hs, rs, e', H', s', hs', rs', h => by
    simp [evdops] at h
    obtain ⟨rfl, rfl, rfl, _⟩ := h
    exact ⟨none, (mrg_none _).symm, EscP.refl _⟩
  | x :: xs, j, e, H, s, hs, rs, e', H', s', hs', rs', h => by
    simp only [evdops, Option.bind_eq_some_iff] at h
    obtain ⟨⟨e1, H1, s1⟩, h1, h2⟩ := h
    obtain ⟨t, h3, h4⟩ := evdops_esc hc xs (j + 1) e1 H1 _ _ _ e' H' s' hs' rs' h2
    exact ⟨s1.mrg t, by rw [h3, mrg_assoc], (evop_esc hc h1).trans h4⟩

theorem evc_esc (hc : CxEsc cx) (n : Nat) : ∀ (ec : ECode) (e : Env) (H : Heap) (s : Esc) (x : EExit) (e' : Env) (H' : Heap) (s' : Esc), evc cx n ec e H s = some (x, e', H', s') → ∃ t, s' = s.mrg t ∧ EscP H H' t := by
  intro ec
  induction ec with
  | skip => intro e H s x e' H' s' h; simp [evc] at h; obtain ⟨_, _, rfl, rfl⟩ := h; exact ⟨none, (mrg_none _).symm, EscP.refl _⟩
  | ret => intro e H s x e' H' s' h; simp [evc] at h; obtain ⟨_, _, rfl, rfl⟩ := h; exact ⟨none, (mrg_none _).symm, EscP.refl _⟩
  | exit i => intro e H s x e' H' s' h; simp [evc] at h; obtain ⟨_, _, rfl, rfl⟩ := h; exact ⟨none, (mrg_none _).symm, EscP.refl _⟩
  | goto i => intro e H s x e' H' s' h; simp [evc] at h; obtain ⟨_, _, rfl, rfl⟩ := h; exact ⟨none, (mrg_none _).symm, EscP.refl _⟩
  | scope l live a b iha ihb =>
    intro e H s x e' H' s' h
    simp only [evc, Option.bind_eq_some_iff] at h
    obtain ⟨⟨x1, e1, H1, s1⟩, h1, h2⟩ := h
    obtain ⟨t, h3, h4⟩ := iha _ _ _ _ _ _ _ h1
    have key : ∀ (k : Nat) (e : Env) (H : Heap) (s : Esc), gotoN (evc cx n b) l live k e H s = some (x, e', H', s') → ∃ t, s' = s.mrg t ∧ EscP H H' t := by
      intro k
      induction k with
      | zero => intro e H s h; simp [gotoN] at h
      | succ k ihk =>
        intro e H s h
        simp only [gotoN, Option.bind_eq_some_iff] at h
        obtain ⟨⟨x1, e1, H1, s1⟩, h1, h2⟩ := h
        obtain ⟨t, h3, h4⟩ := ihb _ _ _ _ _ _ _ h1
        cases x1 with
        | goto i =>
          simp only at h2
          split at h2 <;> try (simp at h2; done)
          obtain ⟨t', h5, h6⟩ := ihk _ _ _ h2
          exact ⟨t.mrg t', by rw [h5, h3, mrg_assoc], h4.trans h6⟩
        | normal => simp at h2; obtain ⟨_, _, rfl, rfl⟩ := h2; exact ⟨t, h3, h4⟩
        | exit i => simp at h2; obtain ⟨_, _, rfl, rfl⟩ := h2; exact ⟨t, h3, h4⟩
        | ret => simp at h2; obtain ⟨_, _, rfl, rfl⟩ := h2; exact ⟨t, h3, h4⟩
    cases x1 with
    | goto i =>
      simp only at h2
      split at h2 <;> try (simp at h2; done)
      obtain ⟨t', h5, h6⟩ := key _ _ _ _ h2
      exact ⟨t.mrg t', by rw [h5, h3, mrg_assoc], h4.trans h6⟩
    | normal => simp at h2; obtain ⟨_, _, rfl, rfl⟩ := h2; exact ⟨t, h3, h4⟩
    | exit i => simp at h2; obtain ⟨_, _, rfl, rfl⟩ := h2; exact ⟨t, h3, h4⟩
    | ret => simp at h2; obtain ⟨_, _, rfl, rfl⟩ := h2; exact ⟨t, h3, h4⟩
  | keep live a ih => intro e H s x e' H' s' h; simp only [evc] at h; exact ih _ H s x e' H' s' h
  | reg xs =>
    intro e H s x e' H' s' h
    simp only [evc, Option.bind_eq_some_iff] at h
    obtain ⟨⟨e1, H1, s1⟩, h1, h2⟩ := h
    simp at h2; obtain ⟨_, _, rfl, rfl⟩ := h2
    exact evops_esc hc xs e H s _ _ _ h1
  | dreg D =>
    intro e H s x e' H' s' h
    simp only [evc, Option.bind_eq_some_iff] at h
    obtain ⟨⟨e1, H1, s1, hs, rs⟩, h1, h2⟩ := h
    split at h2 <;> simp at h2
    obtain ⟨_, _, rfl, rfl⟩ := h2
    exact evdops_esc hc D 0 e H s _ _ _ _ _ _ _ h1
  | seq a b iha ihb =>
    intro e H s x e' H' s' h
    simp only [evc, Option.bind_eq_some_iff] at h
    obtain ⟨⟨x1, e1, H1, s1⟩, h1, h2⟩ := h
    obtain ⟨t, h3, h4⟩ := iha _ _ _ _ _ _ _ h1
    cases x1 with
    | normal =>
      obtain ⟨t', h5, h6⟩ := ihb _ _ _ _ _ _ _ h2
      exact ⟨t.mrg t', by rw [h5, h3, mrg_assoc], h4.trans h6⟩
    | exit i => simp at h2; obtain ⟨_, _, rfl, rfl⟩ := h2; exact ⟨t, h3, h4⟩
    | ret => simp at h2; obtain ⟨_, _, rfl, rfl⟩ := h2; exact ⟨t, h3, h4⟩
    | goto i => simp at h2; obtain ⟨_, _, rfl, rfl⟩ := h2; exact ⟨t, h3, h4⟩
  | cond c a b iha ihb =>
    intro e H s x e' H' s' h
    simp only [evc, Option.bind_eq_some_iff] at h
    obtain ⟨v, hv, h2⟩ := h
    clear hv
    cases v <;> try (simp at h2; done)
    rename_i t
    cases t
    · simp at h2; exact ihb _ _ _ _ _ _ _ h2
    · simp at h2; exact iha _ _ _ _ _ _ _ h2
  | block id a ih =>
    intro e H s x e' H' s' h
    simp only [evc, Option.bind_eq_some_iff] at h
    obtain ⟨⟨x1, e1, H1, s1⟩, h1, h2⟩ := h
    obtain ⟨t, h3, h4⟩ := ih _ _ _ _ _ _ _ h1
    cases x1 with
    | normal => simp at h2; obtain ⟨_, _, rfl, rfl⟩ := h2; exact ⟨t, h3, h4⟩
    | exit i => simp only at h2; split at h2 <;> simp at h2 <;> obtain ⟨_, _, rfl, rfl⟩ := h2 <;> exact ⟨t, h3, h4⟩
    | ret => simp at h2; obtain ⟨_, _, rfl, rfl⟩ := h2; exact ⟨t, h3, h4⟩
    | goto i => simp at h2; obtain ⟨_, _, rfl, rfl⟩ := h2; exact ⟨t, h3, h4⟩
  | loop live a ih =>
    intro e H s x e' H' s' h
    simp only [evc] at h
    have key : ∀ (k : Nat) (e : Env) (H : Heap) (s : Esc), loopN (evc cx n a) live k e H s = some (x, e', H', s') → ∃ t, s' = s.mrg t ∧ EscP H H' t := by
      intro k
      induction k with
      | zero => intro e H s h; simp [loopN] at h
      | succ k ihk =>
        intro e H s h
        simp only [loopN, Option.bind_eq_some_iff] at h
        obtain ⟨⟨x1, e1, H1, s1⟩, h1, h2⟩ := h
        obtain ⟨t, h3, h4⟩ := ih _ _ _ _ _ _ _ h1
        cases x1 with
        | normal =>
          obtain ⟨t', h5, h6⟩ := ihk _ _ _ h2
          exact ⟨t.mrg t', by rw [h5, h3, mrg_assoc], h4.trans h6⟩
        | exit i => simp at h2; obtain ⟨_, _, rfl, rfl⟩ := h2; exact ⟨t, h3, h4⟩
        | ret => simp at h2; obtain ⟨_, _, rfl, rfl⟩ := h2; exact ⟨t, h3, h4⟩
        | goto i => simp at h2; obtain ⟨_, _, rfl, rfl⟩ := h2; exact ⟨t, h3, h4⟩
    exact key n e H s h

end Go.Lim
