/- The E machine: regions that draw their order, part 2: every order that the edges allow. -/
import Derived.Test.YtalahofbjnmndaaDoorLimN
set_option linter.unusedVariables false
set_option linter.unusedSimpArgs false
namespace Go.Lim
open Go.RowKit
variable {P : Program} {m : Em} {H : Heap} {w : World} {cx : Cx} {D : List DOper} {st : Nat → Env × Heap} {ops : Array Oper} {N : Nat} {B : Nat → List Nat}

/-- One operation puts one value. -/
theorem evop_put {o : EOper} {e e' : Env} {H H' : Heap} {s : Esc} (h : evop cx o e H = some (e', H', s)) : ∃ v, e' = put e o.dst v := by
  simp only [evop, Option.bind_eq_some_iff] at h
  obtain ⟨b, _, h⟩ := h
  cases b
  · simp at h; exact ⟨undf, h.1.symm⟩
  · simp only [if_true] at h
    split at h
    · simp only [Option.bind_eq_some_iff] at h
      obtain ⟨⟨v, H1, s1⟩, _, h2⟩ := h
      simp at h2; exact ⟨v, h2.1.symm⟩
    · simp only [Option.bind_eq_some_iff] at h
      obtain ⟨v, _, h2⟩ := h
      simp at h2; exact ⟨v, h2.1.symm⟩

/-- Calls let no object go. -/
def CxLen (cx : Cx) : Prop := ∀ k vs H v H' s, cx.call k vs H = some (v, H', s) → H.length ≤ H'.length
theorem appendE_len {H H' : Heap} {sz bytes : Nat} {u u' v : AV} {s : Esc} (h3 : appendE H sz bytes u u' = some (v, H', s)) : H.length ≤ H'.length := by
  unfold appendE at h3
  split at h3 <;> try (simp at h3; done)
  split at h3
  · simp at h3; rw [← h3.2.1]; exact Nat.le_refl _
  · split at h3 <;> try (simp at h3; done)
    unfold appTok at h3
    split at h3 <;> try (simp at h3; done)
    · split at h3 <;> try (simp at h3; done)
      split at h3 <;> simp at h3
      rw [← h3.2.1]; simp
    · split at h3 <;> simp at h3
      rw [← h3.2.1]; simp
    · simp at h3; rw [← h3.2.1]; simp
theorem hop_len (hc : CxLen cx) {e : Env} {H H' : Heap} {x : EOp} {v : AV} {s : Esc} (h : hop cx e H x = some (v, H', s)) : H.length ≤ H'.length := by
  cases x <;> simp only [hop] at h <;> try (simp at h; done)
  · split at h <;> simp at h; rw [← h.2.1]; simp
  · simp only [Option.bind_eq_some_iff] at h
    obtain ⟨u, _, h2⟩ := h
    split at h2 <;> simp at h2; rw [← h2.2.1]; simp
  · simp only [Option.bind_eq_some_iff] at h
    obtain ⟨u, _, u', _, h3⟩ := h
    unfold storeE at h3
    split at h3 <;> try (simp at h3; done)
    split at h3 <;> try (simp at h3; done)
    split at h3 <;> try (simp at h3; done)
    simp only [Option.bind_eq_some_iff] at h3
    obtain ⟨cs, _, h4⟩ := h3
    simp at h4; rw [← h4.2.1]; simp
  · simp only [Option.bind_eq_some_iff] at h
    obtain ⟨u, _, u', _, h3⟩ := h
    unfold mksliceE at h3
    split at h3 <;> try (simp at h3; done)
    split at h3 <;> try (simp at h3; done)
    split at h3
    · simp at h3; rw [← h3.2.1]; simp
    · split at h3 <;> simp at h3; rw [← h3.2.1]; simp
  · simp at h; rw [← h.2.1]; simp
  · simp only [Option.bind_eq_some_iff] at h
    obtain ⟨u, _, u', _, u'', _, h3⟩ := h
    unfold mapupdE at h3
    split at h3 <;> try (simp at h3; done)
    split at h3 <;> try (simp at h3; done)
    split at h3 <;> try (simp at h3; done)
    simp only [Option.bind_eq_some_iff] at h3
    obtain ⟨cs, _, h4⟩ := h3
    simp at h4; rw [← h4.2.1]; simp
  · simp only [Option.bind_eq_some_iff] at h
    obtain ⟨u, _, u', _, h3⟩ := h
    unfold mapentE at h3
    split at h3 <;> try (simp at h3; done)
    split at h3 <;> try (simp at h3; done)
    split at h3 <;> try (simp at h3; done)
    simp only [Option.bind_eq_some_iff] at h3
    obtain ⟨r, _, h4⟩ := h3
    cases r
    · simp at h4; rw [← h4.2.1]; simp
    · simp only [Option.bind_eq_some_iff] at h4
      obtain ⟨x, _, h4⟩ := h4
      simp at h4; rw [← h4.2.1]; simp
  · simp only [Option.bind_eq_some_iff] at h
    obtain ⟨u, _, u', _, u'', _, h3⟩ := h
    unfold entstE at h3
    split at h3 <;> try (simp at h3; done)
    split at h3 <;> try (simp at h3; done)
    split at h3 <;> try (simp at h3; done)
    simp only [Option.bind_eq_some_iff] at h3
    obtain ⟨cs, _, h4⟩ := h3
    simp at h4; rw [← h4.2.1]; simp
  · simp only [Option.bind_eq_some_iff] at h
    obtain ⟨u, _, u', _, h3⟩ := h
    exact appendE_len h3
  · simp only [Option.bind_eq_some_iff] at h
    obtain ⟨u, _, u', _, h3⟩ := h
    unfold appstrE at h3
    split at h3 <;> try (simp at h3; done)
    exact appendE_len h3
  · simp only [Option.bind_eq_some_iff] at h
    obtain ⟨vs, _, u, _, h3⟩ := h
    unfold callE at h3
    split at h3 <;> try (simp at h3; done)
    exact hc _ _ _ _ _ _ h3
theorem evop_len (hc : CxLen cx) {o : EOper} {e e' : Env} {H H' : Heap} {s : Esc} (h : evop cx o e H = some (e', H', s)) : H.length ≤ H'.length := by
  simp only [evop, Option.bind_eq_some_iff] at h
  obtain ⟨b, _, h⟩ := h
  cases b
  · simp at h; rw [h.2.1]; exact Nat.le_refl _
  · simp only [if_true] at h
    split at h
    · simp only [Option.bind_eq_some_iff] at h
      obtain ⟨⟨v, H1, s1⟩, h1, h2⟩ := h
      simp at h2; rw [← h2.2.1]; exact hop_len hc h1
    · simp only [Option.bind_eq_some_iff] at h
      obtain ⟨v, _, h2⟩ := h
      simp at h2; rw [h2.2.1]; exact Nat.le_refl _
theorem st_len (hc : CxLen cx) (hT : Tr cx D st) : ∀ (n p : Nat), p + n ≤ D.length → (st p).2.length ≤ (st (p + n)).2.length
  | 0, p, _ => Nat.le_refl _
  | n + 1, p, h => by
    have h1 := st_len hc hT n p (by omega)
    obtain ⟨s, hs⟩ := hT (p + n) D[p + n] (List.getElem?_eq_getElem (by omega))
    exact Nat.le_trans h1 (evop_len hc hs)

theorem al_shape {e : Env} {H H' : Heap} {x : EOp} {v : AV} {s : Esc} (hal : x.isAl = true) (h : hop cx e H x = some (v, H', s)) : ∃ obj, H' = H ++ [obj] ∧ obj.firm = true := by
  cases x <;> simp [EOp.isAl] at hal
  · simp only [hop] at h; split at h <;> simp at h; exact ⟨_, h.2.1.symm, rfl⟩
  · simp only [hop, Option.bind_eq_some_iff] at h
    obtain ⟨u, _, h2⟩ := h
    split at h2 <;> simp at h2; exact ⟨_, h2.2.1.symm, rfl⟩
  · rename_i zero sz bytes x y
    simp only [hop, Option.bind_eq_some_iff] at h
    obtain ⟨u, h1, u', h2, h3⟩ := h
    have huu : u = u' := by
      cases x <;> cases y <;> simp at hal
      subst hal
      rw [h1] at h2; simpa using h2
    subst huu
    cases u <;> try (simp [mksliceE] at h3; done)
    rename_i k q
    cases k <;> try (simp [mksliceE] at h3; done)
    simp only [mksliceE] at h3
    split at h3 <;> try (simp at h3; done)
    simp at h3
    exact ⟨_, h3.2.1.symm, rfl⟩
  · simp [hop] at h; exact ⟨_, h.2.1.symm, rfl⟩

theorem step_heap (hT : Tr cx D st) (hD : DOK P ops N D B) {p : Nat} {d : DOper} (hd : D[p]? = some d) (he : d.eff = false) :
    (st (p + 1)).2 = (st p).2 ∨ ∃ obj, (st (p + 1)).2 = (st p).2 ++ [obj] ∧ obj.firm = true := by
  obtain ⟨s, h⟩ := hT p d hd
  simp only [evop, Option.bind_eq_some_iff] at h
  obtain ⟨b, _, h⟩ := h
  cases b
  · simp at h; exact .inl h.2.1.symm
  · simp only [if_true] at h
    split at h
    · rename_i hh
      simp only [Option.bind_eq_some_iff] at h
      obtain ⟨⟨v, H1, s1⟩, h1, h2⟩ := h
      simp at h2
      have hal : d.o.op.isAl = true := by
        rcases (hD.eff p d hd).1 hh with h3 | h3
        · rw [he] at h3; simp at h3
        · exact h3
      obtain ⟨obj, h3, h4⟩ := al_shape hal h1
      exact .inr ⟨obj, by rw [← h2.2.1, h3], h4⟩
    · simp only [Option.bind_eq_some_iff] at h
      obtain ⟨v, _, h2⟩ := h
      simp at h2; exact .inl h2.2.1.symm

theorem get_put (e : Env) (d : Option Nat) (v : AV) (t : Nat) : Env.get (put e d v) t = if d = some t then some v else Env.get e t := by
  cases d with
  | none => simp [put]
  | some u => simp [put, Env.get]

/-- No writer in between: the temporary stands. -/
theorem env_stays (hT : Tr cx D st) (t : Nat) : ∀ (n p : Nat), p + n ≤ D.length → (∀ (q : Nat) d, p ≤ q → q < p + n → D[q]? = some d → d.o.dst ≠ some t) → (st (p + n)).1.get t = (st p).1.get t
  | 0, p, _, _ => rfl
  | n + 1, p, hl, h => by
    have hlt : p + n < D.length := by omega
    obtain ⟨s, hs⟩ := hT (p + n) D[p + n] (List.getElem?_eq_getElem hlt)
    obtain ⟨v, hv⟩ := evop_put hs
    have h1 := env_stays hT t n p (by omega) (fun q d h1 h2 => h q d h1 (by omega))
    rw [show p + (n + 1) = p + n + 1 by omega, hv, get_put, if_neg (h (p + n) _ (by omega) (by omega) (List.getElem?_eq_getElem hlt)), h1]

theorem env_at (hT : Tr cx D st) (hD : DOK P ops N D B) (t : Nat) {j : Nat} (hj : j ≤ D.length) :
    (∀ (p : Nat) d, p < j → D[p]? = some d → d.o.dst = some t → (st j).1.get t = (st D.length).1.get t) ∧
    ((∀ (p : Nat) d, p < j → D[p]? = some d → d.o.dst ≠ some t) → (st j).1.get t = (st 0).1.get t) := by
  constructor
  · intro p d hp hd hdt
    have huni : ∀ (q : Nat) d', p + 1 ≤ q → D[q]? = some d' → d'.o.dst ≠ some t := fun q d' hq hd' ht => by
      have := hD.uniq p q d d' t hd hd' hdt ht; omega
    have h1 := env_stays hT t (j - (p + 1)) (p + 1) (by omega) (fun q d' h1 _ => huni q d' h1)
    have h2 := env_stays hT t (D.length - (p + 1)) (p + 1) (by omega) (fun q d' h1 _ => huni q d' h1)
    rw [show p + 1 + (j - (p + 1)) = j by omega] at h1
    rw [show p + 1 + (D.length - (p + 1)) = D.length by omega] at h2
    rw [h1, h2]
  · intro h
    have h1 := env_stays hT t j 0 (by omega) (fun q d _ h2 hd => h q d (by omega) hd)
    simpa using h1

def inL (L : Array Bool) (i : Nat) : Prop := L.getD i false = true
def WL (D : List DOper) (L : Array Bool) (t : Nat) : Bool := D.any fun d => decide (d.o.dst = some t) && L.getD d.i false
theorem WL_iff {L : Array Bool} {t : Nat} : WL D L t = true ↔ ∃ (p : Nat) (d : DOper), D[p]? = some d ∧ d.o.dst = some t ∧ inL L d.i := by
  simp only [WL, List.any_eq_true, Bool.and_eq_true, decide_eq_true_eq, inL]
  constructor
  · rintro ⟨d, hd, h1, h2⟩
    obtain ⟨p, hp, rfl⟩ := List.getElem_of_mem hd
    exact ⟨p, _, List.getElem?_eq_getElem hp, h1, h2⟩
  · rintro ⟨p, d, hd, h1, h2⟩
    exact ⟨d, List.mem_of_getElem? hd, h1, h2⟩

/-- What an operation that is ready looks at is what it looked at in the chosen order. -/
theorem uses_at (hT : Tr cx D st) (hD : DOK P ops N D B) {L : Array Bool} (hcl : ∀ i, inL L i → ∀ x ∈ B i, inL L x) {p : Nat} {d : DOper} (hd : D[p]? = some d) (hn : ¬ inL L d.i) (hr : ∀ x ∈ B d.i, inL L x) :
    ∀ t ∈ d.o.uses, Env.get (mixE (st D.length).1 (st 0).1 (WL D L)) t = (st p).1.get t := by
  intro t ht
  have hp : p < D.length := (List.getElem?_eq_some_iff.1 hd).1
  obtain ⟨h1, h2⟩ := env_at hT hD t (Nat.le_of_lt hp)
  rw [get_mix]
  by_cases hw : ∃ (q : Nat) (d' : DOper), D[q]? = some d' ∧ d'.o.dst = some t
  · obtain ⟨q, d', hd', hdt⟩ := hw
    have huni : ∀ (q' : Nat) d'', D[q']? = some d'' → d''.o.dst = some t → q' = q := fun q' d'' h3 h4 => hD.uniq q' q d'' d' t h3 hd' h4 hdt
    by_cases hqp : q = p
    · subst hqp
      rw [hd] at hd'; simp at hd'; subst hd'
      have hW : WL D L t = false := by
        rw [Bool.eq_false_iff]
        intro hW
        obtain ⟨q', d'', h3, h4, h5⟩ := WL_iff.1 hW
        have := huni q' d'' h3 h4; subst this
        rw [hd] at h3; simp at h3; subst h3
        exact hn h5
      rw [hW, h2 (fun q' d'' h3 h4 h5 => by have := huni q' d'' h4 h5; omega)]
      simp
    · rcases hD.dep q p d' d t hd' hd hqp hdt ht with ⟨hlt, hb⟩ | ⟨hlt, hb⟩
      · have hW : WL D L t = true := WL_iff.2 ⟨q, d', hd', hdt, hr _ hb⟩
        rw [hW, h1 q d' hlt hd' hdt]; simp
      · have hW : WL D L t = false := by
          rw [Bool.eq_false_iff]
          intro hW
          obtain ⟨q', d'', h3, h4, h5⟩ := WL_iff.1 hW
          have := huni q' d'' h3 h4; subst this
          rw [hd'] at h3; simp at h3; subst h3
          exact hn (hcl _ h5 _ hb)
        rw [hW, h2 (fun q' d'' h3 h4 h5 => by have := huni q' d'' h4 h5; omega)]
        simp
  · have hW : WL D L t = false := by
      rw [Bool.eq_false_iff]
      intro hW
      obtain ⟨q', d'', h3, h4, h5⟩ := WL_iff.1 hW
      exact hw ⟨q', d'', h3, h4⟩
    rw [hW, h2 (fun q d' _ h4 h5 => hw ⟨q, d', h4, h5⟩)]
    simp

theorem getD_set (L : Array Bool) (i j : Nat) (hi : i < L.size) : (L.setIfInBounds i true).getD j false = if i = j then true else L.getD j false := by
  simp only [Array.getD_eq_getD_getElem?]
  by_cases h : i = j
  · subst h; rw [Array.getElem?_setIfInBounds_self_of_lt hi]; simp
  · rw [Array.getElem?_setIfInBounds_ne h]; simp [h]

/-- The environment behind one operation more. -/
theorem mix_next (hT : Tr cx D st) (hD : DOK P ops N D B) {L : Array Bool} {p : Nat} {d : DOper} (hd : D[p]? = some d) (hs : d.i < L.size) {v : AV} (hv : (st (p + 1)).1 = put (st p).1 d.o.dst v) (t : Nat) :
    Env.get (mixE (st D.length).1 (st 0).1 (WL D (L.setIfInBounds d.i true))) t = Env.get (put (mixE (st D.length).1 (st 0).1 (WL D L)) d.o.dst v) t := by
  have hp : p < D.length := (List.getElem?_eq_some_iff.1 hd).1
  rw [get_put, get_mix, get_mix]
  by_cases hdt : d.o.dst = some t
  · rw [if_pos hdt]
    have hW : WL D (L.setIfInBounds d.i true) t = true := WL_iff.2 ⟨p, d, hd, hdt, by simp [inL, getD_set L _ _ hs]⟩
    rw [hW]
    simp only [if_true]
    have := (env_at hT hD t (show p + 1 ≤ D.length by omega)).1 p d (by omega) hd hdt
    rw [← this, hv, get_put, if_pos hdt]
  · rw [if_neg hdt]
    have : WL D (L.setIfInBounds d.i true) t = WL D L t := by
      rw [Bool.eq_iff_iff, WL_iff, WL_iff]
      constructor
      · rintro ⟨q, d', h1, h2, h3⟩
        refine ⟨q, d', h1, h2, ?_⟩
        simp only [inL, getD_set L _ _ hs] at h3 ⊢
        split at h3
        · rename_i hij
          have := hD.inj p q d d' hd h1 hij; subst this
          rw [hd] at h1; simp at h1; subst h1
          exact absurd h2 hdt
        · exact h3
      · rintro ⟨q, d', h1, h2, h3⟩
        exact ⟨q, d', h1, h2, by simp only [inL, getD_set L _ _ hs] at h3 ⊢; split <;> simp_all⟩
    rw [this]

/-- The next operation with an effect. -/
theorem next_eff (D : List DOper) : ∀ (n p : Nat), p + n = D.length → ∃ J, p ≤ J ∧ J ≤ D.length ∧ (J = D.length ∨ ∃ d, D[J]? = some d ∧ d.eff = true) ∧ ∀ (q : Nat) d, p ≤ q → q < J → D[q]? = some d → d.eff = false
  | 0, p, h => ⟨p, Nat.le_refl _, by omega, .inl (by omega), fun q d h1 h2 => by omega⟩
  | n + 1, p, h => by
    have hp : p < D.length := by omega
    cases he : D[p].eff with
    | true => exact ⟨p, Nat.le_refl _, by omega, .inr ⟨_, List.getElem?_eq_getElem hp, he⟩, fun q d h1 h2 => by omega⟩
    | false =>
      obtain ⟨J, h1, h2, h3, h4⟩ := next_eff D n (p + 1) (by omega)
      refine ⟨J, by omega, h2, h3, fun q d h5 h6 hd => ?_⟩
      by_cases hq : q = p
      · subst hq; rw [List.getElem?_eq_getElem hp] at hd; simp at hd; subst hd; exact he
      · exact h4 q d (by omega) h6 hd

theorem WRel.pend1 (hw : WRel m H w) {obj : Obj} (hf : obj.firm = true) : WRel { m with ents := m.ents ++ [.pend] } (H ++ [obj]) w ∧ Ext m { m with ents := m.ents ++ [.pend] } w w := by
  have hx : Ext m { m with ents := m.ents ++ [.pend] } w w := ⟨rfl, fun id e' h => ⟨e', by
    show (m.ents ++ [Ent.pend])[id]? = _
    rw [List.getElem?_append_left (List.getElem?_eq_some_iff.1 h).1]; exact h, EntLe.refl e'⟩, fun _ _ h => h, fun _ _ _ => rfl⟩
  have hget : ∀ (id : Nat) (o' : Obj) (e' : Ent), (H ++ [obj])[id]? = some o' → (m.ents ++ [Ent.pend])[id]? = some e' → (H[id]? = some o' ∧ m.ents[id]? = some e') ∨ (e' = .pend ∧ o' = obj) := by
    intro id o' e' h1 h2
    rcases Nat.lt_or_ge id H.length with hl | hl
    · rw [List.getElem?_append_left hl] at h1
      rw [List.getElem?_append_left (by rw [hw.len]; exact hl)] at h2
      exact .inl ⟨h1, h2⟩
    · rw [List.getElem?_append_right hl] at h1
      rw [List.getElem?_append_right (by rw [hw.len]; exact hl), hw.len] at h2
      have : id - H.length = 0 := by
        rcases Nat.eq_zero_or_pos (id - H.length) with h | h
        · exact h
        · rw [List.getElem?_eq_none (by simp; omega)] at h1; simp at h1
      rw [this] at h1 h2
      simp at h1 h2
      exact .inr ⟨h2.symm, h1.symm⟩
  refine ⟨⟨by simp [hw.len], ?_, ?_, hw.st, hw.size⟩, hx⟩
  · intro id o' e' h1 h2
    rcases hget id o' e' h1 h2 with ⟨g1, g2⟩ | ⟨rfl, rfl⟩
    · exact (hw.obj id o' e' g1 g2).keep hx (fun _ _ _ => rfl) (fun _ _ _ _ h => h)
    · cases o' <;> simp [Obj.firm] at hf <;> trivial
  · intro i j o1 o2 e1 e2 b h1 hl1 h2 hb1 h3 hl2 h4 hb2
    rcases hget i o1 e1 h1 h2 with ⟨g1, g2⟩ | ⟨q1, q2⟩ <;> rcases hget j o2 e2 h3 h4 with ⟨g3, g4⟩ | ⟨p1, p2⟩
    · exact hw.sep i j o1 o2 e1 e2 b g1 hl1 g2 hb1 g3 hl2 g4 hb2
    · rw [p1] at hb2; simp [entBlk] at hb2
    · rw [q1] at hb1; simp [entBlk] at hb1
    · rw [p1] at hb2; simp [entBlk] at hb2

/-- From one place of the chosen order to a later one, nothing of effect in between: what is new is not there yet. -/
theorem pends_to (hT : Tr cx D st) (hD : DOK P ops N D B) : ∀ (n p : Nat) (m : Em), p + n ≤ D.length → (∀ (q : Nat) d, p ≤ q → q < p + n → D[q]? = some d → d.eff = false) → WRel m (st p).2 w →
    ∃ m', WRel m' (st (p + n)).2 w ∧ Ext m m' w w ∧ m'.B = m.B ∧ (∀ id, id < m.ents.length → m'.ents[id]? = m.ents[id]?) ∧ (∀ id, id < (st p).2.length → (st (p + n)).2[id]? = (st p).2[id]?) ∧ (st p).2.length ≤ (st (p + n)).2.length ∧
      ∀ (q : Nat) obj, p ≤ q → q < p + n → (st (q + 1)).2 = (st q).2 ++ [obj] → m'.ents[(st q).2.length]? = some .pend ∧ (st (p + n)).2[(st q).2.length]? = some obj
  | 0, p, m, _, _, hw => ⟨m, hw, .refl m w, rfl, fun _ _ => rfl, fun _ _ => rfl, Nat.le_refl _, fun q obj h1 h2 => by omega⟩
  | n + 1, p, m, hl, hne, hw => by
    obtain ⟨m1, h1, h2, h3, h4, h5, h6, h7⟩ := pends_to hT hD n p m (by omega) (fun q d g1 g2 => hne q d g1 (by omega)) hw
    have hlt : p + n < D.length := by omega
    have hlen1 : m1.ents.length = (st (p + n)).2.length := h1.len
    rcases step_heap hT hD (List.getElem?_eq_getElem hlt) (hne (p + n) _ (by omega) (by omega) (List.getElem?_eq_getElem hlt)) with h8 | ⟨obj, h8, h9⟩
    · refine ⟨m1, ?_, h2, h3, h4, ?_, ?_, ?_⟩
      · rw [show p + (n + 1) = p + n + 1 by omega, h8]; exact h1
      · rw [show p + (n + 1) = p + n + 1 by omega, h8]; exact h5
      · rw [show p + (n + 1) = p + n + 1 by omega, h8]; exact h6
      · intro q obj' g1 g2 g3
        rw [show p + (n + 1) = p + n + 1 by omega, h8]
        by_cases hq : q = p + n
        · subst hq; rw [h8] at g3; have := congrArg List.length g3; simp at this
        · exact h7 q obj' g1 (by omega) g3
    · obtain ⟨g1, g2⟩ := h1.pend1 h9
      refine ⟨_, by rw [show p + (n + 1) = p + n + 1 by omega, h8]; exact g1, h2.trans g2, h3, ?_, ?_, ?_, ?_⟩
      · intro id hid
        have : id < m1.ents.length := by
          have := hw.len; omega
        show (m1.ents ++ [Ent.pend])[id]? = _
        rw [List.getElem?_append_left this]; exact h4 id hid
      · intro id hid
        rw [show p + (n + 1) = p + n + 1 by omega, h8, List.getElem?_append_left (by omega)]; exact h5 id hid
      · rw [show p + (n + 1) = p + n + 1 by omega, h8]; simp; omega
      · intro q obj' q1 q2 q3
        rw [show p + (n + 1) = p + n + 1 by omega, h8]
        show (m1.ents ++ [Ent.pend])[_]? = _ ∧ _
        by_cases hq : q = p + n
        · subst hq
          rw [h8] at q3
          have := List.append_cancel_left q3
          simp at this; subst this
          refine ⟨?_, ?_⟩
          · rw [List.getElem?_append_right (by omega), hlen1]; simp
          · rw [List.getElem?_append_right (Nat.le_refl _)]; simp
        · obtain ⟨r1, r2⟩ := h7 q obj' q1 (by omega) q3
          exact ⟨by rw [List.getElem?_append_left (List.getElem?_eq_some_iff.1 r1).1]; exact r1, by rw [List.getElem?_append_left (List.getElem?_eq_some_iff.1 r2).1]; exact r2⟩

end Go.Lim
