/- Index.Values as a primitive of the E machine: sound. -/
import Derived.Test.YtalahofbjnmndaaDoorLimV35d
import Derived.Test.YtalahofbjnmndaaDoorLimT35
set_option linter.unusedVariables false
namespace Go.Proofs
open Go.RowKit Go.Lim Go.Shelf Go.Sort

theorem insB_perm (a : List UInt8) : ∀ l, (insB a l).Perm (a :: l)
  | [] => .refl _
  | b :: r => by
    unfold insB
    split
    · exact .refl _
    · exact ((insB_perm a r).cons b).trans (.swap a b r)
theorem sortB_perm : ∀ l, (sortB l).Perm l
  | [] => .refl _
  | a :: r => (insB_perm a (sortB r)).trans ((sortB_perm r).cons a)
theorem insB_sorted (a : List UInt8) : ∀ l : List (List UInt8), l.Pairwise (· ≤ ·) → (insB a l).Pairwise (· ≤ ·)
  | [], _ => by simp [insB]
  | b :: r, h => by
    unfold insB
    obtain ⟨h1, h2⟩ := List.pairwise_cons.1 h
    split
    · rename_i hab
      refine List.pairwise_cons.2 ⟨fun c hc => ?_, h⟩
      rcases List.mem_cons.1 hc with rfl | hc
      · exact hab
      · exact List.le_trans hab (h1 c hc)
    · rename_i hab
      refine List.pairwise_cons.2 ⟨fun c hc => ?_, insB_sorted a r h2⟩
      rcases List.mem_cons.1 ((insB_perm a r).mem_iff.1 hc) with rfl | hc
      · exact (List.le_total b c).resolve_right hab
      · exact h1 c hc
theorem sortB_sorted : ∀ l, (sortB l).Pairwise (· ≤ ·)
  | [] => .nil
  | a :: r => insB_sorted a _ (sortB_sorted r)
/-- Two ways to sort the same. -/
theorem mergeSort_sortB {l l' : List (List UInt8)} (h : l.Perm l') : (l.mergeSort fun x y => decide (x ≤ y)) = sortB l' := by
  have h1 : (l.mergeSort fun x y => decide (x ≤ y)).Pairwise (fun x y => decide (x ≤ y) = true) :=
    List.pairwise_mergeSort (fun a b c hab hbc => by simp only [decide_eq_true_eq] at *; exact List.le_trans hab hbc) (fun a b => by simp only [Bool.or_eq_true, decide_eq_true_eq]; exact List.le_total a b) l
  refine List.Perm.eq_of_pairwise (le := fun x y => x ≤ y) (fun a b _ _ hab hba => List.le_antisymm hab hba) (h1.imp fun h => by simpa using h) (sortB_sorted l') ?_
  exact ((List.mergeSort_perm _ _).trans h).trans (sortB_perm l').symm

/-- A key's two texts. -/
def keyOf (es : List (AV × AV)) (j : Nat) : List UInt8 × List UInt8 := match es[j]? with
  | some (.agg [.str a, .str b], _) => (a, b)
  | _ => ([], [])
theorem valsOf_range (key : List UInt8) : ∀ (es : List (AV × AV)), (es.all fun x => keyPair x.1) = true → valsP (keyOf es) key (List.range es.length) = valsOf key es
  | [], _ => rfl
  | (k, v) :: r, h => by
    rw [List.all_cons, Bool.and_eq_true] at h
    have ih := valsOf_range key r h.2
    unfold valsP at ih ⊢
    rw [List.length_cons, List.range_succ_eq_map, List.filter_cons, List.filter_map]
    match k, h.1 with
    | .agg [.str a, .str b], _ =>
      have e1 : ((fun j => decide ((keyOf ((AV.agg [.str a, .str b], v) :: r) j).1 = key)) ∘ Nat.succ) = fun j => decide ((keyOf r j).1 = key) := rfl
      have e2 : ((fun j => (keyOf ((AV.agg [.str a, .str b], v) :: r) j).2) ∘ Nat.succ) = fun j => (keyOf r j).2 := rfl
      simp only [valsOf]
      by_cases hk : a = key
      · rw [if_pos hk, if_pos (by simpa [keyOf] using hk), List.map_cons, List.map_map, e1, e2, ih]; rfl
      · rw [if_neg hk, if_neg (by simpa [keyOf] using hk), List.map_map, e1, e2, ih]
theorem valsP_perm (K : Nat → List UInt8 × List UInt8) (key : List UInt8) {xs ys : List Nat} (h : xs.Perm ys) : (valsP K key xs).Perm (valsP K key ys) := (h.filter _).map _

theorem keyPair_inv {m : Em} {w : World} {k : AV} {r : Value} (h : VR m w k r) (hk : keyPair k = true) : ∃ a b, k = .agg [.str a, .str b] ∧ r = pairV (bsA a, bsA b) := by
  unfold keyPair at hk
  split at hk <;> try (simp at hk; done)
  rename_i a b
  cases h with
  | agg cs rs hl hv =>
    match rs, hl with
    | [x, y], _ =>
      have h0 := hv 0 _ _ rfl rfl
      have h1 := hv 1 _ _ rfl rfl
      cases h0; cases h1
      exact ⟨a, b, rfl, rfl⟩

theorem flat_strs (l : List (List UInt8)) : AV.flat (l.map AV.str) = l.map AV.str := by
  induction l with
  | nil => rfl
  | cons x r ih => simp only [List.map_cons, AV.flat, AV.cells, ih]; rfl

set_option maxHeartbeats 1000000 in
/-- New blocks only, and a row of strings among them: what a function of ours leaves that the machine takes for a primitive. -/
theorem outc_strs {m : Em} {H : Heap} {w w' : World} {l : List (List UInt8)} {g cap : Nat} (hw : WRel m H w) (hb : RowKit.Below w.heap.size w w') (hne : l ≠ [])
    (hrow : w'.ownsRow w.heap.size 9 1 (.slice (some ⟨g, 0, none⟩) l.length cap) l.length (l.map encStr)) :
    Outc m H w (.slc .any (l.map .str)) H (.slice (some ⟨g, 0, none⟩) l.length cap) w' := by
  have hpos : 0 < l.length := List.length_pos_iff.2 hne
  obtain ⟨hgB, hcap⟩ : w.heap.size ≤ g ∧ l.length ≤ cap := by
    rcases hrow.2 with ⟨h, _⟩ | ⟨g', cap', cur, e, h1, _, h2, _⟩
    · cases h
    · cases e; exact ⟨h1, h2⟩
  have hcell : ∀ j, j < l.length → w'.cell? ⟨g, j, none⟩ = some (encStr (l.getD j [])) := fun j hj => by
    rw [hrow.cellAt j (by omega)]
    simp [List.getD, List.getElem?_eq_getElem hj]
  have hst : ∀ b o, m.St b o → b < w.heap.size := fun b o h => by
    obtain ⟨v, hv⟩ := hw.st b o h
    exact cell_lt hv
  have hx : Ext m { m with St := fun b o => m.St b o ∨ (b = g ∧ o < l.length) } w w' := ⟨rfl, fun id e he => ⟨e, he, EntLe.refl e⟩, fun _ _ h => .inl h, fun b o h => hb.cell (p := ⟨b, o, none⟩) (hst b o h)⟩
  have hlow : RowKit.Below m.B w w' := hb.mono hw.size
  refine ⟨{ m with St := fun b o => m.St b o ∨ (b = g ∧ o < l.length) }, ?_, ⟨hx, hlow⟩, ?_, ⟨Nat.le_refl _, fun id h => ⟨rfl, h⟩⟩⟩
  · have := VR.slc (m := { m with St := fun b o => m.St b o ∨ (b = g ∧ o < l.length) }) (w := w') .any (l.map .str) g 0 cap 1 (fun i => encStr (l.getD i [])) (by simpa using hcap) (fun e he => by
      simp only [List.mem_map] at he
      obtain ⟨x, _, rfl⟩ := he; rfl) (fun j hj => by
      rw [flat_strs, List.length_map] at hj
      rw [Nat.zero_add]
      exact ⟨.inr ⟨rfl, hj⟩, hcell j hj⟩) (fun j v hv => by
      rw [flat_strs, List.getElem?_map] at hv
      cases hz : l[j]? with
      | none => rw [hz] at hv; simp at hv
      | some x =>
        rw [hz] at hv; simp at hv; subst hv
        rw [List.getD_eq_getElem?_getD, hz]
        exact .str x) trivial
    rw [List.length_map] at this
    exact this
  · refine ⟨hw.len, fun id o e h1 h2 => (hw.obj id o e h1 h2).keep hx (fun hl b he => ?_) (fun hl b off he hs => ?_), hw.sep, fun b o hs => ?_, Nat.le_trans hw.size hb.size⟩
    · exact hb.block b ((hw.obj id o e h1 h2).blk_lt hl he).1
    · rcases hs with hs | ⟨rfl, _⟩
      · exact hs
      · have := ((hw.obj id o e h1 h2).blk_lt hl he).1
        omega
    · rcases hs with hs | ⟨rfl, ho⟩
      · obtain ⟨v, hv⟩ := hw.st b o hs
        exact ⟨v, (hb.cell (p := ⟨b, o, none⟩) (hst b o hs)).trans hv⟩
      · exact ⟨_, hcell o ho⟩

theorem outc_below {m : Em} {H : Heap} {w w' : World} {v : AV} {r : Value} (hw : WRel m H w) (hb : RowKit.Below w.heap.size w w') (hv : VR m w v r) : Outc m H w v H r w' := by
  have hst : ∀ b o, m.St b o → b < w.heap.size := fun b o h => by
    obtain ⟨v, hv⟩ := hw.st b o h
    exact cell_lt hv
  have hx : Ext m m w w' := ⟨rfl, fun id e he => ⟨e, he, EntLe.refl e⟩, fun _ _ h => h, fun b o h => hb.cell (p := ⟨b, o, none⟩) (hst b o h)⟩
  refine ⟨m, hv.ext hx, ⟨hx, hb.mono hw.size⟩, ?_, .refl _ _⟩
  refine ⟨hw.len, fun id o e h1 h2 => (hw.obj id o e h1 h2).keep hx (fun hl b he => ?_) (fun hl b off he hs => hs), hw.sep, fun b o hs => ?_, Nat.le_trans hw.size hb.size⟩
  · exact hb.block b ((hw.obj id o e h1 h2).blk_lt hl he).1
  · obtain ⟨v, hv⟩ := hw.st b o hs
    exact ⟨v, (hb.cell (p := ⟨b, o, none⟩) (hst b o hs)).trans hv⟩

theorem Tryd.values_ok : FunOK Tryd.prog X35.gl 38 (.prim pValues) := by
  intro vs H v H' s h
  unfold pValues at h
  split at h <;> try (simp at h; done)
  rename_i id off key
  split at h <;> try (simp at h; done)
  rename_i cs hbox
  split at h <;> try (simp at h; done)
  rename_i mid hmid
  split at h <;> try (simp at h; done)
  rename_i es hmp
  split at h <;> try (simp at h; done)
  rename_i hcond
  simp only [Option.some.injEq, Prod.mk.injEq] at h
  obtain ⟨rfl, rfl, rfl⟩ := h
  simp only [Bool.and_eq_true, decide_eq_true_eq] at hcond
  refine ⟨?_, EscP.refl _⟩
  intro m w rs hw hG hl
  match rs, hl with
  | [], hl => exact absurd hl.1 (by simp)
  | [_], hl => exact absurd hl.1 (by simp)
  | _ :: _ :: _ :: _, hl => exact absurd hl.1 (by simp)
  | [r1, r2], hl =>
    have h1 := hl.2 0 _ _ rfl rfl
    have h2 := hl.2 1 _ _ rfl rfl
    cases h2
    cases h1 with
    | ptr _ _ blk he =>
      obtain ⟨_, ⟨c, E, hc, hcv⟩, _⟩ := hw.obj id _ _ hbox he
      obtain ⟨mv, hmv⟩ : ∃ mv, c.toList[off + 1]? = some mv := by
        have := (List.getElem?_eq_some_iff.1 hmid).1
        exact ⟨_, List.getElem?_eq_getElem (by rw [← hcv.1]; exact this)⟩
      have hmvr := hcv.2 _ _ _ hmid hmv
      cases hmvr with
      | map _ mb hme =>
        obtain ⟨_, ⟨ms, ck, hmb, hks, _, hMB⟩, _⟩ := hw.obj mid _ _ hmp hme
        have hlen : es.length = ms.size := by have := hks.1; simpa using this
        have hcell : w.cell? ⟨blk, off + 1, none⟩ = some (.map (some mb)) := by
          simp [World.cell?, hc]
          rw [← Array.getElem?_toList]; exact hmv
        have hK : ∀ j (h : j < ms.size), (ms[j]).key = pairV (bsA (keyOf es j).1, bsA (keyOf es j).2) := fun j hj => by
          have hje : j < es.length := by omega
          have hk := hks.2 j (es[j]).1 (ms[j]).key (by simp [hje]) (by simp [hj])
          obtain ⟨a, b, e1, e2⟩ := keyPair_inv hk (List.all_eq_true.1 hcond.1 _ (List.getElem_mem hje))
          have : keyOf es j = (a, b) := by
            unfold keyOf
            rw [List.getElem?_eq_getElem hje]
            generalize hkk : es[j] = kv at e1
            obtain ⟨k, v⟩ := kv
            simp only at e1
            subst e1
            rfl
          rw [e2, this]
        have hwalk := Tryd.values38 Fence.wide 9 trivial trivial trivial trivial rfl (by omega)
          (fun b o c ss W hH hb hs => callsIn_wide.2 (AnyM.slices_Sort_string Tryd.sortA b o c ss W hH hb hs))
          (fun p c W => callsIn_wide.2 (AnyM.slices_Sort_string_none Tryd.sortA p c W)) blk off mb ck ms (keyOf es) hK (by omega) hMB key w hcell hmb
        refine .inl ⟨enters_of Tryd.func38 (by kernel_rfl) rfl _ _, (callsIn_wide.1 hwalk).mono ?_⟩
        rintro e w' ⟨xs, hperm, hb, hcase⟩
        have hvp : (valsP (keyOf es) key xs).Perm (valsOf key es) := by
          rw [← valsOf_range key es hcond.1, hlen]
          exact valsP_perm _ _ hperm
        have hms := mergeSort_sortB hvp
        rcases hcase with ⟨h0, rfl⟩ | ⟨g, cap, h0, rfl, hrow⟩
        · have : sortB (valsOf key es) = [] := by rw [← hms, h0]; simp
          rw [if_pos this]
          exact ⟨_, rfl, outc_below hw hb (.slcN _ (.inl rfl))⟩
        · have hl1 : (sortB (valsOf key es)).length = (valsP (keyOf es) key xs).length := by rw [← hms, List.length_mergeSort]
          have hne : sortB (valsOf key es) ≠ [] := fun h => h0 (List.length_eq_zero_iff.1 (by rw [← hl1, h]; rfl))
          rw [if_neg hne]
          rw [hms, ← hl1] at hrow
          rw [← hl1]
          exact ⟨_, rfl, outc_strs hw hb hne hrow⟩
end Go.Proofs
