import Derived.Test.YtalahofbjnmndaaDoorLimV35c
import Derived.Shelf.SortM.SortNone
import Derived.Sort.OwnSorted
import Derived.Maps.AppendAt
import Derived.Lib.Hide
namespace Go.Proofs
attribute [local go_sem] Oper.semAt_some
open Go.RowKit Go.Lim Go.Shelf Go.Sort
abbrev bsA (l : List UInt8) : ByteArray := ⟨l.toArray⟩
/-- The values that have come. -/
def valsP (K : Nat → List UInt8 × List UInt8) (key : List UInt8) (pre : List Nat) : List (List UInt8) := (pre.filter fun j => decide ((K j).1 = key)).map fun j => (K j).2
theorem valsP_snoc (K : Nat → List UInt8 × List UInt8) (key : List UInt8) (pre : List Nat) (x : Nat) : valsP K key (pre ++ [x]) = valsP K key pre ++ (if (K x).1 = key then [(K x).2] else []) := by
  unfold valsP
  rw [List.filter_append, List.map_append]
  congr 1
  by_cases h : (K x).1 = key <;> simp [h]
theorem valsP_len (K : Nat → List UInt8 × List UInt8) (key : List UInt8) (pre : List Nat) : (valsP K key pre).length ≤ pre.length := by
  unfold valsP; rw [List.length_map]; exact List.length_filter_le _ _
/-- A round's activation. -/
def actV (w : World) (ib io b B : Nat) (key : List UInt8) (k : List UInt8 × List UInt8) : Act :=
  { tmps := #[.pointer (some ⟨ib, io, none⟩), .string (bsA key), undef, .pointer (some ⟨w.heap.size, 0, none⟩), .slice none 0 0, .pointer (some ⟨w.heap.size + 1, 0, none⟩), .pointer (some ⟨B, 0, none⟩), .pointer (some ⟨ib, io, none⟩), .pointer (some ⟨ib, io, none⟩),
      .pointer (some ⟨ib, io + 1, none⟩), .map (some b), .func (.func 70) #[] #[.pointer (some ⟨w.heap.size + 1 + 1, 0, none⟩)], .agg #[.string (bsA k.1), .string (bsA k.2)], undef, undef, undef, undef, undef, undef, undef, undef, undef, undef, undef, undef], defers := [] }
/-- Between two rounds. -/
def ValI (w : World) (K : Nat → List UInt8 × List UInt8) (key : List UInt8) (pre : List Nat) (W : World) : Prop :=
  Boxed W w.heap.size 9 (.string (bsA key)) ∧ Below w.heap.size w W ∧ ∃ v, Boxed W (w.heap.size + 1) 28 v ∧ W.ownsRow (w.heap.size + 2) 9 1 v (valsP K key pre).length ((valsP K key pre).map encStr) ∧ (v = .slice none 0 0 ↔ valsP K key pre = [])
theorem valI_own (w : World) (K : Nat → List UInt8 × List UInt8) (key : List UInt8) {B : Nat} (hB : w.heap.size ≤ B) : OwnFrom B (ValI w K key) :=
  OwnFrom.and (Own.from (boxed_own _ _ (fun _ => Value.string (bsA key))) _) (OwnFrom.and (ownFrom_below (Nat.le_refl _) hB)
    (Own.from (holdsRow_own (w.heap.size + 2) (w.heap.size + 1) 28 9 1 (fun pre => (valsP K key pre).length) (fun pre => (valsP K key pre).map encStr) (fun pre v => v = .slice none 0 0 ↔ valsP K key pre = [])) _))

/-- What the call leaves. -/
def ValsOut (w : World) (K : Nat → List UInt8 × List UInt8) (key : List UInt8) (n : Nat) (e : Ending) (w' : World) : Prop :=
  ∃ xs : List Nat, xs.Perm (List.range n) ∧ Below w.heap.size w w' ∧
    ((valsP K key xs = [] ∧ e = .returned (.slice none 0 0)) ∨
     ∃ g cap, valsP K key xs ≠ [] ∧ e = .returned (.slice (some ⟨g, 0, none⟩) (valsP K key xs).length cap) ∧
       w'.ownsRow w.heap.size 9 1 (.slice (some ⟨g, 0, none⟩) (valsP K key xs).length cap) (valsP K key xs).length (((valsP K key xs).mergeSort fun x y => decide (x ≤ y)).map encStr))

theorem ownsRow_low {w : World} {base base' : Nat} {e : TypeId} {size : Nat} {v : Value} {n : Nat} {xs : List Value} (h : w.ownsRow base e size v n xs) (hb : base' ≤ base) : w.ownsRow base' e size v n xs := by
  refine ⟨h.1, ?_⟩
  rcases h.2 with h2 | ⟨g, cap, cur, h1, h2, h3⟩
  · exact .inl h2
  · exact .inr ⟨g, cap, cur, h1, Nat.le_trans hb h2, h3⟩
/-- The key's box, behind an append to the other box's slice. -/
theorem keyBox {W w1 : World} {n₀ B B' : Nat} {t' e : TypeId} {size : Nat} {u v v' : Value} {k : Nat} {xs : List Value} {tmp : Obj}
    (hu : Boxed W B' t' u) (hrow : W.ownsRow n₀ e size v k xs) (hgrow : (W.alloc tmp).grownBy w1 v.ownBlock) (hB : B' < n₀) (hne : B' ≠ B) : Boxed (w1.setCell ⟨B, 0, none⟩ v') B' t' u := by
  have h1 : Boxed w1 B' t' u := (hu.alloc tmp).kept hgrow (row_ne_low hrow hB)
  exact h1.other hne v'
set_option maxRecDepth 100000 in
set_option maxHeartbeats 2000000 in
theorem Tryd.values38 (F : Fence) (n : Nat) (h38 : F.fn 38) (h57 : F.fn 57) (h70 : F.fn 70) (h58 : F.fn 58) (hro : F.round = none) (hn : 4 ≤ n) (hsort : ∀ blk off cap (ss : List (List UInt8)) (W : World), Holds encStr W blk off ss.toArray → blk < W.heap.size → ss.length < 4611686018427387904 → CallsIn F (n - 1) Tryd.prog 58 #[.slice (some ⟨blk, off, none⟩) ss.length cap] W fun e w' => e = .returned (.tuple #[]) ∧ ∃ n os, w' = grow (putRow encStr (Sort.ahead W n) blk off (ss.mergeSort fun x y => decide (x ≤ y)).toArray) os) (hsort0 : ∀ (p : Option Addr) (cap : Nat) (W : World), CallsIn F (n - 1) Tryd.prog 58 #[.slice p 0 cap] W fun e w' => e = .returned (.tuple #[]) ∧ w' = W) (ib io b ck : Nat) (ms : Array MapEntry) (K : Nat → List UInt8 × List UInt8) (hK : ∀ j (h : j < ms.size), (ms[j]).key = pairV (bsA (K j).1, bsA (K j).2)) (hms : ms.size ≤ 1000000)
    (hmb : MB ms ck) (key : List UInt8) (w : World) (hm : w.cell? ⟨ib, io + 1, none⟩ = some (.map (some b))) (hb : w.heap[b]? = some (.map ms ck)) :
    CallsIn F n Tryd.prog 38 #[.pointer (some ⟨ib, io, none⟩), .string (bsA key)] w (ValsOut w K key ms.size) := by
  refine callsIn_of_wp_marks Tryd.func38 rfl h38 ?_ hro
  simp only [Tryd.ntmps38, List.size_toArray, List.length_cons, List.length_nil, Nat.reduceAdd, Nat.reduceSub, Array.replicate_succ, Array.replicate_zero, List.push_toArray, List.append_toArray, List.nil_append, List.cons_append]
  have hib : ib < w.heap.size := by
    cases h : w.heap[ib]? with
    | none => simp [World.cell?, h] at hm
    | some o => exact (Array.getElem?_eq_some_iff.1 h).1
  have hm2 : ((w.alloc (.cells #[.string (bsA key)] 9)).alloc (.cells #[.slice none 0 0] 28)).cell? ⟨ib, io + 1, none⟩ = some (.map (some b)) := by
    rw [World.cell?_of_block (Below.heap_alloc _ _ ib (by simp; omega)), World.cell?_of_block (Below.heap_alloc w _ ib hib)]
    exact hm
  gi_wp2
  refine ⟨fun _ => by omega, (Tryd.keys57 F (n - 1) h57 hro _ _).mono ?_⟩
  rintro e w' ⟨rfl, rfl⟩
  gi_wp2
  have bK0 := ((Boxed.new w 9 (.string (bsA key))).alloc (.cells #[.slice none 0 0] 28)).alloc (.cells #[.map (some b)] 48)
  have bO0 := (Boxed.new (w.alloc (.cells #[.string (bsA key)] 9)) 28 (.slice none 0 0)).alloc (.cells #[.map (some b)] 48)
  have bB0 : Below w.heap.size w (((w.alloc (.cells #[.string (bsA key)] 9)).alloc (.cells #[.slice none 0 0] 28)).alloc (.cells #[.map (some b)] 48)) := (((Below.refl _ w).alloc (Nat.le_refl _) _).alloc (by simp) _).alloc (by simp; omega) _
  simp only [World.size_alloc] at bO0
  obtain ⟨W0, hW0⟩ : ∃ W0, ((w.alloc (.cells #[.string (bsA key)] 9)).alloc (.cells #[.slice none 0 0] 28)).alloc (.cells #[.map (some b)] 48) = W0 := ⟨_, rfl⟩
  have hs0 : W0.heap.size = w.heap.size + 3 := by rw [← hW0]; simp
  have hbl : b < w.heap.size := (Array.getElem?_eq_some_iff.1 hb).1
  have hbx : W0.heap[w.heap.size + 2]? = some (.cells #[.map (some b)] 48 (0, 0)) := by
    rw [← hW0]
    have := World.alloc_heap_new ((w.alloc (.cells #[.string (bsA key)] 9)).alloc (.cells #[.slice none 0 0] 28)) (.cells #[.map (some b)] 48)
    rwa [World.size_alloc, World.size_alloc] at this
  have hbox : W0.cell? ⟨w.heap.size + 2, 0, none⟩ = some (.map (some b)) := by simp [World.cell?, hbx]
  rw [hW0] at bK0 bO0 bB0 ⊢
  have hseq : SeqStopsK F (n - 1) Tryd.prog 70 #[.pointer (some ⟨w.heap.size + 2, 0, none⟩)] (fun j => #[pairV (bsA (K j).1, bsA (K j).2)]) KeepsWalks (fun xs => xs.Perm (List.range ms.size)) (fun _ => True) ms.size W0 := by
    intro l J Jx W hW hJ _ hY hJ0
    exact Tryd.keys70 F (n - 1) h70 hro (by omega) l (w.heap.size + 2) b ck ms (fun j => (bsA (K j).1, bsA (K j).2)) hK hmb J Jx hY W hJ ((World.cell?_of_block (hW.block (w.heap.size + 2) (by omega))).trans hbox) ((hW.block b (by omega)).trans ((bB0.block b hbl).trans hb)) hJ0
  clear hW0 hm2
  refine wpIn_rangeFunc_ownH hro (by omega) rfl h70 (enters_of Tryd.func70 (by kernel_rfl) rfl) hseq walksK_t walksK_b (.refl _ _) (fun _ => rfl) (ValI w K key) (fun _ _ _ => False) (valI_own w K key (by omega)) (fun _ _ _ _ _ hs _ _ => hs) ?_
    (fun x a' W => ∃ B, w.heap.size + 1 < B ∧ W.heap[B]? = some (.cells #[.string (bsA (K x).1), .string (bsA (K x).2)] 64 (0, 0)) ∧ a' = actV w ib io b B key (K x)) ?_ ?assign ?body ?done ?stop
  · exact ⟨bK0, bB0, _, bO0, ⟨rfl, .inl ⟨rfl, rfl⟩⟩, by simp [valsP]⟩
  · rintro x a' s X Y row ⟨B, h1, h2, h3⟩ hg hr
    refine ⟨B, h1, ?_, h3⟩
    exact (hg.block B (Array.getElem?_eq_some_iff.1 h2).1 (fun e => by obtain ⟨_, o, ho, hc⟩ := hr B e.symm; rw [h2] at ho; cases ho; cases hc)).trans h2
  case assign =>
    rintro l pre x W K' ⟨bK1, bB1, v, bO1, hrow, hnil⟩ hK'
    have hsz := bB1.size
    unfold pairV
    gi_wp2
    exact hK' _ _ ((KeepsOthers.alloc _ _).from _) (KeepsOthers.alloc _ _).walks ⟨bK1.alloc _, bB1.alloc hsz _, v, bO1.alloc _, hrow.alloc _, hnil⟩ ⟨W.heap.size, bO1.lt, World.alloc_heap_new W _, rfl⟩
  case body =>
    rintro l pre x a' W hl ⟨r, hr⟩ ⟨bK1, bB1, v, bO1, hrow, hnil⟩ ⟨B, hB, hBx, rfl⟩ hlt
    unfold actV
    have cB0 : W.cell? ⟨B, 0, none⟩ = some (.string (bsA (K x).1)) := by simp [World.cell?, hBx]
    have cB1 : W.cell? ⟨B, 1, none⟩ = some (.string (bsA (K x).2)) := by simp [World.cell?, hBx]
    have cK := bK1.cell
    have cO := bO1.cell
    have hpl := valsP_len K key pre
    obtain ⟨i0, hi⟩ : ∃ i0, Tryd.prog.info? 9 = some i0 := ⟨_, rfl⟩
    have hz0 : i0.zero = some (.string ⟨#[]⟩) := by have h : (Tryd.prog.info? 9).bind (·.zero) = some (.string ⟨#[]⟩) := by kernel_rfl
                                                    rw [hi] at h; exact h
    have hz1 : i0.size = 1 := by have h : (Tryd.prog.info? 9).map (·.size) = some 1 := by kernel_rfl
                                 rw [hi] at h; exact Option.some.inj h
    have hz2 : i0.bytes = 16 := by have h : (Tryd.prog.info? 9).map (·.bytes) = some 16 := by kernel_rfl
                                   rw [hi] at h; exact Option.some.inj h
    have hmax : maxLen = 9223372036854775807 := rfl
    gi_wp2_with (gi_at_builtin; (refine wpListIn_append_own _ rfl _ _ 28 rfl (w.heap.size + 2) 9 i0 (.string ⟨#[]⟩) 1 16 Tryd.underlying28 hi hz0 hz1 hz2 rfl (by decide) _ _ _ rfl (hrow.alloc _) ⟨W.heap.size, 0, none⟩ 1 1 [.string (bsA (K x).2)] rfl rfl (cell_one_new _ _ _) (by simp [Value.oneCell']) (by omega) (by omega) (by have := bO1.lt; simp; omega) ?_); intro v' w1 hown' hgrow _; (obtain ⟨g', cap', rfl⟩ := ownsRow_succ hown'; obtain ⟨hv1, hv2, hr2, hk2, hb2⟩ := bO1.appended (by decide) (ownsRow_low (base' := w.heap.size) hrow (by omega)) bB1.size (by omega) (ownsRow_low (base' := w.heap.size) hown' (by omega)) hgrow; have hr2 := hown'.kept (grownBy_setCell' w1 (w.heap.size + 1) (.slice (some ⟨g', 0, none⟩) ((valsP K key pre).length + 1) cap')) (.inr (hv1.not_row (by decide) hown').symm); have hc1 := hv1.cell; have hf1 := hv1.frozen))
    · have hx : (K x).1 = key := by simp_all
      have e := valsP_snoc K key pre x
      rw [if_pos hx] at e
      exact ⟨hk2.from _, hk2.walks, keyBox bK1 hrow hgrow (by omega) (by omega), bB1.trans hb2, _, hv2, by rw [e]; simpa using hr2, by rw [e]; simp⟩
    · have hx : ¬ (K x).1 = key := by simp_all
      have e := valsP_snoc K key pre x
      rw [if_neg hx, List.append_nil] at e
      exact ⟨KeepsFrom.refl _ _, KeepsWalks.refl _, bK1, bB1, v, bO1, by rw [e]; exact hrow, by rw [e]; exact hnil⟩
  case done =>
    rintro D zs W hD hperm ⟨bK1, bB1, v, bO1, hrow, hnil⟩ hKD
    have cO := bO1.cell
    gi_wp2
    refine ⟨fun _ => by omega, ?_⟩
    have hpl := valsP_len K key zs
    have hzl := hperm.length_eq
    rw [List.length_range] at hzl
    rcases hrow.2 with ⟨rfl, h0⟩ | ⟨g, cap, cur, rfl, hbase, hbg, h1, h2, h3, h4⟩
    · have HV : Hid (valsP K key zs = []) := Lib.hid (hnil.1 rfl)
      clear hnil h0 hzl hpl hrow
      refine (hsort0 none 0 W).mono ?_
      rintro e w' ⟨rfl, hw⟩
      obtain rfl : W = w' := hw.symm
      gi_wp2
      refine ⟨by simp, .inl ⟨_, _, rfl, run_takeDeferred hKD, ?_⟩⟩
      exact ⟨_, results_tmp rfl _ _ _, zs, hperm, bB1.trans (belowK_b (w := w) (Nat.le_refl _) W D _ _ (by omega) hKD rfl rfl), .inl ⟨HV.out, rfl⟩⟩
    · have HV : Hid (valsP K key zs ≠ []) := Lib.hid fun h => by have := hnil.2 h; cases this
      refine (hsort g 0 cap (valsP K key zs) W (holds_of_block hbg (by simpa using h4)) (Array.getElem?_eq_some_iff.1 hbg).1 (by omega)).mono ?_
      rintro e w' ⟨rfl, nd, os, rfl⟩
      have hgr := grownBy_sorted (w := W) (g := g) (n := nd) (os := os) ((valsP K key zs).mergeSort fun x y => decide (x ≤ y)).toArray
      have hso := ownsRow_sorted (n := nd) (os := os) (ts := (valsP K key zs).mergeSort fun x y => decide (x ≤ y)) (List.length_mergeSort _) hbase hbg h1 h2 h3
      have bO2 := bO1.kept hgr (bO1.not_row (by decide) hrow)
      have hB2 : RowKit.Below w.heap.size W (grow (putRow encStr (Sort.ahead W nd) g 0 ((valsP K key zs).mergeSort fun x y => decide (x ≤ y)).toArray) os) := (RowKit.Below.refl _ W).grown hgr bB1.size (fun k e => by cases e; omega)
      have hKD2 : (grow (putRow encStr (Sort.ahead W nd) g 0 ((valsP K key zs).mergeSort fun x y => decide (x ≤ y)).toArray) os).heap[D]? = some (.deferred (some [])) := (hgr.block D (Array.getElem?_eq_some_iff.1 hKD).1 (fun e => by cases e; rw [hbg] at hKD; cases hKD)).trans hKD
      generalize grow (putRow encStr (Sort.ahead W nd) g 0 ((valsP K key zs).mergeSort fun x y => decide (x ≤ y)).toArray) os = W2 at *
      have cO2 := bO2.cell
      clear hnil hzl
      gi_wp2
      refine ⟨by simp, .inl ⟨_, _, rfl, run_takeDeferred hKD2, ?_⟩⟩
      exact ⟨_, results_tmp rfl _ _ _, zs, hperm, (bB1.trans hB2).trans (belowK_b (w := w) (Nat.le_refl _) W2 D _ _ (by omega) hKD2 rfl rfl), .inr ⟨g, cap, HV.out, rfl, ownsRow_low (ownsRow_putObj hso _ hKD2 rfl) (by omega)⟩⟩
  case stop =>
    rintro D c pre W _ _ h _
    exact h.elim
end Go.Proofs
