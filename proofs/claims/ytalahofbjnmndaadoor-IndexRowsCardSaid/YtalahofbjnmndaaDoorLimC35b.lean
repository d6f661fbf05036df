import Derived.Test.YtalahofbjnmndaaDoorLimC35
set_option linter.unusedVariables false
namespace Go.Lim.X35
open Go Go.Lim

theorem fin_bool (H : Heap) (b : Bool) : fin H.length (.bool b) H none = (.bool b, H, none) := by
  simp [fin, strip, AV.lt, Esc.ge]

theorem And1_E (n : Nat) (x y : Bool) (H : Heap) : callN tab.get gl (n + 1) 19 [.bool x, .bool y] H = some (.bool (x && y), H, none) := by
  refine callN_code (by rfl) (by rfl) (ew_seq (ew_reg ?_))
  refine eo_p (by rfl) (by rfl) (by rfl) (eo_nil (ew_seq (ew_reg ?_)))
  cases x
  · iterate 2 refine eo_p (by rfl) (by rfl) (by rfl) ?_
    refine eo_n (by rfl) ?_
    iterate 2 refine eo_p (by rfl) (by rfl) (by rfl) ?_
    refine eo_nil (ew_keep (ew_ret ⟨.inr rfl, _, by rfl, ?_⟩))
    exact fin_bool H _
  · iterate 5 refine eo_p (by rfl) (by rfl) (by rfl) ?_
    refine eo_nil (ew_keep (ew_ret ⟨.inr rfl, _, by rfl, ?_⟩))
    exact fin_bool H _
theorem Or1_E (n : Nat) (x y : Bool) (H : Heap) : callN tab.get gl (n + 1) 20 [.bool x, .bool y] H = some (.bool true, H, none) := by
  refine callN_code (by rfl) (by rfl) (ew_seq (ew_reg ?_))
  refine eo_p (by rfl) (by rfl) (by rfl) (eo_nil (ew_seq (ew_reg ?_)))
  refine eo_p (by rfl) (by rfl) (by rfl) ?_
  refine eo_nil (ew_ret ⟨.inr rfl, _, by rfl, ?_⟩)
  exact fin_bool H _
theorem Less1_E (n : Nat) (x y : Bool) (H : Heap) : callN tab.get gl (n + 1) 21 [.bool x, .bool y] H = some (.bool (!y), H, none) := by
  refine callN_code (by rfl) (by rfl) (ew_seq (ew_reg ?_))
  refine eo_p (by rfl) (by rfl) (by rfl) (eo_nil (ew_seq (ew_reg ?_)))
  iterate 3 refine eo_p (by rfl) (by rfl) (by rfl) ?_
  refine eo_nil (ew_ret ⟨.inr rfl, _, by rfl, ?_⟩)
  exact fin_bool H _

theorem fin_slcI (H : Heap) (o : List Int) : fin H.length (slcI o) H none = (slcI o, H, none) := by
  by_cases h : o = []
  · subst h; simp [fin, slcI, strip, stripL, AV.lt, AV.ltL, Esc.ge]
  · have h1 : ∀ (n : Nat) (H : Heap) (l : List Int), stripL n H (ints l) = ints l := fun n H l => by
      induction l with
      | nil => rfl
      | cons x r ih => simp only [ints, List.map_cons, stripL, strip] at ih ⊢; rw [ih]
    have h2 : ∀ (n : Nat) (l : List Int), AV.ltL n (ints l) = true := fun n l => by
      induction l with
      | nil => rfl
      | cons x r ih => simp only [ints, List.map_cons, AV.ltL, AV.lt] at ih ⊢; rw [ih]; rfl
    simp [fin, slcI, h, strip, h1, AV.lt, h2, Esc.ge]

theorem And_E (n : Nat) (ta tb : Tok) (a b : List Int) (H : Heap) (hl : a.length + b.length ≤ 1000) (hn : a.length + b.length + 4 ≤ n) :
    callN tab.get gl (n + 1) 6 [.slc ta (ints a), .slc tb (ints b)] H = some (slcI (mergeS (fun x y => x && y) a b), H, none) := by
  obtain ⟨m, rfl⟩ : ∃ m, n = m + 2 := ⟨n - 2, by omega⟩
  refine callN_code (by rfl) (by rfl) (ew_seq (ew_reg ?_))
  refine eo_p (by rfl) (by rfl) (by rfl) (eo_nil (ew_seq (ew_reg ?_)))
  iterate 2 refine eo_p (by rfl) (by rfl) (by rfl) ?_
  refine eo_h (by rfl) (by rfl) (merge_E (fun x y => x && y) 19 (m + 1) (fun x y H => And1_E m x y H) ta tb a b H hl (by omega)) ?_
  refine eo_p (by rfl) (by rfl) (by rfl) ?_
  refine eo_nil (ew_keep (ew_ret ⟨.inr rfl, _, by rfl, ?_⟩))
  exact fin_slcI H _
theorem Or_E (n : Nat) (ta tb : Tok) (a b : List Int) (H : Heap) (hl : a.length + b.length ≤ 1000) (hn : a.length + b.length + 4 ≤ n) :
    callN tab.get gl (n + 1) 7 [.slc ta (ints a), .slc tb (ints b)] H = some (slcI (mergeS (fun _ _ => true) a b), H, none) := by
  obtain ⟨m, rfl⟩ : ∃ m, n = m + 2 := ⟨n - 2, by omega⟩
  refine callN_code (by rfl) (by rfl) (ew_seq (ew_reg ?_))
  refine eo_p (by rfl) (by rfl) (by rfl) (eo_nil (ew_seq (ew_reg ?_)))
  iterate 2 refine eo_p (by rfl) (by rfl) (by rfl) ?_
  refine eo_h (by rfl) (by rfl) (merge_E (fun _ _ => true) 20 (m + 1) (fun x y H => Or1_E m x y H) ta tb a b H hl (by omega)) ?_
  refine eo_p (by rfl) (by rfl) (by rfl) ?_
  refine eo_nil (ew_keep (ew_ret ⟨.inr rfl, _, by rfl, ?_⟩))
  exact fin_slcI H _
theorem Less_E (n : Nat) (ta tb : Tok) (a b : List Int) (H : Heap) (hl : a.length + b.length ≤ 1000) (hn : a.length + b.length + 4 ≤ n) :
    callN tab.get gl (n + 1) 8 [.slc ta (ints a), .slc tb (ints b)] H = some (slcI (mergeS (fun _ y => !y) a b), H, none) := by
  obtain ⟨m, rfl⟩ : ∃ m, n = m + 2 := ⟨n - 2, by omega⟩
  refine callN_code (by rfl) (by rfl) (ew_seq (ew_reg ?_))
  refine eo_p (by rfl) (by rfl) (by rfl) (eo_nil (ew_seq (ew_reg ?_)))
  iterate 2 refine eo_p (by rfl) (by rfl) (by rfl) ?_
  refine eo_h (by rfl) (by rfl) (merge_E (fun _ y => !y) 21 (m + 1) (fun x y H => Less1_E m x y H) ta tb a b H hl (by omega)) ?_
  refine eo_p (by rfl) (by rfl) (by rfl) ?_
  refine eo_nil (ew_keep (ew_ret ⟨.inr rfl, _, by rfl, ?_⟩))
  exact fin_slcI H _

/-! ### Row -/
/-- The first so many numbers are a row. -/
def rowTo (l : List Int) (i : Nat) : Prop := ∀ j < i, ∀ x, l[j]? = some x → 0 ≤ x ∧ ∀ y, 0 < j → l[j - 1]? = some y → y < x
def isRow (l : List Int) : Prop := rowTo l l.length
noncomputable def rowB (l : List Int) : Bool := @decide (isRow l) (Classical.propDecidable _)
theorem rowB_true {l : List Int} : rowB l = true ↔ isRow l := by
  unfold rowB; exact @decide_eq_true_iff _ (Classical.propDecidable _)
theorem rowB_false {l : List Int} (h : ¬ isRow l) : rowB l = false := by
  rcases hb : rowB l with _ | _
  · rfl
  · exact absurd (rowB_true.1 hb) h

theorem lssT {x y : Int} (h : x < y) : binE .lss (.int .i64 x) (.int .i64 y) = some (.bool true) := by simp [binE, intE, h]
theorem lssF {x y : Int} (h : ¬ x < y) : binE .lss (.int .i64 x) (.int .i64 y) = some (.bool false) := by simp [binE, intE]; omega
theorem gtrT {x y : Int} (h : y < x) : binE .gtr (.int .i64 x) (.int .i64 y) = some (.bool true) := by simp [binE, intE, h]
theorem gtrF {x y : Int} (h : ¬ y < x) : binE .gtr (.int .i64 x) (.int .i64 y) = some (.bool false) := by simp [binE, intE]; omega
theorem sub1 {i : Nat} (h : 1 ≤ i) (h2 : i ≤ 100000) : binE .sub (.int .i64 i) (.int .i64 1) = some (.int .i64 ((i - 1 : Nat) : Int)) := by
  have : IntKind.i64.wrap ((i : Int) - 1) = ((i - 1 : Nat) : Int) := by rw [wrap_i64 (by omega) (by omega)]; omega
  simp [binE, intE, this]
theorem add1 {i : Nat} (h2 : i ≤ 100000) : binE .add (.int .i64 i) (.int .i64 1) = some (.int .i64 ((i + 1 : Nat) : Int)) := by
  have : IntKind.i64.wrap ((i : Int) + 1) = ((i + 1 : Nat) : Int) := by rw [wrap_i64 (by omega) (by omega)]; omega
  simp [binE, intE, this]

set_option maxHeartbeats 2000000 in
theorem Row_E (tk : Tok) (l : List Int) (H : Heap) (n : Nat) (hl : l.length ≤ 1000) (hn : l.length + 2 ≤ n) :
    callN tab.get gl (n + 1) 9 [.slc tk (ints l)] H = some (.bool (rowB l), H, none) := by
  refine callN_code (by rfl) (by rfl) (ew_seq (ew_reg ?_))
  refine eo_p (by rfl) (by rfl) (by rfl) (eo_nil (ew_seq (ew_seq (ew_reg ?_))))
  refine eo_p (by rfl) (by rfl) (by rfl) (eo_nil (ew_block ?_))
  refine ew_loop (fun k e H' s => ∃ i, i + k = l.length ∧ restr e [0, 3] = [(0, .slc tk (ints l)), (3, .int .i64 i)] ∧ H' = H ∧ s = none ∧ rowTo l i) ?_ (k := l.length) ⟨0, by simp, by rfl, rfl, rfl, fun j hj => by omega⟩ (by omega)
  rintro k e Hh s ⟨i, hk, he, rfl, rfl, hrow⟩
  rw [he]
  refine ew_seq (ew_seq (ew_reg ?_))
  iterate 4 refine eo_p (by rfl) (by rfl) (by rfl) ?_
  refine eo_nil (ew_keep' (e' := [(0, .slc tk (ints l)), (3, .int .i64 i), (7, .bool (decide ((i : Int) < (ints l).length)))]) (by rfl) ?_)
  refine ew_cond (t := decide ((i : Int) < (ints l).length)) (by rfl) (fun h => ew_skip ?_) (fun h => ew_exit ?_)
  · simp only [decide_eq_true_eq, ints_len] at h
    have hi : i < l.length := by omega
    refine ew_keep' (e' := [(0, .slc tk (ints l)), (3, .int .i64 i)]) (by rfl) (ew_seq (ew_block (ew_seq (EW.mono (Q := fun x e H' s => x = .normal ∧ H' = Hh ∧ s = none ∧ ∃ b : Bool, restr e [0, 3, 30] = [(0, .slc tk (ints l)), (3, .int .i64 i), (30, .bool b)] ∧ (b = false → rowTo l (i + 1)) ∧ (b = true → ¬ isRow l)) (ew_dp ?_) ?_))))
    · iterate 2 refine er_p (by rfl) (by rfl) (by rfl) (by rfl) (fun h => absurd h Bool.false_ne_true) ?_
      refine er_p (by rfl) (by rfl) (by rfl) (iaddrE_slc (tk := tk) (k := .i64) (ints_get (List.getElem?_eq_getElem hi)) rfl) (fun h => absurd h Bool.false_ne_true) ?_
      refine er_p (by rfl) (by rfl) (by rfl) (by rfl) (fun h => by simp [AV.beq]) ?_
      by_cases h0 : l[i] < 0
      · refine er_p (by rfl) (by rfl) (by rfl) (lssT h0) (fun h => absurd h Bool.false_ne_true) ?_
        refine er_p (by rfl) (by rfl) (by rfl) (by rfl) (fun h => absurd h Bool.false_ne_true) ?_
        iterate 14 refine er_n (by rfl) (by rfl) ?_
        refine er_p (by rfl) (by rfl) (by rfl) (by rfl) (fun h => absurd h Bool.false_ne_true) ?_
        refine er_nil ⟨rfl, rfl, rfl, true, by rfl, (fun h => by cases h), fun _ hr => ?_⟩
        have := (hr i hi _ (List.getElem?_eq_getElem hi)).1
        omega
      · refine er_p (by rfl) (by rfl) (by rfl) (lssF h0) (fun h => absurd h Bool.false_ne_true) ?_
        iterate 2 refine er_p (by rfl) (by rfl) (by rfl) (by rfl) (fun h => absurd h Bool.false_ne_true) ?_
        by_cases hi0 : 0 < i
        · have hp : i - 1 < l.length := by omega
          refine er_p (by rfl) (by rfl) (by rfl) (gtrT (by omega)) (fun h => absurd h Bool.false_ne_true) ?_
          iterate 3 refine er_p (by rfl) (by rfl) (by rfl) (by rfl) (fun h => absurd h Bool.false_ne_true) ?_
          refine er_p (by rfl) (by rfl) (by rfl) (iaddrE_slc (tk := tk) (k := .i64) (ints_get (List.getElem?_eq_getElem hi)) rfl) (fun h => absurd h Bool.false_ne_true) ?_
          refine er_p (by rfl) (by rfl) (by rfl) (by rfl) (fun h => by simp [AV.beq]) ?_
          iterate 2 refine er_p (by rfl) (by rfl) (by rfl) (by rfl) (fun h => absurd h Bool.false_ne_true) ?_
          refine er_p (by rfl) (by rfl) (by rfl) (sub1 hi0 (by omega)) (fun h => absurd h Bool.false_ne_true) ?_
          refine er_p (by rfl) (by rfl) (by rfl) (iaddrE_slc (tk := tk) (k := .i64) (ints_get (List.getElem?_eq_getElem hp)) rfl) (fun h => absurd h Bool.false_ne_true) ?_
          refine er_p (by rfl) (by rfl) (by rfl) (by rfl) (fun h => by simp [AV.beq]) ?_
          iterate 3 refine er_p (by rfl) (by rfl) (by rfl) (by rfl) (fun h => absurd h Bool.false_ne_true) ?_
          refine er_nil ⟨rfl, rfl, rfl, decide (l[i] ≤ l[i - 1]), by rfl, fun h => ?_, fun h hr => ?_⟩
          · simp only [decide_eq_false_iff_not] at h
            intro j hj x hx
            rcases Nat.lt_or_eq_of_le (Nat.le_of_lt_succ hj) with h2 | rfl
            · exact hrow j h2 x hx
            · rw [List.getElem?_eq_getElem hi] at hx
              simp at hx; subst hx
              refine ⟨by omega, fun y _ hy => ?_⟩
              rw [List.getElem?_eq_getElem hp] at hy
              simp at hy; subst hy; omega
          · simp only [decide_eq_true_eq] at h
            have := (hr i hi _ (List.getElem?_eq_getElem hi)).2 _ hi0 (List.getElem?_eq_getElem hp)
            omega
        · refine er_p (by rfl) (by rfl) (by rfl) (gtrF (by omega)) (fun h => absurd h Bool.false_ne_true) ?_
          refine er_p (by rfl) (by rfl) (by rfl) (by rfl) (fun h => absurd h Bool.false_ne_true) ?_
          iterate 10 refine er_n (by rfl) (by rfl) ?_
          iterate 2 refine er_p (by rfl) (by rfl) (by rfl) (by rfl) (fun h => absurd h Bool.false_ne_true) ?_
          refine er_nil ⟨rfl, rfl, rfl, false, by rfl, fun _ => ?_, (fun h => by cases h)⟩
          intro j hj x hx
          have : j = 0 := by omega
          subst this
          have hi0' : i = 0 := by omega
          subst hi0'
          rw [List.getElem?_eq_getElem hi] at hx
          simp at hx; subst hx
          exact ⟨by omega, fun y h => by omega⟩
    · rintro x e H' s ⟨rfl, rfl, rfl, b, he', hb1, hb2⟩
      refine ew_keep' he' (ew_cond (t := b) (by rfl) (fun hb => ?_) (fun hb => ?_))
      · refine ew_seq (ew_reg (eo_p (by rfl) (by rfl) (by rfl) (eo_nil (ew_ret ⟨.inr rfl, _, by rfl, ?_⟩))))
        rw [rowB_false (hb2 hb)]
        exact fin_bool _ _
      · refine ew_skip (ew_keep' (e' := [(0, .slc tk (ints l)), (3, .int .i64 i)]) (by rfl) (ew_reg ?_))
        refine eo_p (by rfl) (by rfl) (by rfl) ?_
        refine eo_p (by rfl) (by rfl) (add1 (by omega)) ?_
        refine eo_p (by rfl) (by rfl) (by rfl) ?_
        exact eo_nil ⟨k - 1, by omega, i + 1, by omega, by rfl, rfl, rfl, hb1 hb⟩
  · simp only [decide_eq_false_iff_not, ints_len] at h
    refine ew_keep (ew_seq (ew_reg (eo_p (by rfl) (by rfl) (by rfl) (eo_nil (ew_ret ⟨.inr rfl, _, by rfl, ?_⟩)))))
    have : isRow l := by have : i = l.length := by omega
                         subst this; exact hrow
    rw [rowB_true.2 this]
    exact fin_bool _ _
end Go.Lim.X35
