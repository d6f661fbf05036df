import Derived.Test.YtalahofbjnmndaaDoorLimT35
set_option linter.unusedVariables false
namespace Go.Lim.X35
open Go Go.Lim
def ints (l : List Int) : List AV := l.map (.int .i64)
theorem ints_len (l : List Int) : (ints l).length = l.length := by simp [ints]
theorem ints_get {l : List Int} {i : Nat} {x : Int} (h : l[i]? = some x) : (ints l)[i]? = some (.int .i64 x) := by simp [ints, h]
theorem ints_one (l : List Int) : ∀ v ∈ ints l, v.cells.length = 1 := by
  intro v hv
  simp [ints] at hv
  obtain ⟨x, _, rfl⟩ := hv
  rfl

theorem In_E (tk : Tok) (l : List Int) (m : Int) (H : Heap) (n : Nat) (hl : l.length ≤ 1000) (hn : l.length + 2 ≤ n) :
    callN tab.get gl (n + 1) 10 [.slc tk (ints l), .int .i64 m] H = some (.bool (decide (m ∈ l)), H, none) := by
  refine callN_code (by rfl) (by rfl) ?_
  refine ew_seq (ew_reg ?_)
  refine eo_p (by rfl) (by rfl) (by rfl) ?_
  refine eo_nil ?_
  refine ew_seq (ew_seq (ew_reg ?_))
  refine eo_p (by rfl) (by rfl) (by rfl) ?_
  refine eo_nil ?_
  refine ew_block ?_
  refine ew_loop (fun k e H' s => ∃ i, i + k = l.length ∧ restr e [0, 1, 5] = [(0, .slc tk (ints l)), (1, .int .i64 m), (5, .int .i64 i)] ∧ H' = H ∧ s = none ∧ ∀ j < i, l[j]? ≠ some m) ?_ (k := l.length) ⟨0, by simp, by rfl, rfl, rfl, by simp⟩ (by omega)
  rintro k e H' s ⟨i, hk, he, rfl, rfl, hlt⟩
  rw [he]
  refine ew_seq (ew_seq (ew_reg ?_))
  iterate 4 refine eo_p (by rfl) (by rfl) (by rfl) ?_
  refine eo_nil (ew_keep ?_)
  refine ew_cond (t := decide ((i : Int) < (ints l).length)) (by rfl) (fun h => ew_skip ?_) (fun h => ew_exit ?_)
  · simp only [decide_eq_true_eq, ints_len] at h
    have hi : i < l.length := by omega
    refine ew_keep (ew_seq (ew_block (ew_seq (ew_reg ?_))))
    iterate 2 refine eo_p (by rfl) (by rfl) (by rfl) ?_
    refine eo_p (by rfl) (by rfl) (iaddrE_slc (tk := tk) (k := .i64) (ints_get (List.getElem?_eq_getElem hi)) rfl) ?_
    iterate 3 refine eo_p (by rfl) (by rfl) (by rfl) ?_
    refine eo_nil (ew_keep ?_)
    refine ew_cond (t := (l[i] == m)) (by rfl) (fun hm => ?_) (fun hm => ?_)
    · refine ew_seq (ew_reg ?_)
      refine eo_p (by rfl) (by rfl) (by rfl) ?_
      refine eo_nil ?_
      refine ew_ret ⟨.inr rfl, _, by rfl, ?_⟩
      have : m ∈ l := by rw [← eq_of_beq hm]; exact List.getElem_mem hi
      simp [this, fin, tupOf, strip, AV.lt, Esc.ge]
    · refine ew_skip (ew_keep (ew_reg ?_))
      iterate 3 refine eo_p (by rfl) (by rfl) (by rfl) ?_
      refine eo_nil ⟨k - 1, by omega, i + 1, by omega, ?_, rfl, rfl, ?_⟩
      · have hw : IntKind.i64.wrap ((i : Int) + 1) = ((i + 1 : Nat) : Int) := by rw [wrap_i64 (by omega) (by omega)]; omega
        rw [← hw]; rfl
      · intro j hj
        rcases Nat.lt_or_eq_of_le (Nat.le_of_lt_succ hj) with h2 | rfl
        · exact hlt j h2
        · rw [List.getElem?_eq_getElem hi]; simpa using hm
  · simp only [decide_eq_false_iff_not, ints_len] at h
    refine ew_keep (ew_seq (ew_reg ?_))
    refine eo_p (by rfl) (by rfl) (by rfl) ?_
    refine eo_nil (ew_ret ⟨.inr rfl, _, by rfl, ?_⟩)
    have : m ∉ l := fun hm => by
      obtain ⟨j, hj, hje⟩ := List.getElem_of_mem hm
      exact hlt j (by omega) (by rw [List.getElem?_eq_getElem hj, hje])
    simp [this, fin, tupOf, strip, AV.lt, Esc.ge]

/-! ### merge -/
def mergeS (keep : Bool → Bool → Bool) : List Int → List Int → List Int
  | [], [] => []
  | x :: a, [] => (if keep true false then [x] else []) ++ mergeS keep a []
  | [], y :: b => (if keep false true then [y] else []) ++ mergeS keep [] b
  | x :: a, y :: b =>
    if x < y then (if keep true false then [x] else []) ++ mergeS keep a (y :: b)
    else if y < x then (if keep false true then [y] else []) ++ mergeS keep (x :: a) b
    else (if keep true true then [y] else []) ++ mergeS keep a b
termination_by a b => a.length + b.length

/-- A row that was built up. -/
def slcI (o : List Int) : AV := if o = [] then .slc .nil [] else .slc .any (ints o)

theorem gtr0 {v : AV} {es : List AV} : binE .gtr (.int .i64 ((v :: es).length : Nat)) (.int .i64 0) = some (.bool true) := by
  simp [binE, intE]
theorem eql0 {v : AV} {es : List AV} : binE .eql (.int .i64 ((v :: es).length : Nat)) (.int .i64 0) = some (.bool false) := by
  simp [binE, intE]; omega

theorem leqT {x y : Int} (h : x ≤ y) : binE .leq (.int .i64 x) (.int .i64 y) = some (.bool true) := by simp [binE, intE, h]
theorem leqF {x y : Int} (h : ¬ x ≤ y) : binE .leq (.int .i64 x) (.int .i64 y) = some (.bool false) := by simp [binE, intE]; omega
theorem at0 {v : AV} {es : List AV} (tk : Tok) : iaddrE v.cells.length (.slc tk (v :: es)) (.int .i64 0) = some (.rop v.cells 0) := by simp [iaddrE, idxOf]
theorem tail1 (tk : Tok) {x : Int} {a : List Int} : slslcE 1 (some (.int .i64 1)) none (.slc tk (ints (x :: a))) = some (.slc .any (ints a)) := by
  have := slslcE_lo (sz := 1) (l := 1) (tk := tk) (es := ints (x :: a)) (kl := .i64) (by simp [ints]) (ints_one _)
  simpa [ints] using this
/-- What 'out' is while it grows. -/
def growV (n : Nat) (o : List Int) : AV := if o = [] then .slc .nil [] else .slc (.own n) (ints o)
def growH (H : Heap) (o : List Int) : Heap := if o = [] then H else H ++ [.tok o.length 1]
theorem grow_app (H : Heap) (o : List Int) (x : Int) (ho : o.length ≤ 1000) : appendE (growH H o) 1 8 (growV H.length o) (.slc .full [.int .i64 x]) = some (growV H.length (o ++ [x]), growH H (o ++ [x]), none) := by
  by_cases h : o = []
  · subst h
    simp [growH, growV, appendE, appTok, AV.cells, AV.one, ints]
  · have h1 : (H ++ [Obj.tok o.length 1])[H.length]? = some (.tok o.length 1) := by simp
    have h2 : (ints o ++ [AV.int .i64 x]) = ints (o ++ [x]) := by simp [ints]
    have h3 : ((ints o).length + [AV.int .i64 x].length) * 8 ≤ 140737488355328 := by simp [ints_len]; omega
    have h4 : (ints o).all (fun v => decide (v.cells.length = 1)) = true := List.all_eq_true.2 fun v hv => by simp [ints_one o v hv]
    simp only [growH, growV, if_neg h, List.append_eq_nil_iff, h, List.cons_ne_nil, and_self, if_false, appendE, h4, h2, appTok, h1]
    simp [ints_len, AV.cells, AV.one, List.set_append]
    omega

theorem grow_fin (H : Heap) (o : List Int) : fin H.length (growV H.length o) (growH H o) none = (slcI o, H, none) := by
  by_cases h : o = []
  · subst h; simp [fin, growV, growH, slcI, strip, stripL, AV.lt, AV.ltL, Esc.ge]
  · have h1 : ∀ (n : Nat) (H : Heap) (l : List Int), stripL n H (ints l) = ints l := fun n H l => by
      induction l with
      | nil => rfl
      | cons x r ih => simp only [ints, List.map_cons, stripL, strip] at ih ⊢; rw [ih]
    have h2 : ∀ (n : Nat) (l : List Int), AV.ltL n (ints l) = true := fun n l => by
      induction l with
      | nil => rfl
      | cons x r ih => simp only [ints, List.map_cons, AV.ltL, AV.lt] at ih ⊢; rw [ih]; rfl
    simp [fin, growV, growH, slcI, h, strip, h1, AV.lt, h2, Esc.ge]

set_option maxHeartbeats 4000000 in
theorem merge_E (keep : Bool → Bool → Bool) (kf : FuncId) (n : Nat) (hkf : ∀ x y H, callN tab.get gl n kf [.bool x, .bool y] H = some (.bool (keep x y), H, none)) (ta tb : Tok) (a b : List Int) (H : Heap)
    (hl : a.length + b.length ≤ 1000) (hn : a.length + b.length + 2 ≤ n) :
    callN tab.get gl (n + 1) 18 [.slc ta (ints a), .slc tb (ints b), .fn kf []] H = some (slcI (mergeS keep a b), H, none) := by
  refine callN_code (by rfl) (by rfl) ?_
  refine ew_seq (ew_reg ?_)
  refine eo_p (by rfl) (by rfl) (by rfl) (eo_nil ?_)
  refine ew_seq (ew_reg ?_)
  refine eo_p (by rfl) (by rfl) (by rfl) (eo_nil ?_)
  refine ew_seq (ew_block ?_)
  refine ew_loop (fun k e H' s => ∃ ta tb a' b' o, k = a'.length + b'.length ∧ restr e [0, 1, 2, 7] = [(0, .slc ta (ints a')), (1, .slc tb (ints b')), (2, .fn kf []), (7, growV H.length o)] ∧ H' = growH H o ∧ s = none ∧
    o ++ mergeS keep a' b' = mergeS keep a b ∧ o.length + k ≤ 1000) ?_ (k := a.length + b.length) ⟨ta, tb, a, b, [], rfl, by rfl, rfl, rfl, rfl, by simpa using hl⟩ (by omega)
  rintro k e H' s ⟨ta, tb, a', b', o, rfl, he, rfl, rfl, hm, hk⟩
  rw [he]
  cases a' with
  | nil =>
    cases b' with
    | nil =>
      refine ew_seq (ew_seq (ew_reg ?_))
      iterate 8 refine eo_p (by rfl) (by rfl) (by rfl) ?_
      refine eo_nil (ew_keep ?_)
      refine ew_cond (t := false) (by rfl) (fun h => by cases h) (fun h => ew_exit ?_)
      refine ew_keep (ew_seq (ew_reg ?_))
      iterate 2 refine eo_p (by rfl) (by rfl) (by rfl) ?_
      refine eo_nil (ew_ret ⟨.inr rfl, _, by rfl, ?_⟩)
      have : o = mergeS keep a b := by rw [← hm]; simp [mergeS]
      rw [← this]
      exact grow_fin H o
    | cons y b2 =>
      refine ew_seq (ew_seq (ew_reg ?_))
      repeat (first
        | refine eo_p (by rfl) (by rfl) gtr0 ?_
        | refine eo_p (by rfl) (by rfl) (by rfl) ?_
        | refine eo_n (by rfl) ?_)
      refine eo_nil (ew_keep' (e' := [(0, .slc ta (ints ([]))), (1, .slc tb (ints (y :: b2))), (2, .fn kf []), (7, growV H.length o), (18, .bool true)]) (by rfl) ?_)
      refine ew_cond (t := true) (by rfl) (fun h => ew_skip ?_) (fun h => by cases h)
      refine ew_keep' (e' := [(0, .slc ta (ints ([]))), (1, .slc tb (ints (y :: b2))), (2, .fn kf []), (7, growV H.length o)]) (by rfl) (ew_block (ew_seq (ew_dp ?_)))
      repeat (first
        | refine er_p (by rfl) (by rfl) (by rfl) gtr0 (fun h => absurd h Bool.false_ne_true) ?_
        | refine er_p (by rfl) (by rfl) (by rfl) eql0 (fun h => absurd h Bool.false_ne_true) ?_
        | refine er_p (by rfl) (by rfl) (by rfl) (by rfl) (fun h => by first | exact absurd h Bool.false_ne_true | simp [AV.beq]) ?_
        | refine er_n (by rfl) (by rfl) ?_)
      refine er_nil (ew_keep' (e' := [(0, .slc ta (ints ([]))), (1, .slc tb (ints (y :: b2))), (2, .fn kf []), (7, growV H.length o), (8, .bool false)]) (by rfl) (ew_seq (ew_dp ?_)))
      repeat (first
        | refine er_p (by rfl) (by rfl) (by rfl) gtr0 (fun h => absurd h Bool.false_ne_true) ?_
        | refine er_p (by rfl) (by rfl) (by rfl) eql0 (fun h => absurd h Bool.false_ne_true) ?_
        | refine er_p (by rfl) (by rfl) (by rfl) (by rfl) (fun h => by first | exact absurd h Bool.false_ne_true | simp [AV.beq]) ?_
        | refine er_n (by rfl) (by rfl) ?_)
      refine er_nil (ew_keep' (e' := [(0, .slc ta (ints ([]))), (1, .slc tb (ints (y :: b2))), (2, .fn kf []), (7, growV H.length o), (8, .bool false), (9, .bool true)]) (by rfl) (ew_seq (ew_reg ?_)))
      refine eo_p (by rfl) (by rfl) (by rfl) (eo_nil ?_)
      refine ew_seq (ew_seq (ew_reg ?_))
      refine eo_p (by rfl) (by rfl) (by rfl) (eo_nil ?_)
      refine ew_cond (t := false) (by rfl) (fun h => by cases h) (fun h => ew_skip ?_)
      refine (ew_keep' (e' := [(0, .slc ta (ints ([]))), (1, .slc tb (ints (y :: b2))), (2, .fn kf []), (7, growV H.length o), (8, .bool false), (9, .bool true), (10, .int .i64 0)]) (by rfl) (ew_seq (ew_seq (ew_reg ?_))))
      refine eo_p (by rfl) (by rfl) (by rfl) (eo_nil ?_)
      refine ew_cond (t := true) (by rfl) (fun h => ew_dp ?_) (fun h => by cases h)
      refine er_p (by rfl) (by rfl) (by rfl) (by rfl) (fun h => absurd h Bool.false_ne_true) ?_
      refine er_p (by rfl) (by rfl) (by rfl) (at0 tb) (fun h => absurd h Bool.false_ne_true) ?_
      iterate 2 refine er_p (by rfl) (by rfl) (by rfl) (by rfl) (fun h => by first | exact absurd h Bool.false_ne_true | simp [AV.beq]) ?_
      refine er_p (by rfl) (by rfl) (by rfl) (tail1 tb) (fun h => absurd h Bool.false_ne_true) ?_
      iterate 2 refine er_p (by rfl) (by rfl) (by rfl) (by rfl) (fun h => absurd h Bool.false_ne_true) ?_
      refine er_nil (ew_keep' (e' := [(0, .slc ta (ints ([]))), (1, .slc .any (ints (b2))), (2, .fn kf []), (7, growV H.length o), (8, .bool false), (9, .bool true), (10, .int .i64 y)]) (by rfl) (ew_seq (ew_reg ?_)))
      iterate 3 refine eo_p (by rfl) (by rfl) (by rfl) ?_
      refine eo_h (by rfl) (by rfl) (hkf false true _) ?_
      refine eo_nil (ew_keep' (e' := [(0, .slc ta (ints ([]))), (1, .slc .any (ints (b2))), (2, .fn kf []), (7, growV H.length o), (10, .int .i64 y), (68, .bool (keep false true))]) (by rfl) ?_)
      refine ew_cond (t := keep false true) (by rfl) (fun h => ew_reg ?_) (fun h => ew_skip ?_)
      · iterate 3 refine eo_p (by rfl) (by rfl) (by rfl) ?_
        refine eo_h (by rfl) (by rfl) (grow_app H o y (by simp at hk; omega)) ?_
        refine eo_p (by rfl) (by rfl) (by rfl) (eo_nil ?_)
        refine ⟨([] : List Int).length + (b2 : List Int).length, by simp; try omega, _, _, [], b2, o ++ [y], rfl, by rfl, rfl, rfl, ?_, by simp at hk ⊢; omega⟩
        rw [← hm]
        simp [mergeS, h]
      · refine ⟨([] : List Int).length + (b2 : List Int).length, by simp; try omega, _, _, [], b2, o, rfl, by rfl, rfl, rfl, ?_, by simp at hk ⊢; omega⟩
        rw [← hm]
        simp [mergeS, h]
  | cons x a2 =>
    cases b' with
    | nil =>
      refine ew_seq (ew_seq (ew_reg ?_))
      repeat (first
        | refine eo_p (by rfl) (by rfl) gtr0 ?_
        | refine eo_p (by rfl) (by rfl) (by rfl) ?_
        | refine eo_n (by rfl) ?_)
      refine eo_nil (ew_keep' (e' := [(0, .slc ta (ints (x :: a2))), (1, .slc tb (ints ([]))), (2, .fn kf []), (7, growV H.length o), (18, .bool true)]) (by rfl) ?_)
      refine ew_cond (t := true) (by rfl) (fun h => ew_skip ?_) (fun h => by cases h)
      refine ew_keep' (e' := [(0, .slc ta (ints (x :: a2))), (1, .slc tb (ints ([]))), (2, .fn kf []), (7, growV H.length o)]) (by rfl) (ew_block (ew_seq (ew_dp ?_)))
      repeat (first
        | refine er_p (by rfl) (by rfl) (by rfl) gtr0 (fun h => absurd h Bool.false_ne_true) ?_
        | refine er_p (by rfl) (by rfl) (by rfl) eql0 (fun h => absurd h Bool.false_ne_true) ?_
        | refine er_p (by rfl) (by rfl) (by rfl) (by rfl) (fun h => by first | exact absurd h Bool.false_ne_true | simp [AV.beq]) ?_
        | refine er_n (by rfl) (by rfl) ?_)
      refine er_nil (ew_keep' (e' := [(0, .slc ta (ints (x :: a2))), (1, .slc tb (ints ([]))), (2, .fn kf []), (7, growV H.length o), (8, .bool true)]) (by rfl) (ew_seq (ew_dp ?_)))
      repeat (first
        | refine er_p (by rfl) (by rfl) (by rfl) gtr0 (fun h => absurd h Bool.false_ne_true) ?_
        | refine er_p (by rfl) (by rfl) (by rfl) eql0 (fun h => absurd h Bool.false_ne_true) ?_
        | refine er_p (by rfl) (by rfl) (by rfl) (by rfl) (fun h => by first | exact absurd h Bool.false_ne_true | simp [AV.beq]) ?_
        | refine er_n (by rfl) (by rfl) ?_)
      refine er_nil (ew_keep' (e' := [(0, .slc ta (ints (x :: a2))), (1, .slc tb (ints ([]))), (2, .fn kf []), (7, growV H.length o), (8, .bool true), (9, .bool false)]) (by rfl) (ew_seq (ew_reg ?_)))
      refine eo_p (by rfl) (by rfl) (by rfl) (eo_nil ?_)
      refine ew_seq (ew_seq (ew_reg ?_))
      refine eo_p (by rfl) (by rfl) (by rfl) (eo_nil ?_)
      refine ew_cond (t := true) (by rfl) (fun h => ew_dp ?_) (fun h => by cases h)
      refine er_p (by rfl) (by rfl) (by rfl) (by rfl) (fun h => absurd h Bool.false_ne_true) ?_
      refine er_p (by rfl) (by rfl) (by rfl) (at0 ta) (fun h => absurd h Bool.false_ne_true) ?_
      iterate 2 refine er_p (by rfl) (by rfl) (by rfl) (by rfl) (fun h => by first | exact absurd h Bool.false_ne_true | simp [AV.beq]) ?_
      refine er_p (by rfl) (by rfl) (by rfl) (tail1 ta) (fun h => absurd h Bool.false_ne_true) ?_
      iterate 2 refine er_p (by rfl) (by rfl) (by rfl) (by rfl) (fun h => absurd h Bool.false_ne_true) ?_
      refine er_nil (ew_keep' (e' := [(0, .slc .any (ints (a2))), (1, .slc tb (ints ([]))), (2, .fn kf []), (7, growV H.length o), (8, .bool true), (9, .bool false), (10, .int .i64 x)]) (by rfl) (ew_seq (ew_seq (ew_reg ?_))))
      refine eo_p (by rfl) (by rfl) (by rfl) (eo_nil ?_)
      refine ew_cond (t := false) (by rfl) (fun h => by cases h) (fun h => ew_skip ?_)
      refine (ew_keep' (e' := [(0, .slc .any (ints (a2))), (1, .slc tb (ints ([]))), (2, .fn kf []), (7, growV H.length o), (8, .bool true), (9, .bool false), (10, .int .i64 x)]) (by rfl) (ew_seq (ew_reg ?_)))
      iterate 3 refine eo_p (by rfl) (by rfl) (by rfl) ?_
      refine eo_h (by rfl) (by rfl) (hkf true false _) ?_
      refine eo_nil (ew_keep' (e' := [(0, .slc .any (ints (a2))), (1, .slc tb (ints ([]))), (2, .fn kf []), (7, growV H.length o), (10, .int .i64 x), (68, .bool (keep true false))]) (by rfl) ?_)
      refine ew_cond (t := keep true false) (by rfl) (fun h => ew_reg ?_) (fun h => ew_skip ?_)
      · iterate 3 refine eo_p (by rfl) (by rfl) (by rfl) ?_
        refine eo_h (by rfl) (by rfl) (grow_app H o x (by simp at hk; omega)) ?_
        refine eo_p (by rfl) (by rfl) (by rfl) (eo_nil ?_)
        refine ⟨(a2 : List Int).length + ([] : List Int).length, by simp; try omega, _, _, a2, [], o ++ [x], rfl, by rfl, rfl, rfl, ?_, by simp at hk ⊢; omega⟩
        rw [← hm]
        simp [mergeS, h]
      · refine ⟨(a2 : List Int).length + ([] : List Int).length, by simp; try omega, _, _, a2, [], o, rfl, by rfl, rfl, rfl, ?_, by simp at hk ⊢; omega⟩
        rw [← hm]
        simp [mergeS, h]
    | cons y b2 =>
      rcases Int.lt_trichotomy x y with hxy | hxy | hxy
      · have h1 : x ≤ y := by omega
        have h2 : ¬ y ≤ x := by omega
        refine ew_seq (ew_seq (ew_reg ?_))
        repeat (first
          | refine eo_p (by rfl) (by rfl) gtr0 ?_
          | refine eo_p (by rfl) (by rfl) (by rfl) ?_
          | refine eo_n (by rfl) ?_)
        refine eo_nil (ew_keep' (e' := [(0, .slc ta (ints (x :: a2))), (1, .slc tb (ints (y :: b2))), (2, .fn kf []), (7, growV H.length o), (18, .bool true)]) (by rfl) ?_)
        refine ew_cond (t := true) (by rfl) (fun h => ew_skip ?_) (fun h => by cases h)
        refine ew_keep' (e' := [(0, .slc ta (ints (x :: a2))), (1, .slc tb (ints (y :: b2))), (2, .fn kf []), (7, growV H.length o)]) (by rfl) (ew_block (ew_seq (ew_dp ?_)))
        repeat (first
          | refine er_p (by rfl) (by rfl) (by rfl) gtr0 (fun h => absurd h Bool.false_ne_true) ?_
          | refine er_p (by rfl) (by rfl) (by rfl) eql0 (fun h => absurd h Bool.false_ne_true) ?_
          | refine er_p (by rfl) (by rfl) (by rfl) (at0 ta) (fun h => absurd h Bool.false_ne_true) ?_
          | refine er_p (by rfl) (by rfl) (by rfl) (at0 tb) (fun h => absurd h Bool.false_ne_true) ?_
          | refine er_p (by rfl) (by rfl) (by rfl) (leqT h1) (fun h => absurd h Bool.false_ne_true) ?_
          | refine er_p (by rfl) (by rfl) (by rfl) (leqF h2) (fun h => absurd h Bool.false_ne_true) ?_
          | refine er_p (by rfl) (by rfl) (by rfl) (by rfl) (fun h => by first | exact absurd h Bool.false_ne_true | simp [AV.beq]) ?_
          | refine er_n (by rfl) (by rfl) ?_)
        refine er_nil (ew_keep' (e' := [(0, .slc ta (ints (x :: a2))), (1, .slc tb (ints (y :: b2))), (2, .fn kf []), (7, growV H.length o), (8, .bool true)]) (by rfl) (ew_seq (ew_dp ?_)))
        repeat (first
          | refine er_p (by rfl) (by rfl) (by rfl) gtr0 (fun h => absurd h Bool.false_ne_true) ?_
          | refine er_p (by rfl) (by rfl) (by rfl) eql0 (fun h => absurd h Bool.false_ne_true) ?_
          | refine er_p (by rfl) (by rfl) (by rfl) (at0 ta) (fun h => absurd h Bool.false_ne_true) ?_
          | refine er_p (by rfl) (by rfl) (by rfl) (at0 tb) (fun h => absurd h Bool.false_ne_true) ?_
          | refine er_p (by rfl) (by rfl) (by rfl) (leqT h1) (fun h => absurd h Bool.false_ne_true) ?_
          | refine er_p (by rfl) (by rfl) (by rfl) (leqF h2) (fun h => absurd h Bool.false_ne_true) ?_
          | refine er_p (by rfl) (by rfl) (by rfl) (by rfl) (fun h => by first | exact absurd h Bool.false_ne_true | simp [AV.beq]) ?_
          | refine er_n (by rfl) (by rfl) ?_)
        refine er_nil (ew_keep' (e' := [(0, .slc ta (ints (x :: a2))), (1, .slc tb (ints (y :: b2))), (2, .fn kf []), (7, growV H.length o), (8, .bool true), (9, .bool false)]) (by rfl) (ew_seq (ew_reg ?_)))
        refine eo_p (by rfl) (by rfl) (by rfl) (eo_nil ?_)
        refine ew_seq (ew_seq (ew_reg ?_))
        refine eo_p (by rfl) (by rfl) (by rfl) (eo_nil ?_)
        refine ew_cond (t := true) (by rfl) (fun h => ew_dp ?_) (fun h => by cases h)
        refine er_p (by rfl) (by rfl) (by rfl) (by rfl) (fun h => absurd h Bool.false_ne_true) ?_
        refine er_p (by rfl) (by rfl) (by rfl) (at0 ta) (fun h => absurd h Bool.false_ne_true) ?_
        iterate 2 refine er_p (by rfl) (by rfl) (by rfl) (by rfl) (fun h => by first | exact absurd h Bool.false_ne_true | simp [AV.beq]) ?_
        refine er_p (by rfl) (by rfl) (by rfl) (tail1 ta) (fun h => absurd h Bool.false_ne_true) ?_
        iterate 2 refine er_p (by rfl) (by rfl) (by rfl) (by rfl) (fun h => absurd h Bool.false_ne_true) ?_
        refine er_nil (ew_keep' (e' := [(0, .slc .any (ints (a2))), (1, .slc tb (ints (y :: b2))), (2, .fn kf []), (7, growV H.length o), (8, .bool true), (9, .bool false), (10, .int .i64 x)]) (by rfl) (ew_seq (ew_seq (ew_reg ?_))))
        refine eo_p (by rfl) (by rfl) (by rfl) (eo_nil ?_)
        refine ew_cond (t := false) (by rfl) (fun h => by cases h) (fun h => ew_skip ?_)
        refine (ew_keep' (e' := [(0, .slc .any (ints (a2))), (1, .slc tb (ints (y :: b2))), (2, .fn kf []), (7, growV H.length o), (8, .bool true), (9, .bool false), (10, .int .i64 x)]) (by rfl) (ew_seq (ew_reg ?_)))
        iterate 3 refine eo_p (by rfl) (by rfl) (by rfl) ?_
        refine eo_h (by rfl) (by rfl) (hkf true false _) ?_
        refine eo_nil (ew_keep' (e' := [(0, .slc .any (ints (a2))), (1, .slc tb (ints (y :: b2))), (2, .fn kf []), (7, growV H.length o), (10, .int .i64 x), (68, .bool (keep true false))]) (by rfl) ?_)
        refine ew_cond (t := keep true false) (by rfl) (fun h => ew_reg ?_) (fun h => ew_skip ?_)
        · iterate 3 refine eo_p (by rfl) (by rfl) (by rfl) ?_
          refine eo_h (by rfl) (by rfl) (grow_app H o x (by simp at hk; omega)) ?_
          refine eo_p (by rfl) (by rfl) (by rfl) (eo_nil ?_)
          refine ⟨(a2 : List Int).length + (y :: b2 : List Int).length, by simp; try omega, _, _, a2, y :: b2, o ++ [x], rfl, by rfl, rfl, rfl, ?_, by simp at hk ⊢; omega⟩
          rw [← hm]
          simp [mergeS, h, hxy]
        · refine ⟨(a2 : List Int).length + (y :: b2 : List Int).length, by simp; try omega, _, _, a2, y :: b2, o, rfl, by rfl, rfl, rfl, ?_, by simp at hk ⊢; omega⟩
          rw [← hm]
          simp [mergeS, h, hxy]
      · subst hxy
        have h1 : x ≤ x := by omega
        refine ew_seq (ew_seq (ew_reg ?_))
        repeat (first
          | refine eo_p (by rfl) (by rfl) gtr0 ?_
          | refine eo_p (by rfl) (by rfl) (by rfl) ?_
          | refine eo_n (by rfl) ?_)
        refine eo_nil (ew_keep' (e' := [(0, .slc ta (ints (x :: a2))), (1, .slc tb (ints (x :: b2))), (2, .fn kf []), (7, growV H.length o), (18, .bool true)]) (by rfl) ?_)
        refine ew_cond (t := true) (by rfl) (fun h => ew_skip ?_) (fun h => by cases h)
        refine ew_keep' (e' := [(0, .slc ta (ints (x :: a2))), (1, .slc tb (ints (x :: b2))), (2, .fn kf []), (7, growV H.length o)]) (by rfl) (ew_block (ew_seq (ew_dp ?_)))
        repeat (first
          | refine er_p (by rfl) (by rfl) (by rfl) gtr0 (fun h => absurd h Bool.false_ne_true) ?_
          | refine er_p (by rfl) (by rfl) (by rfl) eql0 (fun h => absurd h Bool.false_ne_true) ?_
          | refine er_p (by rfl) (by rfl) (by rfl) (at0 ta) (fun h => absurd h Bool.false_ne_true) ?_
          | refine er_p (by rfl) (by rfl) (by rfl) (at0 tb) (fun h => absurd h Bool.false_ne_true) ?_
          | refine er_p (by rfl) (by rfl) (by rfl) (leqT h1) (fun h => absurd h Bool.false_ne_true) ?_
          | refine er_p (by rfl) (by rfl) (by rfl) (by rfl) (fun h => by first | exact absurd h Bool.false_ne_true | simp [AV.beq]) ?_
          | refine er_n (by rfl) (by rfl) ?_)
        refine er_nil (ew_keep' (e' := [(0, .slc ta (ints (x :: a2))), (1, .slc tb (ints (x :: b2))), (2, .fn kf []), (7, growV H.length o), (8, .bool true)]) (by rfl) (ew_seq (ew_dp ?_)))
        repeat (first
          | refine er_p (by rfl) (by rfl) (by rfl) gtr0 (fun h => absurd h Bool.false_ne_true) ?_
          | refine er_p (by rfl) (by rfl) (by rfl) eql0 (fun h => absurd h Bool.false_ne_true) ?_
          | refine er_p (by rfl) (by rfl) (by rfl) (at0 ta) (fun h => absurd h Bool.false_ne_true) ?_
          | refine er_p (by rfl) (by rfl) (by rfl) (at0 tb) (fun h => absurd h Bool.false_ne_true) ?_
          | refine er_p (by rfl) (by rfl) (by rfl) (leqT h1) (fun h => absurd h Bool.false_ne_true) ?_
          | refine er_p (by rfl) (by rfl) (by rfl) (by rfl) (fun h => by first | exact absurd h Bool.false_ne_true | simp [AV.beq]) ?_
          | refine er_n (by rfl) (by rfl) ?_)
        refine er_nil (ew_keep' (e' := [(0, .slc ta (ints (x :: a2))), (1, .slc tb (ints (x :: b2))), (2, .fn kf []), (7, growV H.length o), (8, .bool true), (9, .bool true)]) (by rfl) (ew_seq (ew_reg ?_)))
        refine eo_p (by rfl) (by rfl) (by rfl) (eo_nil ?_)
        refine ew_seq (ew_seq (ew_reg ?_))
        refine eo_p (by rfl) (by rfl) (by rfl) (eo_nil ?_)
        refine ew_cond (t := true) (by rfl) (fun h => ew_dp ?_) (fun h => by cases h)
        refine er_p (by rfl) (by rfl) (by rfl) (by rfl) (fun h => absurd h Bool.false_ne_true) ?_
        refine er_p (by rfl) (by rfl) (by rfl) (at0 ta) (fun h => absurd h Bool.false_ne_true) ?_
        iterate 2 refine er_p (by rfl) (by rfl) (by rfl) (by rfl) (fun h => by first | exact absurd h Bool.false_ne_true | simp [AV.beq]) ?_
        refine er_p (by rfl) (by rfl) (by rfl) (tail1 ta) (fun h => absurd h Bool.false_ne_true) ?_
        iterate 2 refine er_p (by rfl) (by rfl) (by rfl) (by rfl) (fun h => absurd h Bool.false_ne_true) ?_
        refine er_nil (ew_keep' (e' := [(0, .slc .any (ints (a2))), (1, .slc tb (ints (x :: b2))), (2, .fn kf []), (7, growV H.length o), (8, .bool true), (9, .bool true), (10, .int .i64 x)]) (by rfl) (ew_seq (ew_seq (ew_reg ?_))))
        refine eo_p (by rfl) (by rfl) (by rfl) (eo_nil ?_)
        refine ew_cond (t := true) (by rfl) (fun h => ew_dp ?_) (fun h => by cases h)
        refine er_p (by rfl) (by rfl) (by rfl) (by rfl) (fun h => absurd h Bool.false_ne_true) ?_
        refine er_p (by rfl) (by rfl) (by rfl) (at0 tb) (fun h => absurd h Bool.false_ne_true) ?_
        iterate 2 refine er_p (by rfl) (by rfl) (by rfl) (by rfl) (fun h => by first | exact absurd h Bool.false_ne_true | simp [AV.beq]) ?_
        refine er_p (by rfl) (by rfl) (by rfl) (tail1 tb) (fun h => absurd h Bool.false_ne_true) ?_
        iterate 2 refine er_p (by rfl) (by rfl) (by rfl) (by rfl) (fun h => absurd h Bool.false_ne_true) ?_
        refine er_nil (ew_keep' (e' := [(0, .slc .any (ints (a2))), (1, .slc .any (ints (b2))), (2, .fn kf []), (7, growV H.length o), (8, .bool true), (9, .bool true), (10, .int .i64 x)]) (by rfl) (ew_seq (ew_reg ?_)))
        iterate 3 refine eo_p (by rfl) (by rfl) (by rfl) ?_
        refine eo_h (by rfl) (by rfl) (hkf true true _) ?_
        refine eo_nil (ew_keep' (e' := [(0, .slc .any (ints (a2))), (1, .slc .any (ints (b2))), (2, .fn kf []), (7, growV H.length o), (10, .int .i64 x), (68, .bool (keep true true))]) (by rfl) ?_)
        refine ew_cond (t := keep true true) (by rfl) (fun h => ew_reg ?_) (fun h => ew_skip ?_)
        · iterate 3 refine eo_p (by rfl) (by rfl) (by rfl) ?_
          refine eo_h (by rfl) (by rfl) (grow_app H o x (by simp at hk; omega)) ?_
          refine eo_p (by rfl) (by rfl) (by rfl) (eo_nil ?_)
          refine ⟨(a2 : List Int).length + (b2 : List Int).length, by simp; try omega, _, _, a2, b2, o ++ [x], rfl, by rfl, rfl, rfl, ?_, by simp at hk ⊢; omega⟩
          rw [← hm]
          simp [mergeS, h]
        · refine ⟨(a2 : List Int).length + (b2 : List Int).length, by simp; try omega, _, _, a2, b2, o, rfl, by rfl, rfl, rfl, ?_, by simp at hk ⊢; omega⟩
          rw [← hm]
          simp [mergeS, h]
      · have h1 : y ≤ x := by omega
        have h2 : ¬ x ≤ y := by omega
        refine ew_seq (ew_seq (ew_reg ?_))
        repeat (first
          | refine eo_p (by rfl) (by rfl) gtr0 ?_
          | refine eo_p (by rfl) (by rfl) (by rfl) ?_
          | refine eo_n (by rfl) ?_)
        refine eo_nil (ew_keep' (e' := [(0, .slc ta (ints (x :: a2))), (1, .slc tb (ints (y :: b2))), (2, .fn kf []), (7, growV H.length o), (18, .bool true)]) (by rfl) ?_)
        refine ew_cond (t := true) (by rfl) (fun h => ew_skip ?_) (fun h => by cases h)
        refine ew_keep' (e' := [(0, .slc ta (ints (x :: a2))), (1, .slc tb (ints (y :: b2))), (2, .fn kf []), (7, growV H.length o)]) (by rfl) (ew_block (ew_seq (ew_dp ?_)))
        repeat (first
          | refine er_p (by rfl) (by rfl) (by rfl) gtr0 (fun h => absurd h Bool.false_ne_true) ?_
          | refine er_p (by rfl) (by rfl) (by rfl) eql0 (fun h => absurd h Bool.false_ne_true) ?_
          | refine er_p (by rfl) (by rfl) (by rfl) (at0 ta) (fun h => absurd h Bool.false_ne_true) ?_
          | refine er_p (by rfl) (by rfl) (by rfl) (at0 tb) (fun h => absurd h Bool.false_ne_true) ?_
          | refine er_p (by rfl) (by rfl) (by rfl) (leqT h1) (fun h => absurd h Bool.false_ne_true) ?_
          | refine er_p (by rfl) (by rfl) (by rfl) (leqF h2) (fun h => absurd h Bool.false_ne_true) ?_
          | refine er_p (by rfl) (by rfl) (by rfl) (by rfl) (fun h => by first | exact absurd h Bool.false_ne_true | simp [AV.beq]) ?_
          | refine er_n (by rfl) (by rfl) ?_)
        refine er_nil (ew_keep' (e' := [(0, .slc ta (ints (x :: a2))), (1, .slc tb (ints (y :: b2))), (2, .fn kf []), (7, growV H.length o), (8, .bool false)]) (by rfl) (ew_seq (ew_dp ?_)))
        repeat (first
          | refine er_p (by rfl) (by rfl) (by rfl) gtr0 (fun h => absurd h Bool.false_ne_true) ?_
          | refine er_p (by rfl) (by rfl) (by rfl) eql0 (fun h => absurd h Bool.false_ne_true) ?_
          | refine er_p (by rfl) (by rfl) (by rfl) (at0 ta) (fun h => absurd h Bool.false_ne_true) ?_
          | refine er_p (by rfl) (by rfl) (by rfl) (at0 tb) (fun h => absurd h Bool.false_ne_true) ?_
          | refine er_p (by rfl) (by rfl) (by rfl) (leqT h1) (fun h => absurd h Bool.false_ne_true) ?_
          | refine er_p (by rfl) (by rfl) (by rfl) (leqF h2) (fun h => absurd h Bool.false_ne_true) ?_
          | refine er_p (by rfl) (by rfl) (by rfl) (by rfl) (fun h => by first | exact absurd h Bool.false_ne_true | simp [AV.beq]) ?_
          | refine er_n (by rfl) (by rfl) ?_)
        refine er_nil (ew_keep' (e' := [(0, .slc ta (ints (x :: a2))), (1, .slc tb (ints (y :: b2))), (2, .fn kf []), (7, growV H.length o), (8, .bool false), (9, .bool true)]) (by rfl) (ew_seq (ew_reg ?_)))
        refine eo_p (by rfl) (by rfl) (by rfl) (eo_nil ?_)
        refine ew_seq (ew_seq (ew_reg ?_))
        refine eo_p (by rfl) (by rfl) (by rfl) (eo_nil ?_)
        refine ew_cond (t := false) (by rfl) (fun h => by cases h) (fun h => ew_skip ?_)
        refine (ew_keep' (e' := [(0, .slc ta (ints (x :: a2))), (1, .slc tb (ints (y :: b2))), (2, .fn kf []), (7, growV H.length o), (8, .bool false), (9, .bool true), (10, .int .i64 0)]) (by rfl) (ew_seq (ew_seq (ew_reg ?_))))
        refine eo_p (by rfl) (by rfl) (by rfl) (eo_nil ?_)
        refine ew_cond (t := true) (by rfl) (fun h => ew_dp ?_) (fun h => by cases h)
        refine er_p (by rfl) (by rfl) (by rfl) (by rfl) (fun h => absurd h Bool.false_ne_true) ?_
        refine er_p (by rfl) (by rfl) (by rfl) (at0 tb) (fun h => absurd h Bool.false_ne_true) ?_
        iterate 2 refine er_p (by rfl) (by rfl) (by rfl) (by rfl) (fun h => by first | exact absurd h Bool.false_ne_true | simp [AV.beq]) ?_
        refine er_p (by rfl) (by rfl) (by rfl) (tail1 tb) (fun h => absurd h Bool.false_ne_true) ?_
        iterate 2 refine er_p (by rfl) (by rfl) (by rfl) (by rfl) (fun h => absurd h Bool.false_ne_true) ?_
        refine er_nil (ew_keep' (e' := [(0, .slc ta (ints (x :: a2))), (1, .slc .any (ints (b2))), (2, .fn kf []), (7, growV H.length o), (8, .bool false), (9, .bool true), (10, .int .i64 y)]) (by rfl) (ew_seq (ew_reg ?_)))
        iterate 3 refine eo_p (by rfl) (by rfl) (by rfl) ?_
        refine eo_h (by rfl) (by rfl) (hkf false true _) ?_
        refine eo_nil (ew_keep' (e' := [(0, .slc ta (ints (x :: a2))), (1, .slc .any (ints (b2))), (2, .fn kf []), (7, growV H.length o), (10, .int .i64 y), (68, .bool (keep false true))]) (by rfl) ?_)
        refine ew_cond (t := keep false true) (by rfl) (fun h => ew_reg ?_) (fun h => ew_skip ?_)
        · iterate 3 refine eo_p (by rfl) (by rfl) (by rfl) ?_
          refine eo_h (by rfl) (by rfl) (grow_app H o y (by simp at hk; omega)) ?_
          refine eo_p (by rfl) (by rfl) (by rfl) (eo_nil ?_)
          refine ⟨(x :: a2 : List Int).length + (b2 : List Int).length, by simp; try omega, _, _, x :: a2, b2, o ++ [y], rfl, by rfl, rfl, rfl, ?_, by simp at hk ⊢; omega⟩
          rw [← hm]
          simp [mergeS, h, hxy, h2, show ¬ x < y from by omega]
        · refine ⟨(x :: a2 : List Int).length + (b2 : List Int).length, by simp; try omega, _, _, x :: a2, b2, o, rfl, by rfl, rfl, rfl, ?_, by simp at hk ⊢; omega⟩
          rw [← hm]
          simp [mergeS, h, hxy, h2, show ¬ x < y from by omega]
end Go.Lim.X35
