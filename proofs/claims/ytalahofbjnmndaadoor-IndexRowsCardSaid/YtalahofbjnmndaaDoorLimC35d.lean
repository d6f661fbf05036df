import Derived.Test.YtalahofbjnmndaaDoorLimC35c
set_option linter.unusedVariables false
namespace Go.Lim.X35
open Go Go.Lim

theorem slcI_eq (o : List Int) : ∃ tk, slcI o = .slc tk (ints o) := by
  by_cases h : o = []
  · subst h; exact ⟨.nil, rfl⟩
  · exact ⟨.any, by simp [slcI, h]⟩
theorem mergeS_le (keep : Bool → Bool → Bool) (a b : List Int) : (mergeS keep a b).length ≤ a.length + b.length := by
  fun_induction mergeS keep a b <;> simp only [List.length_append, List.length_cons, List.length_nil] <;> (try split) <;> simp_all <;> omega

theorem app_ints (H : Heap) (tk tk' : Tok) (xs ys : List Int) (h : xs.length + ys.length ≤ 1000) (hx : xs ≠ []) (ht : tk = .full ∨ ∃ t, tk = .own t ∧ H[t]? = some (.tok xs.length 1)) :
    ∃ tk2 H2, appendE H 1 8 (.slc tk (ints xs)) (.slc tk' (ints ys)) = some (.slc tk2 (ints (xs ++ ys)), H2, none) ∧ (tk2 = .full ∨ ∃ t, tk2 = .own t ∧ H2[t]? = some (.tok (xs ++ ys).length 1)) := by
  cases ys with
  | nil =>
    refine ⟨tk, H, by simp [appendE, ints], ?_⟩
    rw [List.append_nil]
    exact ht
  | cons y ys =>
    have h4 : (ints xs).all (fun v => decide (v.cells.length = 1)) = true := List.all_eq_true.2 fun v hv => by simp [ints_one xs v hv]
    have h5 : (ints (y :: ys)).all (fun v => decide (v.cells.length = 1) && v.cells.all AV.one) = true := List.all_eq_true.2 fun v hv => by
      simp [ints] at hv
      rcases hv with rfl | ⟨x, _, rfl⟩ <;> rfl
    have h6 : ((ints xs).length + (ints (y :: ys)).length) * 8 ≤ 140737488355328 := by simp [ints_len] at h ⊢; omega
    have h7 : ints xs ++ ints (y :: ys) = ints (xs ++ y :: ys) := by simp [ints]
    have e1 : ints (y :: ys) = .int .i64 y :: ints ys := rfl
    rcases ht with rfl | ⟨t, rfl, hH⟩
    · refine ⟨.own H.length, H ++ [.tok (xs.length + (y :: ys).length) 1], ?_, .inr ⟨_, rfl, by simp⟩⟩
      rw [e1]
      simp only [appendE]
      rw [← e1, if_pos ⟨h6, h5, h4⟩, h7]
      simp [appTok, ints_len]
    · have ht : t < H.length := (List.getElem?_eq_some_iff.1 hH).1
      refine ⟨.own t, H.set t (.tok (xs.length + (y :: ys).length) 1), ?_, .inr ⟨_, rfl, by simp [ht]⟩⟩
      rw [e1]
      simp only [appendE]
      rw [← e1, if_pos ⟨h6, h5, h4⟩, h7]
      simp [appTok, hH, ints_len]

theorem fin_boolH (H H2 : Heap) (b : Bool) (h : ∃ l, H2 = H ++ l) : fin H.length (.bool b) H2 none = (.bool b, H, none) := by
  obtain ⟨l, rfl⟩ := h
  simp [fin, strip, AV.lt, Esc.ge]

theorem addN {x y : Nat} (h : x + y ≤ 1000000) : binE .add (.int .i64 x) (.int .i64 y) = some (.int .i64 ((x + y : Nat) : Int)) := by
  have : IntKind.i64.wrap ((x : Int) + y) = ((x + y : Nat) : Int) := by rw [wrap_i64 (by omega) (by omega)]; omega
  simp [binE, intE, this]
theorem neqF {x y : Nat} (h : x = y) : binE .neq (.int .i64 x) (.int .i64 y) = some (.bool false) := by subst h; simp [binE, intE]

set_option maxHeartbeats 4000000 in
theorem IndexRows_n (p : Nat) (hp : p = 199) (ta tb : Tok) (a b : List Int) (m : Int) :
    callN tab.get gl (p + 1 + 1) 3 [.slc ta (ints a), .slc tb (ints b), .int .i64 m] [] = some (.bool true, [], none) := by
  have aw : callN tab.get gl (p + 1) 5 [] [] = some (.bool true, [], none) := by subst hp; exact awake_E
  refine callN_code (by rfl) (by rfl) (ew_seq (ew_reg ?_))
  refine eo_p (by rfl) (by rfl) (by rfl) (eo_nil (ew_seq (ew_seq (ew_reg ?_))))
  refine eo_h (by rfl) (by rfl) aw ?_
  refine eo_p (by rfl) (by rfl) (by rfl) (eo_nil ?_)
  refine ew_cond (t := false) (by rfl) (fun h => by cases h) (fun _ => ew_skip ?_)
  refine ew_keep' (e' := [(0, .slc ta (ints a)), (1, .slc tb (ints b)), (2, .int .i64 m)]) (by rfl) (ew_seq (ew_seq (ew_reg ?_)))
  iterate 2 refine eo_p (by rfl) (by rfl) (by rfl) ?_
  have done : ∀ (e : Env), e.get 6 = some (.bool true) → (EExit.ret = .normal ∨ EExit.ret = .ret) ∧ ∃ vs, evres e [] [.tmp 6] = some vs ∧ (if false = true then (tupOf vs, ([] : Heap), (none : Esc)) else fin ([] : Heap).length (tupOf vs) [] none) = (.bool true, [], none) := fun e he =>
    ⟨.inr rfl, [.bool true], by simp [evres, he], by rfl⟩
  by_cases h1 : a.length > 60
  · refine eo_p (by rfl) (by rfl) (gtrT (by rw [ints_len]; omega)) ?_
    refine eo_p (by rfl) (by rfl) (by rfl) ?_
    iterate 3 refine eo_n (by rfl) ?_
    refine eo_p (by rfl) (by rfl) (by rfl) (eo_nil ?_)
    refine ew_keep (ew_cond (t := true) (by rfl) (fun _ => ew_seq (ew_reg ?_)) (fun h => by cases h))
    exact eo_p (by rfl) (by rfl) (by rfl) (eo_nil (ew_ret (done _ (by rfl))))
  refine eo_p (by rfl) (by rfl) (gtrF (by rw [ints_len]; omega)) ?_
  iterate 3 refine eo_p (by rfl) (by rfl) (by rfl) ?_
  by_cases h2 : b.length > 60
  · refine eo_p (by rfl) (by rfl) (gtrT (by rw [ints_len]; omega)) ?_
    refine eo_p (by rfl) (by rfl) (by rfl) (eo_nil ?_)
    refine ew_keep (ew_cond (t := true) (by rfl) (fun _ => ew_seq (ew_reg ?_)) (fun h => by cases h))
    exact eo_p (by rfl) (by rfl) (by rfl) (eo_nil (ew_ret (done _ (by rfl))))
  refine eo_p (by rfl) (by rfl) (gtrF (by rw [ints_len]; omega)) ?_
  refine eo_p (by rfl) (by rfl) (by rfl) (eo_nil ?_)
  refine ew_keep (ew_cond (t := false) (by rfl) (fun h => by cases h) (fun _ => ew_skip ?_))
  refine ew_keep' (e' := [(0, .slc ta (ints a)), (1, .slc tb (ints b)), (2, .int .i64 m)]) (by rfl) (ew_seq (ew_reg ?_))
  obtain ⟨tx, hx⟩ := slcI_eq (mergeS (fun x y => x && y) a b)
  obtain ⟨ty, hy⟩ := slcI_eq (mergeS (fun _ _ => true) a b)
  obtain ⟨tz, hz⟩ := slcI_eq (mergeS (fun _ y => !y) a b)
  have eA := And_E p ta tb a b [] (by omega) (by omega)
  have eO := Or_E p ta tb a b [] (by omega) (by omega)
  have eL := Less_E p ta tb a b [] (by omega) (by omega)
  rw [hx] at eA
  rw [hy] at eO
  rw [hz] at eL
  have lx := mergeS_le (fun x y => x && y) a b
  have ly := mergeS_le (fun _ _ => true) a b
  have lz := mergeS_le (fun _ y => !y) a b
  have len1 := mergeS_len1 a b
  have len2 := mergeS_len2 a b
  have rX : isRow a → isRow b → isRow (mergeS (fun x y => x && y) a b) := isRow_merge _
  have rY : isRow a → isRow b → isRow (mergeS (fun _ _ => true) a b) := isRow_merge _
  have rZ : isRow a → isRow b → isRow (mergeS (fun _ y => !y) a b) := isRow_merge _
  have mX : isRow a → isRow b → ∀ m, decide (m ∈ mergeS (fun x y => x && y) a b) = (decide (m ∈ a) && decide (m ∈ b)) := fun ha hb m => by
    have := mergeS_mem (fun x y => x && y) a b (isRow_iff.1 ha).1 (isRow_iff.1 hb).1 m
    by_cases h1 : m ∈ a <;> by_cases h2 : m ∈ b <;> simp_all
  have mY : isRow a → isRow b → ∀ m, decide (m ∈ mergeS (fun _ _ => true) a b) = (decide (m ∈ a) || decide (m ∈ b)) := fun ha hb m => by
    have := mergeS_mem (fun _ _ => true) a b (isRow_iff.1 ha).1 (isRow_iff.1 hb).1 m
    by_cases h1 : m ∈ a <;> by_cases h2 : m ∈ b <;> simp_all
  have mZ : isRow a → isRow b → ∀ m, decide (m ∈ mergeS (fun _ y => !y) a b) = (decide (m ∈ a) && !decide (m ∈ b)) := fun ha hb m => by
    have := mergeS_mem (fun _ y => !y) a b (isRow_iff.1 ha).1 (isRow_iff.1 hb).1 m
    by_cases h1 : m ∈ a <;> by_cases h2 : m ∈ b <;> simp_all
  clear hx hy hz
  generalize mergeS (fun x y => x && y) a b = X at *
  generalize mergeS (fun _ _ => true) a b = Y at *
  generalize mergeS (fun _ y => !y) a b = Z at *
  iterate 2 refine eo_p (by rfl) (by rfl) (by rfl) ?_
  refine eo_h (by rfl) (by rfl) eA ?_
  iterate 2 refine eo_p (by rfl) (by rfl) (by rfl) ?_
  refine eo_h (by rfl) (by rfl) eO ?_
  iterate 2 refine eo_p (by rfl) (by rfl) (by rfl) ?_
  refine eo_h (by rfl) (by rfl) eL ?_
  iterate 3 refine eo_p (by rfl) (by rfl) (by rfl) ?_
  refine eo_nil (ew_keep' (e' := [(0, .slc ta (ints a)), (1, .slc tb (ints b)), (2, .int .i64 m), (7, .slc tx (ints X)), (8, .slc ty (ints Y)), (9, .slc tz (ints Z))]) (by rfl) (ew_seq (ew_seq (ew_reg ?_))))
  refine eo_p (by rfl) (by rfl) (by rfl) ?_
  refine eo_h (by rfl) (by rfl) (Row_E ta a [] p (by omega) (by omega)) ?_
  by_cases ra : ¬ isRow a
  · rw [rowB_false ra]
    iterate 2 refine eo_p (by rfl) (by rfl) (by rfl) ?_
    iterate 3 refine eo_n (by rfl) ?_
    refine eo_p (by rfl) (by rfl) (by rfl) (eo_nil ?_)
    refine ew_keep (ew_cond (t := true) (by rfl) (fun _ => ew_seq (ew_reg ?_)) (fun h => by cases h))
    exact eo_p (by rfl) (by rfl) (by rfl) (eo_nil (ew_ret (done _ (by rfl))))
  have ra := Classical.not_not.1 ra
  rw [rowB_true.2 ra]
  iterate 3 refine eo_p (by rfl) (by rfl) (by rfl) ?_
  refine eo_h (by rfl) (by rfl) (Row_E tb b [] p (by omega) (by omega)) ?_
  by_cases rb : ¬ isRow b
  · rw [rowB_false rb]
    iterate 2 refine eo_p (by rfl) (by rfl) (by rfl) ?_
    refine eo_nil (ew_keep (ew_cond (t := true) (by rfl) (fun _ => ew_seq (ew_reg ?_)) (fun h => by cases h)))
    exact eo_p (by rfl) (by rfl) (by rfl) (eo_nil (ew_ret (done _ (by rfl))))
  have rb := Classical.not_not.1 rb
  rw [rowB_true.2 rb]
  iterate 2 refine eo_p (by rfl) (by rfl) (by rfl) ?_
  refine eo_nil (ew_keep (ew_cond (t := false) (by rfl) (fun h => by cases h) (fun _ => ew_skip ?_)))
  refine ew_keep' (e' := [(0, .slc ta (ints a)), (1, .slc tb (ints b)), (2, .int .i64 m), (7, .slc tx (ints X)), (8, .slc ty (ints Y)), (9, .slc tz (ints Z))]) (by rfl) (ew_seq (ew_seq (ew_reg ?_)))
  refine eo_p (by rfl) (by rfl) (by rfl) ?_
  refine eo_h (by rfl) (by rfl) (Row_E tx X [] p (by omega) (by omega)) ?_
  rw [rowB_true.2 (rX ra rb)]
  iterate 3 refine eo_p (by rfl) (by rfl) (by rfl) ?_
  refine eo_h (by rfl) (by rfl) (Row_E ty Y [] p (by omega) (by omega)) ?_
  rw [rowB_true.2 (rY ra rb)]
  iterate 4 refine eo_p (by rfl) (by rfl) (by rfl) ?_
  refine eo_h (by rfl) (by rfl) (Row_E tz Z [] p (by omega) (by omega)) ?_
  rw [rowB_true.2 (rZ ra rb)]
  iterate 7 refine eo_p (by rfl) (by rfl) (by rfl) ?_
  refine eo_p (by rfl) (by rfl) (addN (x := (ints X).length) (y := (ints Z).length) (by rw [ints_len, ints_len]; omega)) ?_
  iterate 2 refine eo_p (by rfl) (by rfl) (by rfl) ?_
  refine eo_p (by rfl) (by rfl) (neqF (y := (ints a).length) (by rw [ints_len, ints_len, ints_len]; omega)) ?_
  iterate 6 refine eo_p (by rfl) (by rfl) (by rfl) ?_
  iterate 2 refine eo_p (by rfl) (by rfl) (by rfl) ?_
  refine eo_p (by rfl) (by rfl) (addN (x := (ints Z).length) (y := (ints b).length) (by rw [ints_len, ints_len]; omega)) ?_
  refine eo_p (by rfl) (by rfl) (neqF (x := (ints Y).length) (by rw [ints_len, ints_len, ints_len]; omega)) ?_
  refine eo_p (by rfl) (by rfl) (by rfl) ?_
  refine eo_nil (ew_keep (ew_cond (t := false) (by rfl) (fun h => by cases h) (fun _ => ew_skip ?_)))
  refine ew_keep' (e' := [(0, .slc ta (ints a)), (1, .slc tb (ints b)), (2, .int .i64 m), (7, .slc tx (ints X)), (8, .slc ty (ints Y)), (9, .slc tz (ints Z))]) (by rfl) (ew_seq (ew_reg ?_))
  obtain ⟨t1, H1, hap1, hok1⟩ := app_ints [] .full ta [m] a (by simp; omega) (by simp) (.inl rfl)
  obtain ⟨t2, H2, hap2, hok2⟩ := app_ints H1 t1 tb ([m] ++ a) b (by simp; omega) (by simp) hok1
  have hLl : ([m] ++ a ++ b).length ≤ 121 := by simp; omega
  generalize [m] ++ a ++ b = L at *
  refine eo_p (by rfl) (by rfl) (by rfl) ?_
  refine eo_p (v := .slc .full (ints [m])) (by rfl) (by rfl) (by rfl) ?_
  refine eo_p (by rfl) (by rfl) (by rfl) ?_
  refine eo_h (by rfl) (by rfl) hap1 ?_
  refine eo_p (by rfl) (by rfl) (by rfl) ?_
  refine eo_h (by rfl) (by rfl) hap2 ?_
  refine eo_p (by rfl) (by rfl) (by rfl) ?_
  refine eo_nil (ew_keep' (e' := [(0, .slc ta (ints a)), (1, .slc tb (ints b)), (7, .slc tx (ints X)), (8, .slc ty (ints Y)), (9, .slc tz (ints Z)), (10, .slc t2 (ints L))]) (by rfl) (ew_seq (ew_seq (ew_reg ?_))))
  refine eo_p (by rfl) (by rfl) (by rfl) (eo_nil (ew_block ?_))
  refine ew_loop (fun k e Hh s => ∃ i : Nat, i + k = L.length ∧ restr e [0, 1, 7, 8, 9, 10, 11] = [(0, .slc ta (ints a)), (1, .slc tb (ints b)), (7, .slc tx (ints X)), (8, .slc ty (ints Y)), (9, .slc tz (ints Z)), (10, .slc t2 (ints L)), (11, .int .i64 i)] ∧ Hh = H2 ∧ s = none) ?_
    (k := L.length) ⟨0, by simp, by rfl, rfl, rfl⟩ (by omega)
  rintro k e Hh s ⟨i, hk, he, rfl, rfl⟩
  rw [he]
  refine ew_seq (ew_seq (ew_reg ?_))
  iterate 4 refine eo_p (by rfl) (by rfl) (by rfl) ?_
  refine eo_nil (ew_keep ?_)
  refine ew_cond (t := decide ((i : Int) < (ints L).length)) (by rfl) (fun h => ew_skip ?_) (fun h => ew_exit ?_)
  · simp only [decide_eq_true_eq, ints_len] at h
    have hi : i < L.length := by omega
    refine ew_keep' (e' := [(0, .slc ta (ints a)), (1, .slc tb (ints b)), (7, .slc tx (ints X)), (8, .slc ty (ints Y)), (9, .slc tz (ints Z)), (10, .slc t2 (ints L)), (11, .int .i64 i)]) (by rfl) (ew_seq (ew_block (ew_seq (ew_reg ?_))))
    iterate 2 refine eo_p (by rfl) (by rfl) (by rfl) ?_
    refine eo_p (by rfl) (by rfl) (iaddrE_slc (tk := t2) (k := .i64) (ints_get (List.getElem?_eq_getElem hi)) rfl) ?_
    iterate 2 refine eo_p (by rfl) (by rfl) (by rfl) ?_
    generalize L[i] = u
    refine eo_nil (ew_keep' (e' := [(0, .slc ta (ints a)), (1, .slc tb (ints b)), (7, .slc tx (ints X)), (8, .slc ty (ints Y)), (9, .slc tz (ints Z)), (10, .slc t2 (ints L)), (11, .int .i64 i), (12, .int .i64 u)]) (by rfl) (ew_seq (ew_reg ?_)))
    have ia := In_E ta a u Hh p (by omega) (by omega)
    have ib := In_E tb b u Hh p (by omega) (by omega)
    have ix := In_E tx X u Hh p (by omega) (by omega)
    have iy := In_E ty Y u Hh p (by omega) (by omega)
    have iz := In_E tz Z u Hh p (by omega) (by omega)
    rw [mX ra rb] at ix
    rw [mY ra rb] at iy
    rw [mZ ra rb] at iz
    generalize decide (u ∈ a) = pa at *
    generalize decide (u ∈ b) = pb at *
    iterate 2 refine eo_p (by rfl) (by rfl) (by rfl) ?_
    refine eo_h (by rfl) (by rfl) ia ?_
    iterate 2 refine eo_p (by rfl) (by rfl) (by rfl) ?_
    refine eo_h (by rfl) (by rfl) ib ?_
    iterate 2 refine eo_p (by rfl) (by rfl) (by rfl) ?_
    refine eo_nil (ew_keep' (e' := [(0, .slc ta (ints a)), (1, .slc tb (ints b)), (7, .slc tx (ints X)), (8, .slc ty (ints Y)), (9, .slc tz (ints Z)), (10, .slc t2 (ints L)), (11, .int .i64 i), (12, .int .i64 u), (13, .bool pa), (14, .bool pb)]) (by rfl) (ew_seq (ew_reg (EWo.mono (Q := fun e Hq s => restr e [0, 1, 7, 8, 9, 10, 11, 125] = [(0, .slc ta (ints a)), (1, .slc tb (ints b)), (7, .slc tx (ints X)), (8, .slc ty (ints Y)), (9, .slc tz (ints Z)), (10, .slc t2 (ints L)), (11, .int .i64 i), (125, .bool false)] ∧ Hq = Hh ∧ s = none) ?_ ?_))))
    · iterate 2 refine eo_p (by rfl) (by rfl) (by rfl) ?_
      refine eo_h (by rfl) (by rfl) ix ?_
      cases pa <;> cases pb
      all_goals
        repeat (first
          | refine eo_h (by rfl) (by rfl) iy ?_
          | refine eo_h (by rfl) (by rfl) iz ?_
          | refine eo_p (by rfl) (by rfl) (by rfl) ?_
          | refine eo_n (by rfl) ?_)
        exact eo_nil ⟨by rfl, rfl, rfl⟩
    · rintro e Hq s ⟨he2, rfl, rfl⟩
      refine ew_keep' he2 (ew_cond (t := false) (by rfl) (fun h => by cases h) (fun _ => ew_skip ?_))
      refine ew_keep' (e' := [(0, .slc ta (ints a)), (1, .slc tb (ints b)), (7, .slc tx (ints X)), (8, .slc ty (ints Y)), (9, .slc tz (ints Z)), (10, .slc t2 (ints L)), (11, .int .i64 i)]) (by rfl) (ew_reg ?_)
      refine eo_p (by rfl) (by rfl) (by rfl) ?_
      refine eo_p (by rfl) (by rfl) (add1 (by omega)) ?_
      refine eo_p (by rfl) (by rfl) (by rfl) ?_
      exact eo_nil ⟨k - 1, by omega, i + 1, by omega, by rfl, rfl, rfl⟩
  · refine ew_keep (ew_seq (ew_reg (eo_p (by rfl) (by rfl) (by rfl) (eo_nil (ew_ret ⟨.inr rfl, _, by rfl, ?_⟩)))))
    exact fin_boolH [] _ true ⟨_, rfl⟩

theorem IndexRows_E (ta tb : Tok) (a b : List Int) (m : Int) :
    callN tab.get gl 201 3 [.slc ta (ints a), .slc tb (ints b), .int .i64 m] [] = some (.bool true, [], none) := IndexRows_n 199 rfl ta tb a b m
end Go.Lim.X35
