import Derived.Test.YtalahofbjnmndaaDoorLimC35b
set_option linter.unusedVariables false
namespace Go.Lim.X35
open Go Go.Lim

/-! ### the plain law of rows -/
theorem mergeS_len1 (a b : List Int) : (mergeS (fun x y => x && y) a b).length + (mergeS (fun _ y => !y) a b).length = a.length := by
  fun_induction mergeS (fun x y => x && y) a b <;> simp_all [mergeS] <;> (try split) <;> (try split) <;> (try simp) <;> omega
theorem mergeS_len2 (a b : List Int) : (mergeS (fun _ _ => true) a b).length = (mergeS (fun _ y => !y) a b).length + b.length := by
  fun_induction mergeS (fun _ _ => true) a b <;> simp_all [mergeS] <;> (try split) <;> (try split) <;> (try simp) <;> omega

theorem mergeS_sub (keep : Bool → Bool → Bool) (a b : List Int) (m : Int) (h : m ∈ mergeS keep a b) : m ∈ a ∨ m ∈ b := by
  fun_induction mergeS keep a b with
  | case1 => simp at h
  | case2 x a ih =>
    rcases List.mem_append.1 h with h | h
    · split at h <;> simp at h; simp [h]
    · rcases ih h with h | h <;> simp [h]
  | case3 y b ih =>
    rcases List.mem_append.1 h with h | h
    · split at h <;> simp at h; simp [h]
    · rcases ih h with h | h <;> simp [h]
  | case4 x a y b hxy ih =>
    rcases List.mem_append.1 h with h | h
    · split at h <;> simp at h; simp [h]
    · rcases ih h with h | h <;> simp_all
  | case5 x a y b h1 h2 ih =>
    rcases List.mem_append.1 h with h | h
    · split at h <;> simp at h; simp [h]
    · rcases ih h with h | h <;> simp_all
  | case6 x a y b h1 h2 ih =>
    rcases List.mem_append.1 h with h | h
    · split at h <;> simp at h; simp [h]
    · rcases ih h with h | h <;> simp_all

abbrev Srt (l : List Int) : Prop := l.Pairwise (· < ·)

theorem mergeS_mem (keep : Bool → Bool → Bool) (a b : List Int) (ha : Srt a) (hb : Srt b) (m : Int) :
    m ∈ mergeS keep a b ↔ (m ∈ a ∧ m ∉ b ∧ keep true false = true) ∨ (m ∉ a ∧ m ∈ b ∧ keep false true = true) ∨ (m ∈ a ∧ m ∈ b ∧ keep true true = true) := by
  fun_induction mergeS keep a b with
  | case1 => simp
  | case2 x a ih =>
    rw [List.mem_append, ih (List.pairwise_cons.1 ha).2 hb]
    by_cases hm : m = x <;> cases keep true false <;> simp [hm]
  | case3 y b ih =>
    rw [List.mem_append, ih ha (List.pairwise_cons.1 hb).2]
    by_cases hm : m = y <;> cases keep false true <;> simp [hm]
  | case4 x a y b hxy ih =>
    rw [List.mem_append, ih (List.pairwise_cons.1 ha).2 hb]
    have hx : x ∉ y :: b := fun h => by
      rcases List.mem_cons.1 h with h | h
      · omega
      · have := (List.pairwise_cons.1 hb).1 x h; omega
    have hxa : x ∉ a := fun h => by have := (List.pairwise_cons.1 ha).1 x h; omega
    by_cases hm : m = x
    · subst hm; cases keep true false <;> simp [hx, hxa]
    · have : (m ∈ (if keep true false = true then [x] else [])) = False := by
        split <;> simp [hm]
      simp [this, hm]
  | case5 x a y b h1 h2 ih =>
    rw [List.mem_append, ih ha (List.pairwise_cons.1 hb).2]
    have hy : y ∉ x :: a := fun h => by
      rcases List.mem_cons.1 h with h | h
      · omega
      · have := (List.pairwise_cons.1 ha).1 y h; omega
    have hyb : y ∉ b := fun h => by have := (List.pairwise_cons.1 hb).1 y h; omega
    by_cases hm : m = y
    · subst hm; cases keep false true <;> simp [hy, hyb]
    · have : (m ∈ (if keep false true = true then [y] else [])) = False := by
        split <;> simp [hm]
      simp [this, hm]
  | case6 x a y b h1 h2 ih =>
    have hxy : x = y := by omega
    subst hxy
    rw [List.mem_append, ih (List.pairwise_cons.1 ha).2 (List.pairwise_cons.1 hb).2]
    have hxa : x ∉ a := fun h => by have := (List.pairwise_cons.1 ha).1 x h; omega
    have hxb : x ∉ b := fun h => by have := (List.pairwise_cons.1 hb).1 x h; omega
    by_cases hm : m = x
    · subst hm; cases keep true true <;> simp [hxa, hxb]
    · have : (m ∈ (if keep true true = true then [x] else [])) = False := by
        split <;> simp [hm]
      simp [this, hm]

theorem mergeS_srt (keep : Bool → Bool → Bool) (a b : List Int) (ha : Srt a) (hb : Srt b) : Srt (mergeS keep a b) := by
  have key : ∀ (c : Bool) (z : Int) (l : List Int), Srt l → (∀ m ∈ l, z < m) → Srt ((if c = true then [z] else []) ++ l) := by
    intro c z l hl h
    cases c
    · simpa using hl
    · simpa using ⟨h, hl⟩
  fun_induction mergeS keep a b with
  | case1 => exact List.Pairwise.nil
  | case2 x a ih =>
    obtain ⟨h1, h2⟩ := List.pairwise_cons.1 ha
    exact key _ _ _ (ih h2 hb) fun m hm => by
      rcases mergeS_sub _ _ _ _ hm with h | h
      · exact h1 m h
      · simp at h
  | case3 y b ih =>
    obtain ⟨h1, h2⟩ := List.pairwise_cons.1 hb
    exact key _ _ _ (ih ha h2) fun m hm => by
      rcases mergeS_sub _ _ _ _ hm with h | h
      · simp at h
      · exact h1 m h
  | case4 x a y b hxy ih =>
    obtain ⟨h1, h2⟩ := List.pairwise_cons.1 ha
    exact key _ _ _ (ih h2 hb) fun m hm => by
      rcases mergeS_sub _ _ _ _ hm with h | h
      · exact h1 m h
      · rcases List.mem_cons.1 h with rfl | h
        · exact hxy
        · have := (List.pairwise_cons.1 hb).1 m h; omega
  | case5 x a y b h1 h2 ih =>
    obtain ⟨g1, g2⟩ := List.pairwise_cons.1 hb
    exact key _ _ _ (ih ha g2) fun m hm => by
      rcases mergeS_sub _ _ _ _ hm with h | h
      · rcases List.mem_cons.1 h with rfl | h
        · exact h2
        · have := (List.pairwise_cons.1 ha).1 m h; omega
      · exact g1 m h
  | case6 x a y b h1 h2 ih =>
    obtain ⟨f1, f2⟩ := List.pairwise_cons.1 ha
    obtain ⟨g1, g2⟩ := List.pairwise_cons.1 hb
    exact key _ _ _ (ih f2 g2) fun m hm => by
      rcases mergeS_sub _ _ _ _ hm with h | h
      · have := f1 m h; omega
      · exact g1 m h

theorem isRow_iff {l : List Int} : isRow l ↔ Srt l ∧ ∀ x ∈ l, 0 ≤ x := by
  constructor
  · intro h
    constructor
    · refine List.pairwise_iff_getElem.2 ?_
      have adj : ∀ i (hi : i + 1 < l.length), l[i] < l[i + 1] := fun i hi => by
        have := (h (i + 1) hi _ (List.getElem?_eq_getElem hi)).2 l[i] (by omega) (by rw [Nat.add_sub_cancel]; exact List.getElem?_eq_getElem (by omega))
        exact this
      intro i j hi hj hij
      obtain ⟨d, rfl⟩ : ∃ d, j = i + 1 + d := ⟨j - i - 1, by omega⟩
      induction d with
      | zero => exact adj i hj
      | succ d ih =>
        have h1 := ih (by omega) (by omega)
        have h2 := adj (i + 1 + d) hj
        exact Int.lt_trans h1 h2
    · intro x hx
      obtain ⟨j, hj, rfl⟩ := List.getElem_of_mem hx
      exact (h j hj _ (List.getElem?_eq_getElem hj)).1
  · rintro ⟨h1, h2⟩ j hj x hx
    rw [List.getElem?_eq_getElem hj] at hx
    simp at hx; subst hx
    refine ⟨h2 _ (List.getElem_mem hj), fun y h0 hy => ?_⟩
    have hj' : j - 1 < l.length := by omega
    rw [List.getElem?_eq_getElem hj'] at hy
    simp at hy; subst hy
    exact List.pairwise_iff_getElem.1 h1 _ _ hj' hj (by omega)

theorem isRow_merge (keep : Bool → Bool → Bool) {a b : List Int} (ha : isRow a) (hb : isRow b) : isRow (mergeS keep a b) := by
  rw [isRow_iff] at *
  refine ⟨mergeS_srt keep a b ha.1 hb.1, fun x hx => ?_⟩
  rcases mergeS_sub keep a b x hx with h | h
  · exact ha.2 x h
  · exact hb.2 x h
end Go.Lim.X35
