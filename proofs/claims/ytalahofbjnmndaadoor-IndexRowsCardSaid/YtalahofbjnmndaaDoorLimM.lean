/- The E machine: regions that draw their order, part 1: what an operation hangs on. -/
import Derived.Test.YtalahofbjnmndaaDoorLimL
set_option linter.unusedVariables false
set_option linter.unusedSimpArgs false
namespace Go.Lim
open Go.RowKit
variable {P : Program} {m : Em} {H : Heap} {w : World} {cx : Cx} {e : Env}

mutual
theorem beq_eq : ∀ (a b : AV), AV.beq a b = true → a = b
  | .bool a, b, h => by cases b <;> simp [AV.beq] at h; rw [h]
  | .int k a, b, h => by cases b <;> simp [AV.beq] at h; rw [h.1, h.2]
  | .flt k a, b, h => by cases b <;> simp [AV.beq] at h; rw [h.1.1, h.1.2]
  | .cpx k a c, b, h => by cases b <;> simp [AV.beq] at h; rw [h.1.1.1.1, h.1.1.1.2, h.1.1.2]
  | .str a, b, h => by cases b <;> simp [AV.beq] at h; rw [h]
  | .ptr a c, b, h => by cases b <;> simp [AV.beq] at h; rw [h.1, h.2]
  | .nilp, b, h => by cases b <;> simp [AV.beq] at h; rfl
  | .rop a c, b, h => by cases b <;> simp [AV.beq] at h; rw [beqL_eq _ _ h.1, h.2]
  | .slc a c, b, h => by cases b <;> simp [AV.beq] at h; rw [h.1, beqL_eq _ _ h.2]
  | .arr a c d s g, b, h => by cases b <;> simp [AV.beq] at h; rw [h.1.1.1.1, h.1.1.1.2, h.1.1.2, h.1.2, h.2]
  | .map a, b, h => by cases b <;> simp [AV.beq] at h; rw [h]
  | .nilm, b, h => by cases b <;> simp [AV.beq] at h; rfl
  | .fn a c, b, h => by cases b <;> simp [AV.beq] at h; rw [h.1, beqL_eq _ _ h.2]
  | .nilf, b, h => by cases b <;> simp [AV.beq] at h; rfl
  | .ifc a c, b, h => by cases b <;> simp [AV.beq] at h; rw [h.1, beq_eq _ _ h.2]
  | .nili, b, h => by cases b <;> simp [AV.beq] at h; rfl
  | .agg a, b, h => by cases b <;> simp [AV.beq] at h; rw [beqL_eq _ _ h]
  | .tup a, b, h => by cases b <;> simp [AV.beq] at h; rw [beqL_eq _ _ h]
theorem beqL_eq : ∀ (a b : List AV), AV.beqL a b = true → a = b
  | [], b, h => by cases b <;> simp [AV.beqL] at h; rfl
  | x :: r, b, h => by
    cases b <;> simp [AV.beqL] at h
    rw [beq_eq _ _ h.1, beqL_eq _ _ h.2]
end

/-- The operands. -/
def EOp.xs : EOp → List EX
  | .mv x | .nilck x | .un _ x | .i2i _ x | .s2b x | .b2s x | .idc x | .faddr _ x | .field _ _ _ x | .extract _ x | .len _ x | .cpxre _ x | .mkifc _ x | .box x | .load _ _ x | .eqnil _ _ x => [x]
  | .pick c a b => [c, a, b]
  | .build _ ps => ps.map (·.2.2)
  | .bslice _ _ _ ps => ps.map (·.2)
  | .bin _ x y | .eqb _ x y | .eqs _ _ x y | .iaddr _ x y | .iaddra _ _ x y | .idxa _ _ _ x y | .idxs x y | .lookup _ _ _ x y | .cpxmk x y | .store _ x y | .mkslice _ _ _ x y | .append _ _ x y | .appstr _ x y | .mapent _ _ x y => [x, y]
  | .mkfn _ xs | .mx _ xs => xs
  | .slstr x lo hi => x :: (lo.toList ++ hi.toList)
  | .slslc _ x lo hi => x :: (lo.toList ++ hi.toList)
  | .alloc _ | .mkmap => []
  | .mapupd _ x y z | .entst x y z => [x, y, z]
  | .call f xs => f :: xs
def EX.tmp? : EX → Option Nat
  | .t n => some n
  | _ => none
/-- The temporaries that an operation looks at. -/
def EOper.uses (o : EOper) : List Nat := (match o.guard with | some (t, _) => [t] | none => []) ++ o.op.xs.filterMap EX.tmp?

theorem ev_congr {e e' : Env} {y : EX} (h : ∀ t, y.tmp? = some t → e.get t = e'.get t) : ev cx e y = ev cx e' y := by
  cases y with
  | t n => exact h n rfl
  | c v => rfl
  | g n => rfl
theorem evs_congr {e e' : Env} : ∀ {xs : List EX}, (∀ y ∈ xs, ev cx e y = ev cx e' y) → evs cx e xs = evs cx e' xs
  | [], _ => rfl
  | x :: r, h => by simp only [evs]; rw [h x (by simp), evs_congr (fun y hy => h y (by simp [hy]))]
theorem evo_congr {e e' : Env} {x : Option EX} (h : ∀ y ∈ x.toList, ev cx e y = ev cx e' y) : evo cx e x = evo cx e' x := by
  cases x with
  | none => rfl
  | some y => simp only [evo]; rw [h y (by simp)]
theorem evparts_congr {e e' : Env} : ∀ {ps : List (Nat × Nat × EX)}, (∀ y ∈ ps.map (·.2.2), ev cx e y = ev cx e' y) → evparts cx e ps = evparts cx e' ps
  | [], _ => rfl
  | (a, b, x) :: r, h => by simp only [evparts]; rw [h x (by simp), evparts_congr (fun y hy => h y (by simp at hy ⊢; exact .inr hy))]
theorem evelems_congr {e e' : Env} : ∀ {ps : List (Nat × EX)}, (∀ y ∈ ps.map (·.2), ev cx e y = ev cx e' y) → evelems cx e ps = evelems cx e' ps
  | [], _ => rfl
  | (a, x) :: r, h => by simp only [evelems]; rw [h x (by simp), evelems_congr (fun y hy => h y (by simp at hy ⊢; exact .inr hy))]

theorem pop_congr {e e' : Env} {H : Heap} {op : EOp} (h : ∀ y ∈ op.xs, ev cx e y = ev cx e' y) : pop cx e H op = pop cx e' H op := by
  cases op <;> simp only [pop, EOp.xs] at h ⊢ <;> first
    | rfl
    | rw [evparts_congr h]
    | rw [evelems_congr h]
    | rw [evs_congr h]
    | (rw [h _ (by simp)]; done)
    | (rw [h _ (List.mem_cons_self ..), h _ (List.mem_cons_of_mem _ (List.mem_cons_self ..))]; done)
    | (rename_i a b c; rw [h a (by simp), h b (by simp), h c (by simp)]; done)
    | (rename_i x lo hi; rw [h x (by simp), evo_congr (x := lo) (fun y hy => h y (by simp at hy ⊢; simp [hy])), evo_congr (x := hi) (fun y hy => h y (by simp at hy ⊢; simp [hy]))]; done)

theorem hop_congr {e e' : Env} {H : Heap} {op : EOp} (h : ∀ y ∈ op.xs, ev cx e y = ev cx e' y) : hop cx e H op = hop cx e' H op := by
  cases op <;> simp only [hop, EOp.xs] at h ⊢ <;> first
    | rfl
    | (rw [h _ (by simp)]; done)
    | (rw [h _ (List.mem_cons_self ..), h _ (List.mem_cons_of_mem _ (List.mem_cons_self ..))]; done)
    | (rename_i a b c; rw [h a (by simp), h b (by simp), h c (by simp)]; done)
    | (rename_i f xs; rw [h f (by simp), evs_congr (fun y hy => h y (by simp [hy]))]; done)

theorem pop_heap {e : Env} {H H' : Heap} {op : EOp} (h : op.reads = false) : pop cx e H op = pop cx e H' op := by
  cases op <;> simp [EOp.reads] at h <;> rfl

theorem uses_ev {e e' : Env} {o : EOper} (h : ∀ t ∈ o.uses, e.get t = e'.get t) : ∀ y ∈ o.op.xs, ev cx e y = ev cx e' y := by
  intro y hy
  refine ev_congr fun t ht => h t ?_
  simp only [EOper.uses, List.mem_append, List.mem_filterMap]
  exact .inr ⟨y, hy, ht⟩
theorem uses_want {e e' : Env} {o : EOper} (h : ∀ t ∈ o.uses, e.get t = e'.get t) : wantE e o.guard = wantE e' o.guard := by
  cases hg : o.guard with
  | none => rfl
  | some q =>
    obtain ⟨t, w⟩ := q
    simp only [wantE]
    rw [h t (by simp [EOper.uses, hg])]

/-! ### two environments, one where W says so -/
def mixE (f o : Env) (W : Nat → Bool) : Env := f.filter (fun x => W x.1) ++ o.filter (fun x => !W x.1)
theorem get_filter (W : Nat → Bool) : ∀ (e : Env) (t : Nat), Env.get (e.filter fun x => W x.1) t = if W t then Env.get e t else none
  | [], t => by simp [Env.get]
  | (u, v) :: e, t => by
    have ih := get_filter W e t
    simp only [List.filter_cons, Env.get]
    by_cases hu : u = t
    · subst hu
      cases hW : W u <;> simp [hW, Env.get] at ih ⊢
      exact ih
    · cases hW : W u
      · simp [hu, ih]
      · simp [Env.get, hu, ih]
theorem get_append : ∀ (a b : Env) (t : Nat), Env.get (a ++ b) t = (Env.get a t).or (Env.get b t)
  | [], b, t => by simp [Env.get]
  | (u, v) :: a, b, t => by
    simp only [List.cons_append, Env.get]
    split
    · simp
    · exact get_append a b t
theorem get_mix (f o : Env) (W : Nat → Bool) (t : Nat) : Env.get (mixE f o W) t = if W t then Env.get f t else Env.get o t := by
  unfold mixE
  rw [get_append, get_filter W f t, get_filter (fun t => !W t) o t]
  cases W t <;> simp

end Go.Lim
