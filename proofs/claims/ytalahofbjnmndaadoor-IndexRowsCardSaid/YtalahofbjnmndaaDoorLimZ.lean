/- The E machine: laws for its evaluator, for contracts of functions. -/
import Derived.Test.YtalahofbjnmndaaDoorLimV
set_option linter.unusedVariables false
namespace Go.Lim
variable {cx : Cx} {n : Nat}

/-- The code comes to an end, and there it holds. -/
def EW (cx : Cx) (n : Nat) (c : ECode) (e : Env) (H : Heap) (s : Esc) (Q : EExit → Env → Heap → Esc → Prop) : Prop :=
  ∃ x e' H' s', evc cx n c e H s = some (x, e', H', s') ∧ Q x e' H' s'
def EWo (cx : Cx) (ops : List EOper) (e : Env) (H : Heap) (s : Esc) (Q : Env → Heap → Esc → Prop) : Prop :=
  ∃ e' H' s', evops cx ops e H s = some (e', H', s') ∧ Q e' H' s'
def EWd (cx : Cx) (D : List DOper) (e : Env) (H : Heap) (s : Esc) (Q : Env → Heap → Esc → Prop) : Prop :=
  ∃ e' H' s', evc cx 0 (.dreg D) e H s = some (.normal, e', H', s') ∧ Q e' H' s'

theorem EW.mono {c : ECode} {e : Env} {H : Heap} {s : Esc} {Q R : EExit → Env → Heap → Esc → Prop} (h : EW cx n c e H s Q) (hi : ∀ x e H s, Q x e H s → R x e H s) : EW cx n c e H s R := by
  obtain ⟨x, e', H', s', h1, h2⟩ := h
  exact ⟨x, e', H', s', h1, hi _ _ _ _ h2⟩

theorem ew_skip {e : Env} {H : Heap} {s : Esc} {Q : EExit → Env → Heap → Esc → Prop} (h : Q .normal e H s) : EW cx n .skip e H s Q := ⟨_, _, _, _, rfl, h⟩
theorem ew_ret {e : Env} {H : Heap} {s : Esc} {Q : EExit → Env → Heap → Esc → Prop} (h : Q .ret e H s) : EW cx n .ret e H s Q := ⟨_, _, _, _, rfl, h⟩
theorem ew_exit {i : Nat} {e : Env} {H : Heap} {s : Esc} {Q : EExit → Env → Heap → Esc → Prop} (h : Q (.exit i) e H s) : EW cx n (.exit i) e H s Q := ⟨_, _, _, _, rfl, h⟩
theorem ew_goto {i : Nat} {e : Env} {H : Heap} {s : Esc} {Q : EExit → Env → Heap → Esc → Prop} (h : Q (.goto i) e H s) : EW cx n (.goto i) e H s Q := ⟨_, _, _, _, rfl, h⟩
theorem ew_keep {l : List Nat} {c : ECode} {e : Env} {H : Heap} {s : Esc} {Q : EExit → Env → Heap → Esc → Prop} (h : EW cx n c (restr e l) H s Q) : EW cx n (.keep l c) e H s Q := h

theorem ew_keep' {l : List Nat} {c : ECode} {e e' : Env} {H : Heap} {s : Esc} {Q : EExit → Env → Heap → Esc → Prop} (he : restr e l = e') (h : EW cx n c e' H s Q) : EW cx n (.keep l c) e H s Q := by subst he; exact h
/-- What is left to do behind the first part. -/
def thenE (K : Env → Heap → Esc → Prop) (Q : EExit → Env → Heap → Esc → Prop) : EExit → Env → Heap → Esc → Prop
  | .normal, e, H, s => K e H s
  | x, e, H, s => Q x e H s
theorem ew_seq {a b : ECode} {e : Env} {H : Heap} {s : Esc} {Q : EExit → Env → Heap → Esc → Prop} (h : EW cx n a e H s (thenE (fun e H s => EW cx n b e H s Q) Q)) : EW cx n (.seq a b) e H s Q := by
  obtain ⟨x, e', H', s', h1, h2⟩ := h
  cases x with
  | normal =>
    obtain ⟨x2, e2, H2, s2, h3, h4⟩ := h2
    exact ⟨x2, e2, H2, s2, by simp [evc, h1, h3], h4⟩
  | exit i => exact ⟨_, _, _, _, by simp [evc, h1], h2⟩
  | goto i => exact ⟨_, _, _, _, by simp [evc, h1], h2⟩
  | ret => exact ⟨_, _, _, _, by simp [evc, h1], h2⟩
theorem ew_reg {ops : List EOper} {e : Env} {H : Heap} {s : Esc} {Q : EExit → Env → Heap → Esc → Prop} (h : EWo cx ops e H s (Q .normal)) : EW cx n (.reg ops) e H s Q := by
  obtain ⟨e', H', s', h1, h2⟩ := h
  exact ⟨_, _, _, _, by simp [evc, h1], h2⟩
theorem ew_dreg {D : List DOper} {e : Env} {H : Heap} {s : Esc} {Q : EExit → Env → Heap → Esc → Prop} (h : EWd cx D e H s (Q .normal)) : EW cx n (.dreg D) e H s Q := by
  obtain ⟨e', H', s', h1, h2⟩ := h
  exact ⟨_, _, _, _, h1, h2⟩
theorem ew_cond {c : EX} {a b : ECode} {e : Env} {H : Heap} {s : Esc} {Q : EExit → Env → Heap → Esc → Prop} {t : Bool} (hc : ev cx e c = some (.bool t)) (h1 : t = true → EW cx n a e H s Q) (h2 : t = false → EW cx n b e H s Q) :
    EW cx n (.cond c a b) e H s Q := by
  cases t
  · obtain ⟨x, e', H', s', h3, h4⟩ := h2 rfl
    exact ⟨x, e', H', s', by simp [evc, hc, h3], h4⟩
  · obtain ⟨x, e', H', s', h3, h4⟩ := h1 rfl
    exact ⟨x, e', H', s', by simp [evc, hc, h3], h4⟩
/-- Behind a block. -/
def blockE (id : Nat) (Q : EExit → Env → Heap → Esc → Prop) : EExit → Env → Heap → Esc → Prop
  | .exit i, e, H, s => if i = id then Q .normal e H s else Q (.exit i) e H s
  | x, e, H, s => Q x e H s
theorem ew_block {id : Nat} {a : ECode} {e : Env} {H : Heap} {s : Esc} {Q : EExit → Env → Heap → Esc → Prop} (h : EW cx n a e H s (blockE id Q)) : EW cx n (.block id a) e H s Q := by
  obtain ⟨x, e', H', s', h1, h2⟩ := h
  cases x with
  | exit i =>
    simp only [blockE] at h2
    split at h2
    · rename_i hi; exact ⟨_, _, _, _, by simp [evc, h1, hi], h2⟩
    · rename_i hi; exact ⟨_, _, _, _, by simp [evc, h1, hi], h2⟩
  | normal => exact ⟨_, _, _, _, by simp [evc, h1], h2⟩
  | goto i => exact ⟨_, _, _, _, by simp [evc, h1], h2⟩
  | ret => exact ⟨_, _, _, _, by simp [evc, h1], h2⟩
theorem ew_loop {live : List Nat} {a : ECode} {Q : EExit → Env → Heap → Esc → Prop} (I : Nat → Env → Heap → Esc → Prop)
    (step : ∀ k e H s, I k e H s → EW cx n a (restr e live) H s (thenE (fun e H s => ∃ k', k' < k ∧ I k' e H s) Q)) {k : Nat} {e : Env} {H : Heap} {s : Esc} (h0 : I k e H s) (hk : k < n) : EW cx n (.loop live a) e H s Q := by
  have key : ∀ (f : Nat) (k : Nat) (e : Env) (H : Heap) (s : Esc), k < f → I k e H s → ∃ x e' H' s', loopN (evc cx n a) live f e H s = some (x, e', H', s') ∧ Q x e' H' s' := by
    intro f
    induction f with
    | zero => intro k e H s hk; omega
    | succ f ih =>
      intro k e H s hk hI
      obtain ⟨x, e', H', s', h1, h2⟩ := step k e H s hI
      cases x with
      | normal =>
        obtain ⟨k', hk', hI'⟩ := h2
        obtain ⟨x, e2, H2, s2, h3, h4⟩ := ih k' e' H' s' (by omega) hI'
        exact ⟨x, e2, H2, s2, by simp [loopN, h1, h3], h4⟩
      | exit i => exact ⟨_, _, _, _, by simp [loopN, h1], h2⟩
      | goto i => exact ⟨_, _, _, _, by simp [loopN, h1], h2⟩
      | ret => exact ⟨_, _, _, _, by simp [loopN, h1], h2⟩
  exact key n k e H s hk h0

/-! ### operations -/
theorem eo_nil {e : Env} {H : Heap} {s : Esc} {Q : Env → Heap → Esc → Prop} (h : Q e H s) : EWo cx [] e H s Q := ⟨_, _, _, rfl, h⟩
theorem eo_p {o : EOper} {r : List EOper} {e : Env} {H : Heap} {s : Esc} {Q : Env → Heap → Esc → Prop} {v : AV} (hg : wantE e o.guard = some true) (hh : o.op.isH = false) (hp : pop cx e H o.op = some v)
    (h : EWo cx r (put e o.dst v) H s Q) : EWo cx (o :: r) e H s Q := by
  obtain ⟨e', H', s', h1, h2⟩ := h
  exact ⟨e', H', s', by simp [evops, evop, hg, hh, hp, mrg_none, h1], h2⟩
theorem eo_n {o : EOper} {r : List EOper} {e : Env} {H : Heap} {s : Esc} {Q : Env → Heap → Esc → Prop} (hg : wantE e o.guard = some false)
    (h : EWo cx r (put e o.dst undf) H s Q) : EWo cx (o :: r) e H s Q := by
  obtain ⟨e', H', s', h1, h2⟩ := h
  exact ⟨e', H', s', by simp [evops, evop, hg, mrg_none, h1], h2⟩
theorem eo_h {o : EOper} {r : List EOper} {e : Env} {H H1 : Heap} {s s1 : Esc} {Q : Env → Heap → Esc → Prop} {v : AV} (hg : wantE e o.guard = some true) (hh : o.op.isH = true) (hp : hop cx e H o.op = some (v, H1, s1))
    (h : EWo cx r (put e o.dst v) H1 (s.mrg s1) Q) : EWo cx (o :: r) e H s Q := by
  obtain ⟨e', H', s', h1, h2⟩ := h
  exact ⟨e', H', s', by simp [evops, evop, hg, hh, hp, h1], h2⟩

/-! ### a region that draws its order and leaves the heap alone -/
def EWr (cx : Cx) : List DOper → Env → Heap → (Env → Prop) → Prop
  | [], e, _, Q => Q e
  | d :: r, e, H, Q => d.eff = false ∧ ((wantE e d.o.guard = some false ∧ EWr cx r (put e d.o.dst undf) H Q) ∨
      (wantE e d.o.guard = some true ∧ d.o.op.isH = false ∧ ∃ v, pop cx e H d.o.op = some v ∧ (d.o.op.reads = true → AV.beq v v = true) ∧ EWr cx r (put e d.o.dst v) H Q))
theorem er_nil {e : Env} {H : Heap} {Q : Env → Prop} (h : Q e) : EWr cx [] e H Q := h
theorem er_p {d : DOper} {r : List DOper} {e : Env} {H : Heap} {Q : Env → Prop} {v : AV} (he : d.eff = false) (hg : wantE e d.o.guard = some true) (hh : d.o.op.isH = false) (hp : pop cx e H d.o.op = some v) (hb : d.o.op.reads = true → AV.beq v v = true)
    (h : EWr cx r (put e d.o.dst v) H Q) : EWr cx (d :: r) e H Q := ⟨he, .inr ⟨hg, hh, v, hp, hb, h⟩⟩
theorem er_n {d : DOper} {r : List DOper} {e : Env} {H : Heap} {Q : Env → Prop} (he : d.eff = false) (hg : wantE e d.o.guard = some false) (h : EWr cx r (put e d.o.dst undf) H Q) : EWr cx (d :: r) e H Q := ⟨he, .inl ⟨hg, h⟩⟩
theorem EWr.mono {Q R : Env → Prop} (hi : ∀ e, Q e → R e) : ∀ {D : List DOper} {e : Env} {H : Heap}, EWr cx D e H Q → EWr cx D e H R
  | [], e, H, h => hi e h
  | d :: r, e, H, ⟨he, .inl ⟨hg, h⟩⟩ => ⟨he, .inl ⟨hg, h.mono hi⟩⟩
  | d :: r, e, H, ⟨he, .inr ⟨hg, hh, v, hp, hb, h⟩⟩ => ⟨he, .inr ⟨hg, hh, v, hp, hb, h.mono hi⟩⟩
theorem EWo.mono {Q R : Env → Heap → Esc → Prop} {ops : List EOper} {e : Env} {H : Heap} {s : Esc} (h : EWo cx ops e H s Q) (hi : ∀ e H s, Q e H s → R e H s) : EWo cx ops e H s R := by
  obtain ⟨e', H', s', h1, h2⟩ := h
  exact ⟨e', H', s', h1, hi _ _ _ h2⟩
theorem ewd_pure {D : List DOper} {e : Env} {H : Heap} {s : Esc} {Q : Env → Heap → Esc → Prop} (h : EWr cx D e H (fun e' => Q e' H s)) : EWd cx D e H s Q := by
  have key : ∀ (D : List DOper) (j : Nat) (e : Env) (rs : List (DOper × Env × AV)), EWr cx D e H (fun e' => Q e' H s) → (∀ x ∈ rs, sameAt cx x.2.1 x.2.2 x.1.o.op H = true) →
      ∃ e' rs' J, evdops cx j D e H s [] rs = some (e', H, s, [(J, H)], rs') ∧ (∀ x ∈ rs', sameAt cx x.2.1 x.2.2 x.1.o.op H = true) ∧ Q e' H s := by
    intro D
    induction D with
    | nil => intro j e rs h hrs; exact ⟨e, rs, j, rfl, hrs, h⟩
    | cons d r ih =>
      intro j e rs h hrs
      obtain ⟨he, ⟨hg, h⟩ | ⟨hg, hh, v, hp, hb, h⟩⟩ := h
      · obtain ⟨e', rs', J, h1, h2, h3⟩ := ih (j + 1) _ rs h hrs
        refine ⟨e', rs', J, ?_, h2, h3⟩
        simp only [evdops, evop, hg, Option.bind_some, he, Bool.false_eq_true, if_false, mrg_none]
        cases d.o.op.reads <;> simp [h1]
      · have hrs' : ∀ x ∈ (if d.o.op.reads then (d, e, v) :: rs else rs), sameAt cx x.2.1 x.2.2 x.1.o.op H = true := by
          intro x hx
          split at hx
          · rename_i hr
            rcases List.mem_cons.1 hx with rfl | hx
            · simp [sameAt, hp, hb hr]
            · exact hrs x hx
          · exact hrs x hx
        obtain ⟨e', rs', J, h1, h2, h3⟩ := ih (j + 1) _ _ h hrs'
        refine ⟨e', rs', J, ?_, h2, h3⟩
        simp only [evdops, evop, hg, Option.bind_some, he, hh, hp, Bool.false_eq_true, if_true, if_false, mrg_none]
        exact h1
  obtain ⟨e', rs', J, h1, h2, h3⟩ := key D 0 e [] h (by simp)
  refine ⟨e', H, s, ?_, h3⟩
  have hall : ∀ rs : List (DOper × Env × AV), (∀ x ∈ rs, sameAt cx x.2.1 x.2.2 x.1.o.op H = true) → readsOK cx [(J, H)] rs = true := by
    intro rs
    induction rs with
    | nil => intro _; rfl
    | cons x r ih =>
      intro hx
      obtain ⟨d, e, v⟩ := x
      have h1 : sameAt cx e v d.o.op H = true := hx _ (List.mem_cons_self ..)
      simp only [readsOK, List.all_cons, List.all_nil, Bool.and_true, ih (fun y hy => hx y (List.mem_cons_of_mem _ hy)), h1]
      simp
  simp only [evc, h1, Option.bind_some, hall rs' h2, if_true]
theorem ew_dp {D : List DOper} {e : Env} {H : Heap} {s : Esc} {Q : EExit → Env → Heap → Esc → Prop} (h : EWr cx D e H (fun e' => Q .normal e' H s)) : EW cx n (.dreg D) e H s Q := ew_dreg (ewd_pure h)

/-! ### a function -/
theorem callN_code {T : FuncId → Option Fun} {gl : Nat → Option (List AV)} {n f np : Nat} {code : ECode} {res : List ERes} {raw : Bool} {args : List AV} {H : Heap} {R : AV × Heap × Esc} (hT : T f = some (.code ⟨np, code, res, raw⟩)) (hl : args.length = np)
    (h : EW ⟨callN T gl n, gl⟩ n code (initEnv 0 args) H none fun x e H' s => (x = .normal ∨ x = .ret) ∧ ∃ vs, evres e H' res = some vs ∧ (if raw then (tupOf vs, H', s) else fin H.length (tupOf vs) H' s) = R) :
    callN T gl (n + 1) f args H = some R := by
  obtain ⟨x, e, H', s, h1, h2, vs, h3, h4⟩ := h
  simp only [callN, hT, runF, hl, if_true, h1, Option.bind_some]
  rcases h2 with rfl | rfl <;> simp only [h3, Option.bind_some, h4]

theorem iaddrE_slc {sz : Nat} {tk : Tok} {es : List AV} {k : IntKind} {i : Nat} {v : AV} (hv : es[i]? = some v) (hc : v.cells.length = sz) : iaddrE sz (.slc tk es) (.int k i) = some (.rop v.cells 0) := by
  have hi : i < es.length := (List.getElem?_eq_some_iff.1 hv).1
  have hx : idxOf (i : Int) es.length = some i := by simp [idxOf, hi]
  simp only [iaddrE, hx, Option.bind_some, hv, if_pos hc]
theorem slslcE_slc {sz l h : Nat} {tk : Tok} {es : List AV} {kl kh : IntKind} (h1 : l ≤ h) (h2 : h ≤ es.length) (hc : ∀ v ∈ es, v.cells.length = sz) :
    slslcE sz (some (.int kl l)) (some (.int kh h)) (.slc tk es) = some (.slc .any ((es.drop l).take (h - l))) := by
  have e1 : bnd (some (.int kh (h : Int))) es.length es.length = some h := by simp [bnd, h2]
  have e2 : bnd (some (.int kl (l : Int))) 0 h = some l := by simp [bnd, h1]
  have e3 : es.all (fun v => decide (v.cells.length = sz)) = true := List.all_eq_true.2 fun v hv => by simp [hc v hv]
  simp [slslcE, e1, e2, e3]
theorem slslcE_lo {sz l : Nat} {tk : Tok} {es : List AV} {kl : IntKind} (h1 : l ≤ es.length) (hc : ∀ v ∈ es, v.cells.length = sz) :
    slslcE sz (some (.int kl l)) none (.slc tk es) = some (.slc .any (es.drop l)) := by
  have e2 : bnd (some (.int kl (l : Int))) 0 es.length = some l := by simp [bnd, h1]
  have e3 : es.all (fun v => decide (v.cells.length = sz)) = true := List.all_eq_true.2 fun v hv => by simp [hc v hv]
  have e1 : bnd none es.length es.length = some es.length := rfl
  simp [slslcE, e1, e2, e3, List.take_of_length_le]
theorem wrap_i64 {x : Int} (h1 : -9223372036854775808 ≤ x) (h2 : x ≤ 9223372036854775807) : IntKind.i64.wrap x = x := by
  simp only [IntKind.wrap, IntKind.bits, IntKind.signed]
  simp
  omega

end Go.Lim
