/- The E machine: the code of a function. -/
import Derived.Test.YtalahofbjnmndaaDoorLimQ
import Derived.ScopeJumps
set_option linter.unusedVariables false
set_option linter.unusedSimpArgs false
namespace Go.Lim
open Go.RowKit
variable {P : Program} {cx : Cx} {N : Nat} {m : Em} {H : Heap} {w : World}

/-! ### the checker of a region that draws its order -/
def hard (o : Oper) : List Nat := (o.after.toList.filter (Region.binds .any)).map (·.on)
/-- Each operation's, and all that is ahead of it. -/
def befs (ops : List Oper) : List (List Nat) :=
  ops.foldl (fun acc o => acc ++ [(hard o).foldl (fun s x => (x :: (acc.getD x []).filter fun y => !s.contains y) ++ s) []]) []
def chkBef (ops : List Oper) (B : List (List Nat)) : Bool :=
  ops.zipIdx.all fun (o, i) => (B.getD i []).all fun x => (hard o).any fun y => decide (y = x) || (B.getD y []).contains x

def chkD (P : Program) (ops : Array Oper) (N : Nat) (D : List DOper) : Bool :=
  let B := befs ops.toList
  let Z := D.zipIdx
  chkBef ops.toList B &&
  D.all (fun d => decide (d.i < ops.size)) &&
  (List.range ops.size).all (fun i => D.any fun d => decide (d.i = i)) &&
  Z.all (fun (d, p) => Z.all fun (d', p') => decide (p = p') || decide (d.i ≠ d'.i)) &&
  D.all (fun d => match ops[d.i]? with | some o => chkOper P ops N o d.o | none => false) &&
  Z.all (fun (d, p) => match ops[d.i]? with | some o => (hard o).all fun y => Z.any fun (d', p') => decide (p' < p) && decide (d'.i = y) | none => false) &&
  Z.all (fun (d, p) => Z.all fun (d', p') => decide (p = p') || (match d.o.dst with
    | none => true
    | some t => decide (d'.o.dst ≠ some t) && (!d'.o.uses.contains t || (if p < p' then (B.getD d'.i []).contains d.i else (B.getD d.i []).contains d'.i)))) &&
  D.all (fun d => if d.o.op.isH then d.eff || d.o.op.isAl else !d.eff) &&
  Z.all (fun (d, p) => !d.eff || Z.all fun (d', p') => !decide (p < p') || !d'.o.op.isH || (B.getD d'.i []).contains d.i) &&
  Z.all (fun (d, p) => !d.o.op.reads || (decide (d.lo ≤ D.length) && Z.all (fun (d', p') => !decide (p' < d.lo) || !d'.eff || (B.getD d.i []).contains d'.i) &&
    (decide (D.length ≤ d.hi) || match D[d.hi]? with | some d' => d'.eff && (B.getD d'.i []).contains d.i | none => false)))

theorem mem_zip {α : Type} {l : List α} {p : Nat} {d : α} (h : l[p]? = some d) : (d, p) ∈ l.zipIdx := by
  rw [List.mem_zipIdx_iff_getElem?]; exact h

theorem chkD_ok {ops : Array Oper} {D : List DOper} (h : chkD P ops N D = true) : DOK P ops N D (fun i => (befs ops.toList).getD i []) := by
  simp only [chkD, Bool.and_eq_true] at h
  obtain ⟨⟨⟨⟨⟨⟨⟨⟨⟨h1, h2⟩, h3⟩, h4⟩, h5⟩, h6⟩, h7⟩, h8⟩, h9⟩, h10⟩ := h
  have lt : ∀ (p : Nat) d, D[p]? = some d → d.i < ops.size := fun p d hd => by simpa using List.all_eq_true.1 h2 d (List.mem_of_getElem? hd)
  have pair : ∀ {q : DOper × Nat → DOper × Nat → Bool}, (D.zipIdx.all fun x => D.zipIdx.all fun y => q x y) = true → ∀ (p p' : Nat) d d', D[p]? = some d → D[p']? = some d' → q (d, p) (d', p') = true :=
    fun hq p p' d d' hd hd' => List.all_eq_true.1 (List.all_eq_true.1 hq _ (mem_zip hd)) _ (mem_zip hd')
  refine ⟨?_, lt, ?_, ?_, ?_, ?_, ?_, ?_, ?_, ?_, ?_, ?_⟩
  · intro p p' d d' hd hd' hi
    have := pair (q := fun x y => decide (x.2 = y.2) || decide (x.1.i ≠ y.1.i)) h4 p p' d d' hd hd'
    simp [hi] at this; exact this
  · intro i hi
    have := List.all_eq_true.1 h3 i (by simpa using hi)
    obtain ⟨d, hd, h⟩ := List.any_eq_true.1 this
    obtain ⟨p, hp, rfl⟩ := List.getElem_of_mem hd
    exact ⟨p, _, List.getElem?_eq_getElem hp, by simpa using h⟩
  · intro p d hd
    have := List.all_eq_true.1 h5 d (List.mem_of_getElem? hd)
    split at this
    · rename_i o ho; exact ⟨o, ho, this⟩
    · simp at this
  · intro i o ho x hx
    have hz : (o, i) ∈ ops.toList.zipIdx := mem_zip (by simpa using ho)
    have := List.all_eq_true.1 (List.all_eq_true.1 h1 _ hz) x hx
    obtain ⟨y, hy, h⟩ := List.any_eq_true.1 this
    simp only [hard, List.mem_map, List.mem_filter] at hy
    obtain ⟨ed, ⟨h11, h12⟩, rfl⟩ := hy
    exact ⟨ed, h11, h12, by simpa using h⟩
  · intro p d o hd ho ed hed hb
    have := List.all_eq_true.1 h6 _ (mem_zip hd)
    simp only [ho] at this
    have := List.all_eq_true.1 this ed.on (by simp only [hard, List.mem_map, List.mem_filter]; exact ⟨ed, ⟨hed, hb⟩, rfl⟩)
    obtain ⟨⟨d', p'⟩, h11, h12⟩ := List.any_eq_true.1 this
    simp at h12
    rw [List.mem_zipIdx_iff_getElem?] at h11
    exact ⟨p', d', h12.1, h11, h12.2⟩
  · intro p p' d d' t hd hd' ht ht'
    have := List.all_eq_true.1 (List.all_eq_true.1 h7 _ (mem_zip hd)) _ (mem_zip hd')
    simp only [ht, Bool.or_eq_true, Bool.and_eq_true, decide_eq_true_eq] at this
    rcases this with h | h
    · exact h
    · exact absurd ht' h.1
  · intro p p' d d' t hd hd' hne ht hu
    have := List.all_eq_true.1 (List.all_eq_true.1 h7 _ (mem_zip hd)) _ (mem_zip hd')
    simp only [ht, Bool.or_eq_true, Bool.and_eq_true, decide_eq_true_eq] at this
    rcases this with h | h
    · exact absurd h hne
    · rcases h.2 with h | h
      · simp at h; exact absurd hu h
      · split at h
        · rename_i hlt; exact .inl ⟨hlt, by simpa using h⟩
        · rename_i hlt; exact .inr ⟨by omega, by simpa using h⟩
  · intro p d hd
    have := List.all_eq_true.1 h8 d (List.mem_of_getElem? hd)
    cases hh : d.o.op.isH
    · rw [hh] at this; simp at this; exact ⟨fun h => by simp at h, fun _ => this⟩
    · rw [hh] at this; simp at this; exact ⟨fun _ => this, fun h => by simp at h⟩
  · intro p p' d d' hd hd' hlt he he'
    have := List.all_eq_true.1 h9 _ (mem_zip hd)
    simp only [he, Bool.not_true, Bool.false_or] at this
    have := List.all_eq_true.1 this _ (mem_zip hd')
    have hh : d'.o.op.isH = true := by
      have := List.all_eq_true.1 h8 d' (List.mem_of_getElem? hd')
      cases hh : d'.o.op.isH
      · rw [hh, he'] at this; simp at this
      · rfl
    simpa [hlt, hh] using this
  · intro p p' d d' hd hd' hlt he hh
    have := List.all_eq_true.1 h9 _ (mem_zip hd)
    simp only [he, Bool.not_true, Bool.false_or] at this
    have := List.all_eq_true.1 this _ (mem_zip hd')
    simpa [hlt, hh] using this
  · intro p d hd hrd
    have := List.all_eq_true.1 h10 _ (mem_zip hd)
    simp only [hrd, Bool.not_true, Bool.false_or, Bool.and_eq_true, decide_eq_true_eq] at this
    obtain ⟨⟨h11, h12⟩, h13⟩ := this
    refine ⟨h11, fun p' d' hlt hd' he => ?_, ?_⟩
    · have := List.all_eq_true.1 h12 _ (mem_zip hd')
      simpa [hlt, he] using this
    · simp only [Bool.or_eq_true, decide_eq_true_eq] at h13
      rcases h13 with h | h
      · exact .inl h
      · split at h
        · rename_i d' hd'
          simp at h
          exact .inr ⟨d', hd', h.1, by simpa using h.2⟩
        · simp at h

/-- Is the resolved code the function's? -/
def chkC (P : Program) (N : Nat) : Code → ECode → Bool
  | c, .keep _ a => chkC P N c a
  | .skip, .skip => true
  | .ret, .ret => true
  | .exit i, .exit j => decide (i = j)
  | .goto i, .goto j => decide (i = j)
  | .label _, .skip => true
  | .scope c, .scope l _ a b => chkC P N c a && (match findLabel c l with | some r => chkC P N r b | none => false)
  | .region _ ops false, .reg xs => chkOps P ops N ops.toList xs
  | .region _ ops true, .dreg D => chkD P ops N D
  | .seq a b, .seq x y => chkC P N a x && chkC P N b y
  | .cond c a b, .cond z x y => chkX c z && chkC P N a x && chkC P N b y
  | .block i a, .block j x => decide (i = j) && chkC P N a x
  | .loop a, .loop _ x => chkC P N a x
  | _, _ => false

def toExit : EExit → Exit
  | .normal => .normal
  | .exit i => .exit i
  | .goto l => .goto l
  | .ret => .ret

/-- What code leaves. -/
def COut (N : Nat) (m : Em) (H : Heap) (w : World) (x : EExit) (e' : Env) (H' : Heap) (X : Exit) (A : Act) (W : World) : Prop :=
  X = toExit x ∧ ∃ m', SR m' W e' N A ∧ WRel m' H' W ∧ Le m w m' W ∧ Pend m H m' H'

theorem exists_least (p : Nat → Prop) (h : ∃ k, p k) : ∃ k, p k ∧ ∀ j, p j → k ≤ j := by
  obtain ⟨k, hk⟩ := h
  induction k using Nat.strongRecOn with
  | _ k ih =>
    rcases Classical.em (∃ j, j < k ∧ p j) with ⟨j, h1, h2⟩ | h1
    · exact ih j h1 h2
    · exact ⟨k, hk, fun j hj => by
        rcases Nat.lt_or_ge j k with h2 | h2
        · exact absurd ⟨j, h2, hj⟩ h1
        · exact h2⟩
noncomputable def least (p : Nat → Prop) : Nat := @dite _ (∃ k, p k) (Classical.propDecidable _) (fun h => Classical.choose (exists_least p h)) (fun _ => 0)
theorem least_spec {p : Nat → Prop} (h : ∃ k, p k) : p (least p) ∧ ∀ j, p j → least p ≤ j := by
  have : least p = Classical.choose (exists_least p h) := by unfold least; rw [dif_pos h]
  rw [this]
  exact Classical.choose_spec (exists_least p h)

theorem code_sound (hcx : CxOK P cx) (hln : CxLen cx) (hm : P.follows .mixedOrders = true) (n : Nat) : ∀ (ec : ECode) (c : Code) (e : Env) (H : Heap) (s : Esc) (x : EExit) (e' : Env) (H' : Heap) (s' : Esc),
    chkC P N c ec = true → evc cx n ec e H s = some (x, e', H', s') → ∀ (m : Em) (w : World) (a : Act), WRel m H w → GlR m w cx.gl → SR m w e N a → c.wp P (COut N m H w x e' H') a w := by
  intro ec
  induction ec with
  | skip =>
    intro c e H s x e' H' s' hc h m w a hw hG hS
    cases c <;> simp [chkC] at hc
    · simp [evc] at h
      obtain ⟨rfl, rfl, rfl, rfl⟩ := h
      exact wp_skip ⟨rfl, m, hS, hw, .refl m w, .refl m H⟩
    · simp [evc] at h
      obtain ⟨rfl, rfl, rfl, rfl⟩ := h
      exact wp_label ⟨rfl, m, hS, hw, .refl m w, .refl m H⟩
  | ret =>
    intro c e H s x e' H' s' hc h m w a hw hG hS
    cases c <;> simp [chkC] at hc
    simp [evc] at h
    obtain ⟨rfl, rfl, rfl, rfl⟩ := h
    exact wp_ret ⟨rfl, m, hS, hw, .refl m w, .refl m H⟩
  | exit id =>
    intro c e H s x e' H' s' hc h m w a hw hG hS
    cases c <;> simp [chkC] at hc
    subst hc
    simp [evc] at h
    obtain ⟨rfl, rfl, rfl, rfl⟩ := h
    exact wp_exit ⟨rfl, m, hS, hw, .refl m w, .refl m H⟩
  | goto l =>
    intro c e H s x e' H' s' hc h m w a hw hG hS
    cases c <;> simp [chkC] at hc
    subst hc
    simp [evc] at h
    obtain ⟨rfl, rfl, rfl, rfl⟩ := h
    exact wp_goto ⟨rfl, m, hS, hw, .refl m w, .refl m H⟩
  | scope l live x y ihx ihy =>
    intro c e H s x' e' H' s' hc h m w a hw hG hS
    cases c <;> simp [chkC] at hc
    rename_i body
    obtain ⟨hc1, hc2⟩ := hc
    split at hc2 <;> try (simp at hc2; done)
    rename_i rest hfl
    simp only [evc, Option.bind_eq_some_iff] at h
    obtain ⟨⟨x1, e1, H1, s1⟩, h1, h2⟩ := h
    let J : Nat → Act → World → Prop := fun k a1 w1 => ∃ e1 H1 s1 m1, gotoN (evc cx n y) l live k e1 H1 s1 = some (x', e', H', s') ∧ WRel m1 H1 w1 ∧ SR m1 w1 e1 N a1 ∧ Le m w m1 w1 ∧ Pend m H m1 H1
    refine wp_scope_jumps l (fun a1 w1 => ∃ k, J k a1 w1) (fun a1 w1 => least fun k => J k a1 w1) hfl (wp_mono (ihx _ e H s x1 e1 H1 s1 hc1 h1 m w a hw hG hS) ?_) ?_
    · rintro X A W ⟨rfl, m1, g1, g2, g3, g4⟩
      cases x1 with
      | goto i =>
        simp only at h2
        split at h2 <;> try (simp at h2; done)
        rename_i hil
        exact ⟨hil, n, e1, H1, s1, m1, h2, g2, g1, g3, g4⟩
      | normal => simp at h2; obtain ⟨rfl, rfl, rfl, rfl⟩ := h2; exact ⟨rfl, m1, g1, g2, g3, g4⟩
      | exit i => simp at h2; obtain ⟨rfl, rfl, rfl, rfl⟩ := h2; exact ⟨rfl, m1, g1, g2, g3, g4⟩
      | ret => simp at h2; obtain ⟨rfl, rfl, rfl, rfl⟩ := h2; exact ⟨rfl, m1, g1, g2, g3, g4⟩
    · intro a1 w1 hI
      have hfind := (least_spec hI).1
      generalize hk : (least fun k => J k a1 w1) = k at hfind ⊢
      obtain ⟨e1, H1, s1, m1, h1, h2, h3, h4, h5⟩ := hfind
      cases k with
      | zero => simp [gotoN] at h1
      | succ k =>
        simp only [gotoN, Option.bind_eq_some_iff] at h1
        obtain ⟨⟨x2, e2, H2, s2⟩, h6, h7⟩ := h1
        refine wp_mono (ihy _ _ H1 s1 x2 e2 H2 s2 hc2 h6 m1 w1 a1 h2 (hG.ext h4.ext) (h3.restr live)) ?_
        rintro X A W ⟨rfl, m2, g1, g2, g3, g4⟩
        cases x2 with
        | goto i =>
          simp only at h7
          split at h7 <;> try (simp at h7; done)
          rename_i hil
          have hJ : J k A W := ⟨e2, H2, s2, m2, h7, g2, g1, h4.trans g3, h5.trans g4⟩
          exact ⟨hil, ⟨k, hJ⟩, Nat.lt_succ_of_le ((least_spec (p := fun k => J k A W) ⟨k, hJ⟩).2 k hJ)⟩
        | normal => simp at h7; obtain ⟨rfl, rfl, rfl, rfl⟩ := h7; exact ⟨rfl, m2, g1, g2, h4.trans g3, h5.trans g4⟩
        | exit i => simp at h7; obtain ⟨rfl, rfl, rfl, rfl⟩ := h7; exact ⟨rfl, m2, g1, g2, h4.trans g3, h5.trans g4⟩
        | ret => simp at h7; obtain ⟨rfl, rfl, rfl, rfl⟩ := h7; exact ⟨rfl, m2, g1, g2, h4.trans g3, h5.trans g4⟩
  | keep live ec ih =>
    intro c e H s x e' H' s' hc h m w a hw hG hS
    have hc' : chkC P N c ec = true := by cases c <;> exact hc
    simp only [evc] at h
    exact ih c _ H s x e' H' s' hc' h m w a hw hG (hS.restr live)
  | reg xs =>
    intro c e H s x e' H' s' hc h m w a hw hG hS
    cases c <;> try (simp [chkC] at hc; done)
    rename_i id ops draw
    cases draw <;> try (simp [chkC] at hc; done)
    simp only [chkC] at hc
    simp only [evc, Option.bind_eq_some_iff] at h
    obtain ⟨⟨e1, H1, s1⟩, h1, h2⟩ := h
    simp at h2
    obtain ⟨rfl, rfl, rfl, rfl⟩ := h2
    exact wp_region_list (evops_wp hcx xs ops.toList m H w e a s e1 H1 s1 hc hw hG hS h1 (fun m' w' a' g1 g2 g3 g4 => ⟨rfl, m', g1, g2, g3, g4⟩))
  | dreg D =>
    intro c e H s x e' H' s' hc h m w a hw hG hS
    cases c <;> try (simp [chkC] at hc; done)
    rename_i id ops draw
    cases draw <;> try (simp [chkC] at hc; done)
    simp only [chkC] at hc
    simp only [evc, Option.bind_eq_some_iff] at h
    obtain ⟨⟨e1, H1, s1, hs, rs⟩, h1, h2⟩ := h
    split at h2 <;> simp at h2
    rename_i hr
    obtain ⟨rfl, rfl, rfl, rfl⟩ := h2
    exact dreg_wp hcx hln (chkD_ok hc) hm h1 hr hw hG hS (fun m' w' a' g1 g2 g3 g4 => ⟨rfl, m', g1, g2, g3, g4⟩)
  | seq x y ihx ihy =>
    intro c e H s x' e' H' s' hc h m w a hw hG hS
    cases c <;> simp [chkC] at hc
    simp only [evc, Option.bind_eq_some_iff] at h
    obtain ⟨⟨x1, e1, H1, s1⟩, h1, h2⟩ := h
    have hx := ihx _ e H s x1 e1 H1 s1 hc.1 h1 m w a hw hG hS
    refine wp_seq (wp_mono hx ?_)
    rintro X A W ⟨rfl, m1, g1, g2, g3, g4⟩
    cases x1 with
    | normal =>
      simp only at h2
      simp only [toExit, Exit.then]
      refine wp_mono (ihy _ e1 H1 s1 x' e' H' s' hc.2 h2 m1 W A g2 (hG.ext g3.ext) g1) ?_
      rintro X A W ⟨rfl, m2, k1, k2, k3, k4⟩
      exact ⟨rfl, m2, k1, k2, g3.trans k3, g4.trans k4⟩
    | exit i =>
      simp at h2
      obtain ⟨rfl, rfl, rfl, rfl⟩ := h2
      exact ⟨rfl, m1, g1, g2, g3, g4⟩
    | ret =>
      simp at h2
      obtain ⟨rfl, rfl, rfl, rfl⟩ := h2
      exact ⟨rfl, m1, g1, g2, g3, g4⟩
    | goto i =>
      simp at h2
      obtain ⟨rfl, rfl, rfl, rfl⟩ := h2
      exact ⟨rfl, m1, g1, g2, g3, g4⟩
  | cond z x y ihx ihy =>
    intro c e H s x' e' H' s' hc h m w a hw hG hS
    cases c <;> simp [chkC] at hc
    simp only [evc, Option.bind_eq_some_iff] at h
    obtain ⟨v, h1, h2⟩ := h
    cases v <;> try (simp at h2; done)
    rename_i co thn els t
    have hv := (XR.of hS.env hG) _ _ _ hc.1.1 h1
    have ht : a.eval co = .bool t := by generalize a.eval co = r at hv; cases hv; rfl
    refine wp_cond ht ?_
    cases t
    · simp at h2 ⊢
      exact ihy _ e H s x' e' H' s' hc.2 h2 m w a hw hG hS
    · simp at h2 ⊢
      exact ihx _ e H s x' e' H' s' hc.1.2 h2 m w a hw hG hS
  | block id x ih =>
    intro c e H s x' e' H' s' hc h m w a hw hG hS
    cases c <;> simp [chkC] at hc
    obtain ⟨rfl, hc⟩ := hc
    simp only [evc, Option.bind_eq_some_iff] at h
    obtain ⟨⟨x1, e1, H1, s1⟩, h1, h2⟩ := h
    refine wp_block (wp_mono (ih _ e H s x1 e1 H1 s1 hc h1 m w a hw hG hS) ?_)
    rintro X A W ⟨rfl, m1, g1, g2, g3, g4⟩
    cases x1 with
    | normal =>
      simp at h2
      obtain ⟨rfl, rfl, rfl, rfl⟩ := h2
      exact ⟨rfl, m1, g1, g2, g3, g4⟩
    | exit i =>
      simp only at h2
      simp only [toExit, Exit.inBlock]
      split at h2 <;> simp at h2 <;> obtain ⟨rfl, rfl, rfl, rfl⟩ := h2
      · rename_i hi; rw [if_pos hi]; exact ⟨rfl, m1, g1, g2, g3, g4⟩
      · rename_i hi; rw [if_neg hi]; exact ⟨rfl, m1, g1, g2, g3, g4⟩
    | ret =>
      simp at h2
      obtain ⟨rfl, rfl, rfl, rfl⟩ := h2
      exact ⟨rfl, m1, g1, g2, g3, g4⟩
    | goto i =>
      simp at h2
      obtain ⟨rfl, rfl, rfl, rfl⟩ := h2
      exact ⟨rfl, m1, g1, g2, g3, g4⟩
  | loop live x ih =>
    intro c e H s x' e' H' s' hc h m w a hw hG hS
    cases c <;> simp [chkC] at hc
    rename_i body
    simp only [evc] at h
    -- so many rounds are left
    let J : Nat → Act → World → Prop := fun k a1 w1 => ∃ e1 H1 s1 m1, loopN (evc cx n x) live k e1 H1 s1 = some (x', e', H', s') ∧ WRel m1 H1 w1 ∧ SR m1 w1 e1 N a1 ∧ Le m w m1 w1 ∧ Pend m H m1 H1
    have key := wp_loop (P := P) (c := body) (Q := COut N m H w x' e' H') (a := a) (w := w) (fun a1 w1 => ∃ k, J k a1 w1)
      (fun a1 w1 => least fun k => J k a1 w1) ⟨n, e, H, s, m, h, hw, hS, .refl m w, .refl m H⟩ ?_
    · exact key
    · intro a1 w1 hI
      have hfind := (least_spec hI).1
      generalize hk : (least fun k => J k a1 w1) = k at hfind ⊢
      obtain ⟨e1, H1, s1, m1, h1, h2, h3, h4, h5⟩ := hfind
      cases k with
      | zero => simp [loopN] at h1
      | succ k =>
        simp only [loopN, Option.bind_eq_some_iff] at h1
        obtain ⟨⟨x2, e2, H2, s2⟩, h6, h7⟩ := h1
        refine wp_mono (ih _ _ H1 s1 x2 e2 H2 s2 hc h6 m1 w1 a1 h2 (hG.ext h4.ext) (h3.restr live)) ?_
        rintro X A W ⟨rfl, m2, g1, g2, g3, g4⟩
        cases x2 with
        | normal =>
          simp only at h7
          have hJ : J k A W := ⟨e2, H2, s2, m2, h7, g2, g1, h4.trans g3, h5.trans g4⟩
          simp only [toExit, Exit.then]
          refine ⟨⟨k, hJ⟩, ?_⟩
          exact Nat.lt_succ_of_le ((least_spec (p := fun k => J k A W) ⟨k, hJ⟩).2 k hJ)
        | exit i =>
          simp at h7
          obtain ⟨rfl, rfl, rfl, rfl⟩ := h7
          exact ⟨rfl, m2, g1, g2, h4.trans g3, h5.trans g4⟩
        | ret =>
          simp at h7
          obtain ⟨rfl, rfl, rfl, rfl⟩ := h7
          exact ⟨rfl, m2, g1, g2, h4.trans g3, h5.trans g4⟩
        | goto i =>
          simp at h7
          obtain ⟨rfl, rfl, rfl, rfl⟩ := h7
          exact ⟨rfl, m2, g1, g2, h4.trans g3, h5.trans g4⟩

end Go.Lim
