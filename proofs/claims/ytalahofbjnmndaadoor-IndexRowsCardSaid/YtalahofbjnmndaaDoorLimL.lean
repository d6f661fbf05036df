/- The E machine: one operation in a frame; regions in the order of the text. -/
import Derived.Test.YtalahofbjnmndaaDoorLimK
set_option linter.unusedVariables false
set_option linter.unusedSimpArgs false
namespace Go.Lim
open Go.RowKit
variable {P : Program} {m : Em} {H : Heap} {w : World} {cx : Cx} {e : Env}

structure SR (m : Em) (w : World) (e : Env) (N : Nat) (a : Act) : Prop where
  size : a.tmps.size = N
  defers : a.defers = []
  env : EnvR m w e a.tmps

theorem SR.ext {m' : Em} {w' : World} {N : Nat} {a : Act} (h : SR m w e N a) (hx : Ext m m' w w') : SR m' w' e N a := ⟨h.size, h.defers, h.env.ext hx⟩

theorem SR.put {N : Nat} {a : Act} {d : Option Nat} {v : AV} {r : Value} (h : SR m w e N a) (hv : VR m w v r) (hd : ∀ t, d = some t → t < N) : SR m w (put e d v) N (a.put d r) := by
  cases d with
  | none => exact h
  | some t =>
    have ht := hd t rfl
    refine ⟨by simp [Act.put, h.size], h.defers, fun u x hx => ?_⟩
    simp only [Lim.put, Env.get] at hx
    simp only [Act.put, Array.getD_eq_getD_getElem?]
    split at hx
    · rename_i htu; subst htu
      simp at hx; subst hx
      rw [Array.getElem?_setIfInBounds_self_of_lt (by rw [h.size]; exact ht)]
      exact hv
    · rename_i htu
      rw [Array.getElem?_setIfInBounds_ne htu]
      have := h.env u x hx
      rwa [Array.getD_eq_getD_getElem?] at this

def chkGuard (ops : Array Oper) : Option (Nat × Bool) → Option (Nat × Bool) → Bool
  | none, none => true
  | some (j, w), some (t, w') => (w == w') && decide ((ops[j]?).bind (·.dst) = some t)
  | _, _ => false
def chkDst (N : Nat) : Option Nat → Option Nat → Bool
  | none, none => true
  | some t, some u => decide (t = u) && decide (t < N)
  | _, _ => false
def chkOper (P : Program) (ops : Array Oper) (N : Nat) (o : Oper) (x : EOper) : Bool := chkDst N o.dst x.dst && chkGuard ops o.guard x.guard && chkOp P o.op x.op
theorem chkDst_some {N : Nat} {d d' : Option Nat} (h : chkDst N d d' = true) : d = d' ∧ ∀ t, d = some t → t < N := by
  cases d <;> cases d' <;> simp [chkDst] at h
  · exact ⟨rfl, fun t h => by simp at h⟩
  · exact ⟨by rw [h.1], fun t ht => by simp at ht; omega⟩

theorem wanted_sound {N : Nat} {a : Act} {ops : Array Oper} {o : Oper} {x : EOper} {b : Bool} (hS : SR m w e N a) (hc : chkGuard ops o.guard x.guard = true) (h : wantE e x.guard = some b) :
    Region.wanted o (yielded ops a.tmps) = b := by
  unfold Region.wanted
  cases hg : o.guard with
  | none =>
    cases hx : x.guard with
    | none => rw [hx] at h; simp [wantE] at h; simpa using h
    | some q => rw [hg, hx] at hc; simp [chkGuard] at hc
  | some p =>
    cases hx : x.guard with
    | none => rw [hg, hx] at hc; simp [chkGuard] at hc
    | some q =>
      obtain ⟨j, want⟩ := p
      obtain ⟨t, want'⟩ := q
      rw [hg, hx] at hc
      simp only [chkGuard, Bool.and_eq_true, decide_eq_true_eq] at hc
      have hw' := eq_of_beq hc.1
      subst hw'
      rw [hx] at h
      simp only [wantE, Option.bind_eq_some_iff] at h
      obtain ⟨v, h1, h2⟩ := h
      have hv := hS.env t _ h1
      cases v with
      | tup vs =>
        cases vs with
        | cons _ _ => simp at h2
        | nil =>
          simp at h2; subst h2
          simp only
          generalize hq : a.tmps.getD t undef = r at hv
          have hy : yielded ops a.tmps j = none := by
            cases hv with
            | tup cs rs hl hv' =>
              have : rs = [] := List.eq_nil_of_length_eq_zero (by simpa using hl.symm)
              subst this
              rw [Array.getD_eq_getD_getElem?] at hq
              cases hx2 : a.tmps[t]? with
              | none => simp [yielded, hc.2, hx2]
              | some q => rw [hx2] at hq; simp at hq; subst hq; simp [yielded, hc.2, hx2]
          rw [hy]; rfl
      | bool c =>
        simp at h2; subst h2
        rw [Array.getD_eq_getD_getElem?] at hv
        simp only
        have ht : a.tmps[t]? = some (.bool c) := by
          cases hq : a.tmps[t]? with
          | none => rw [hq] at hv; simp [undef] at hv; cases hv
          | some r => rw [hq] at hv; simp at hv; cases hv; rfl
        simp only [yielded, hc.2, Option.bind_some, ht]
        rfl
      | _ => simp at h2

theorem evop_wp {N : Nat} {a : Act} {ops : Array Oper} {o : Oper} {x : EOper} {e' : Env} {H' : Heap} {s : Esc} {K : Act → World → Prop} {Q : Exit → Act → World → Prop}
    (hcx : CxOK P cx) (hc : chkOper P ops N o x = true) (hw : WRel m H w) (hG : GlR m w cx.gl) (hS : SR m w e N a) (h : evop cx x e H = some (e', H', s))
    (hK : ∀ m' w' a', SR m' w' e' N a' → WRel m' H' w' → Le m w m' w' → Pend m H m' H' → K a' w') :
    if Region.wanted o (yielded ops a.tmps) then o.wp P a w K Q else K (a.put o.dst undef) w := by
  simp only [chkOper, Bool.and_eq_true] at hc
  obtain ⟨⟨hc1, hc2⟩, hc3⟩ := hc
  obtain ⟨hd, hdN⟩ := chkDst_some hc1
  simp only [evop, Option.bind_eq_some_iff] at h
  obtain ⟨b, hb, h⟩ := h
  rw [wanted_sound hS hc2 hb]
  have hX : XR cx m w e a.eval := XR.of hS.env hG
  have fin : ∀ {v : AV} {H' : Heap} {e'' : Env}, e'' = put e o.dst v → (∀ m' w' a', SR m' w' e'' N a' → WRel m' H' w' → Le m w m' w' → Pend m H m' H' → K a' w') → OpOut P m H w (execOp a.eval o) v H' → o.wp P a w K Q := by
    intro v H' e'' he'' hK hout
    subst he''
    unfold Oper.wp
    rcases hout with ⟨r, w', h1, m', h2, h3, h4, h5⟩ | ⟨k, rs, h1, h2⟩
    · rcases h1 with h1 | ⟨h1, rfl⟩
      · rw [h1, Oper.upon_value]
        exact hK m' w' _ ((hS.ext h3.ext).put h2 hdN) h4 h3 h5
      · rw [h1, Oper.upon_skip]
        exact hK m' w' _ ((hS.ext h3.ext).put h2 hdN) h4 h3 h5
    · rw [h1, Oper.upon_enter]
      refine h2.mono ?_
      rintro en w' ⟨r, rfl, m', h3, h4, h5, h6⟩
      exact hK m' w' _ ((hS.ext h4.ext).put h3 hdN) h5 h4 h6
  cases b with
  | false =>
    simp at h
    obtain ⟨rfl, rfl, rfl⟩ := h
    simp only [Bool.false_eq_true, if_false]
    rw [← hd] at *
    exact hK m w _ (hS.put (undf_VR m w) hdN) hw (.refl m w) (.refl m H)
  | true =>
    simp only [if_true] at h ⊢
    split at h
    · rename_i hh
      simp only [Option.bind_eq_some_iff] at h
      obtain ⟨⟨v, H1, s1⟩, h1, h2⟩ := h
      simp at h2
      obtain ⟨rfl, rfl, rfl⟩ := h2
      exact fin (by rw [hd]) hK (hop_sound hw hX (fun _ => rfl) hG hcx hc3 hh h1)
    · rename_i hh
      simp only [Option.bind_eq_some_iff] at h
      obtain ⟨v, h1, h2⟩ := h
      simp at h2
      obtain ⟨rfl, rfl, rfl⟩ := h2
      exact fin (by rw [hd]) hK (pop_sound hw hX (fun _ => rfl) hc3 (by simpa using hh) h1).out

def chkOps (P : Program) (ops : Array Oper) (N : Nat) : List Oper → List EOper → Bool
  | [], [] => true
  | o :: r, x :: s => chkOper P ops N o x && chkOps P ops N r s
  | _, _ => false

theorem evops_wp {N : Nat} {ops : Array Oper} {Q : Exit → Act → World → Prop} (hcx : CxOK P cx) : ∀ (xs : List EOper) (os : List Oper) (m : Em) (H : Heap) (w : World) (e : Env) (a : Act) (s : Esc) (e' : Env) (H' : Heap) (s' : Esc),
    chkOps P ops N os xs = true → WRel m H w → GlR m w cx.gl → SR m w e N a → evops cx xs e H s = some (e', H', s') →
    (∀ m' w' a', SR m' w' e' N a' → WRel m' H' w' → Le m w m' w' → Pend m H m' H' → Q .normal a' w') → wpList P ops Q os a w
  | [], os, m, H, w, e, a, s, e', H', s', hc, hw, hG, hS, h, hQ => by
    cases os <;> simp [chkOps] at hc
    simp [evops] at h
    obtain ⟨rfl, rfl, rfl⟩ := h
    exact wpList_nil (hQ m w a hS hw (.refl m w) (.refl m H))
  | x :: xs, os, m, H, w, e, a, s, e', H', s', hc, hw, hG, hS, h, hQ => by
    cases os with
    | nil => simp [chkOps] at hc
    | cons o os =>
      simp only [chkOps, Bool.and_eq_true] at hc
      simp only [evops, Option.bind_eq_some_iff] at h
      obtain ⟨⟨e1, H1, s1⟩, h1, h2⟩ := h
      refine wpList_step fun K hK => ?_
      refine evop_wp hcx hc.1 hw hG hS h1 (fun m' w' a' g1 g2 g3 g4 => hK _ _ ?_)
      exact evops_wp hcx xs os m' H1 w' e1 a' _ e' H' s' hc.2 g2 (hG.ext g3.ext) g1 h2 (fun m'' w'' a'' q1 q2 q3 q4 => hQ m'' w'' a'' q1 q2 (g3.trans q3) (g4.trans q4))

theorem restr_get {live : List Nat} {t : Nat} {v : AV} (h : Env.get (restr e live) t = some v) : Env.get e t = some v := by
  induction live with
  | nil => simp [restr, Env.get] at h
  | cons u r ih =>
    simp only [restr] at h
    split at h
    · rename_i x hx
      simp only [Env.get] at h
      split at h
      · rename_i hut; subst hut; simp at h; subst h; exact hx
      · exact ih h
    · exact ih h
theorem SR.restr {N : Nat} {a : Act} (h : SR m w e N a) (live : List Nat) : SR m w (restr e live) N a := ⟨h.size, h.defers, fun t v hv => h.env t v (restr_get hv)⟩

end Go.Lim
