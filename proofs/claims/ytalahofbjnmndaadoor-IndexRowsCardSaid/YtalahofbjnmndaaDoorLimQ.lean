/- The E machine: a region that draws its order, as code; the checker of such regions. -/
import Derived.Test.YtalahofbjnmndaaDoorLimP
set_option linter.unusedVariables false
set_option linter.unusedSimpArgs false
namespace Go.Lim
open Go.RowKit
variable {P : Program} {cx : Cx} {D : List DOper} {st : Nat → Env × Heap} {ops : Array Oper} {N : Nat} {B : Nat → List Nat} {m : Em} {H : Heap} {w : World}

theorem ready_iff {L : Array Bool} (hs : L.size = ops.size) {i : Nat} : i ∈ Region.ready .any ops L ↔ i < ops.size ∧ ¬ inL L i ∧ ∀ o, ops[i]? = some o → ∀ ed ∈ o.after.toList, Region.binds .any ed = true → inL L ed.on := by
  simp only [Region.ready, List.mem_filter, List.mem_range, Bool.and_eq_true, Bool.not_eq_eq_eq_not, Bool.not_true, inL]
  constructor
  · rintro ⟨h1, h2, h3⟩
    refine ⟨h1, ?_, ?_⟩
    · rw [Array.getD_eq_getD_getElem?] at h2 ⊢
      rw [Array.getElem?_eq_getElem (by omega)] at h2 ⊢
      simp at h2 ⊢; exact h2
    · intro o ho ed hed hb
      rw [ho] at h3
      simp only [Option.map_some, Option.getD_some] at h3
      have h4 := Array.all_eq_true_iff_forall_mem.1 h3 ed (by simpa using hed)
      simp only [hb, Bool.not_true, Bool.false_or] at h4
      exact h4
  · rintro ⟨h1, h2, h3⟩
    refine ⟨h1, ?_, ?_⟩
    · rw [Array.getD_eq_getD_getElem?] at h2 ⊢
      rw [Array.getElem?_eq_getElem (by omega)] at h2 ⊢
      simp at h2 ⊢; exact h2
    · rw [Array.getElem?_eq_getElem h1]
      simp only [Option.map_some, Option.getD_some]
      rw [Array.all_eq_true_iff_forall_mem]
      intro ed hed
      cases hb : Region.binds .any ed with
      | false => simp
      | true =>
        have := h3 ops[i] (Array.getElem?_eq_getElem h1) ed (by simpa using hed) hb
        simp [this]

def unl (L : Array Bool) : Nat := L.toList.countP (· == false)

theorem unl_set {L : Array Bool} {i : Nat} (hi : i < L.size) (hn : ¬ inL L i) : unl (L.setIfInBounds i true) + 1 = unl L := by
  have hLi : L[i] = false := by
    simp only [inL, Array.getD_eq_getD_getElem?, Array.getElem?_eq_getElem hi, Option.getD_some] at hn
    simpa using hn
  unfold unl
  rw [Array.toList_setIfInBounds]
  have hl : i < L.toList.length := by simpa using hi
  have e : L.toList = L.toList.take i ++ L.toList[i] :: L.toList.drop (i + 1) := by rw [← List.drop_eq_getElem_cons hl, List.take_append_drop]
  have e2 : L.toList.set i true = L.toList.take i ++ true :: L.toList.drop (i + 1) := by rw [List.set_eq_take_append_cons_drop, if_pos hl]
  rw [e2]
  conv => rhs; rw [e]
  simp only [List.countP_append, List.countP_cons]
  have : L.toList[i] = false := by simpa using hLi
  rw [this]
  simp
  omega

theorem all_listed (hD : DOK P ops N D B) {L : Array Bool} (hs : L.size = ops.size) (h : Region.ready .any ops L = []) : ∀ (n p : Nat), p < n → ∀ d, D[p]? = some d → inL L d.i := by
  intro n
  induction n with
  | zero => intro p hp; omega
  | succ n ih =>
    intro p hp d hd
    rcases Nat.lt_or_ge p n with h1 | h1
    · exact ih p h1 d hd
    · have : p = n := by omega
      subst this
      rcases Classical.em (inL L d.i) with h2 | h2
      · exact h2
      · exfalso
        have : d.i ∈ Region.ready .any ops L := (ready_iff hs).2 ⟨hD.lt p d hd, h2, fun o ho ed hed hb => by
          obtain ⟨p', d', h3, h4, h5⟩ := hD.lin p d o hd ho ed hed hb
          rw [← h5]
          exact ih p' h3 d' h4⟩
        rw [h] at this
        simp at this

theorem dreg_any {m0 : Em} {H0 : Heap} {w0 : World} {hs : List (Nat × Heap)} {rs : List (DOper × Env × AV)} {Q : Exit → Act → World → Prop} (hcx : CxOK P cx) (hln : CxLen cx) (h0 : m0.ents.length ≤ (st 0).2.length)
    (hT : Tr cx D st) (hD : DOK P ops N D B)
    (hread : ∀ (p : Nat) d, D[p]? = some d → d.o.op.reads = true → ∀ v, wantE (st p).1 d.o.guard = some true → pop cx (st p).1 (st p).2 d.o.op = some v → ∀ J, d.lo ≤ J → J ≤ d.hi → (J = D.length ∨ ∃ d', D[J]? = some d' ∧ d'.eff = true) → sameAt cx (st p).1 v d.o.op (st J).2 = true)
    (hQ : ∀ m' w' a', SR m' w' (st D.length).1 N a' → WRel m' (st D.length).2 w' → Le m0 w0 m' w' → Pend m0 H0 m' (st D.length).2 → Q .normal a' w') :
    ∀ (fuel : Nat) (L : Array Bool) (a : Act) (w : World), unl L = fuel → DInv cx D st ops N B m0 H0 w0 L a w → wpAny P .any ops Q fuel L a w := by
  have done : ∀ (L : Array Bool) (a : Act) (w : World), DInv cx D st ops N B m0 H0 w0 L a w → Region.ready .any ops L = [] → Q .normal a w := by
    intro L a w hI hr
    have hall : ∀ (p : Nat) d, D[p]? = some d → inL L d.i := fun p d hd => all_listed hD hI.size hr (p + 1) p (by omega) d hd
    obtain ⟨hsz, hcl, J, m, hJ, hJe, heff, hw, hG, hS, hPI, hLe, hPe⟩ := hI
    have hJk : J = D.length := by
      rcases hJe with h | ⟨d, h1, h2⟩
      · exact h
      · exact absurd ((heff J d h1 h2).2 (hall J d h1)) (Nat.lt_irrefl _)
    subst hJk
    refine hQ m w a ⟨hS.size, hS.defers, fun t x hx => hS.env t x ?_⟩ hw hLe hPe
    rw [get_mix]
    split
    · exact hx
    · rename_i hW
      have := (env_at hT hD t (Nat.le_refl _)).2 (fun p d _ hd hdt => hW (WL_iff.2 ⟨p, d, hd, hdt, hall p d hd⟩))
      rw [← this]; exact hx
  intro fuel
  induction fuel with
  | zero =>
    intro L a w hu hI
    have hr : Region.ready .any ops L = [] := by
      cases hrr : Region.ready .any ops L with
      | nil => rfl
      | cons i r =>
        exfalso
        obtain ⟨h1, h2, _⟩ := (ready_iff hI.size).1 (show i ∈ Region.ready .any ops L by rw [hrr]; simp)
        have := unl_set (by rw [hI.size]; exact h1) h2
        omega
    exact ⟨hr, done L a w hI hr⟩
  | succ fuel ih =>
    intro L a w hu hI
    refine ⟨done L a w hI, fun i hi => ?_⟩
    obtain ⟨h1, h2, h3⟩ := (ready_iff hI.size).1 hi
    obtain ⟨p, d, hd, rfl⟩ := hD.surj i h1
    obtain ⟨o, ho, hco⟩ := hD.op p d hd
    have hr : ∀ x ∈ B d.i, inL L x := by
      intro x hx
      obtain ⟨ed, hed, hb, h4⟩ := hD.bef d.i o ho x hx
      have h5 := h3 o ho ed hed hb
      rcases h4 with h4 | h4
      · rw [← h4]; exact h5
      · exact hI.closed _ h5 x h4
    have hu' : unl (L.setIfInBounds d.i true) = fuel := by have := unl_set (by rw [hI.size]; exact h1) h2; omega
    unfold wpOp
    rw [ho]
    simp only
    have := dstep (Q := Q) (K := wpAny P .any ops Q fuel (L.setIfInBounds d.i true)) hcx hln h0 hT hD hI hd h2 hr (hread p d hd) ho hco (fun a' w' hI' => ih _ a' w' hu' hI')
    split
    · rename_i hw'; rw [if_pos hw'] at this; exact .inl this
    · rename_i hw'; rw [if_neg hw'] at this; exact this

theorem dreg_wp {e e' : Env} {H' : Heap} {s s' : Esc} {a : Act} {id : Nat} {hs : List (Nat × Heap)} {rs : List (DOper × Env × AV)} {Q : Exit → Act → World → Prop} (hcx : CxOK P cx) (hln : CxLen cx) (hD : DOK P ops N D B)
    (hm : P.follows .mixedOrders = true) (h : evdops cx 0 D e H s [] [] = some (e', H', s', hs, rs)) (hr : readsOK cx hs rs = true) (hw : WRel m H w) (hG : GlR m w cx.gl) (hS : SR m w e N a)
    (hQ : ∀ m' w' a', SR m' w' e' N a' → WRel m' H' w' → Le m w m' w' → Pend m H m' H' → Q .normal a' w') : (Code.region id ops true).wp P Q a w := by
  obtain ⟨st, t1, t2, t3, t4, t5, t6, t7, t8⟩ := evdops_trace D 0 e H s [] [] e' H' s' hs rs h
  refine wp_region_any hm ?_
  have hread : ∀ (p : Nat) d, D[p]? = some d → d.o.op.reads = true → ∀ v, wantE (st p).1 d.o.guard = some true → pop cx (st p).1 (st p).2 d.o.op = some v → ∀ J, d.lo ≤ J → J ≤ d.hi → (J = D.length ∨ ∃ d', D[J]? = some d' ∧ d'.eff = true) → sameAt cx (st p).1 v d.o.op (st J).2 = true := by
    intro p d hd hrd v hwv hpv J hlo hhi hJ
    have hmem := t8 p d v hd hrd hwv hpv
    have hin : (J, (st J).2) ∈ hs := by
      rcases hJ with rfl | ⟨d', h1, h2⟩
      · rw [t3]; simpa using t5
      · simpa using t6 J d' h1 h2
    have hgen : ∀ (rs : List (DOper × Env × AV)), readsOK cx hs rs = true → (d, (st p).1, v) ∈ rs → sameAt cx (st p).1 v d.o.op (st J).2 = true := by
      intro rs
      induction rs with
      | nil => intro _ h; simp at h
      | cons x rs ih =>
        obtain ⟨d1, e1, v1⟩ := x
        intro h1 h2
        simp only [readsOK, Bool.and_eq_true] at h1
        simp only [List.mem_cons, Prod.mk.injEq] at h2
        rcases h2 with ⟨rfl, rfl, rfl⟩ | h2
        · have := List.all_eq_true.1 h1.1 _ hin
          simp only [hlo, hhi, and_self, if_true] at this
          exact this
        · exact ih h1.2 h2
    exact hgen rs hr hmem
  obtain ⟨J, g1, g2, g3, g4⟩ := next_eff D D.length 0 (by omega)
  have hst0 : (st 0).2 = H := by rw [t1]
  obtain ⟨hw1, hx1⟩ := hw.heap (w' := { w with drawn := w.drawn + 1 }) rfl
  have hlow : Le m w m { w with drawn := w.drawn + 1 } := ⟨hx1, ⟨rfl, rfl, rfl, Nat.le_refl _, fun _ _ => rfl⟩⟩
  obtain ⟨m', q1, q2, q3, q4, q5, q6, q7⟩ := pends_to (w := { w with drawn := w.drawn + 1 }) t2 hD J 0 m (by omega) (fun q d h1 h2 hq => g4 q d h1 (by omega) hq) (by rw [hst0]; exact hw1)
  rw [Nat.zero_add] at q1 q5 q6 q7
  have hun : unl (Array.replicate ops.size false) = ops.size := by simp [unl, List.countP_replicate]
  have hnone : ∀ i, ¬ inL (Array.replicate ops.size false) i := by
    intro i h
    simp only [inL, Array.getD_eq_getD_getElem?] at h
    rw [Array.getElem?_replicate] at h
    split at h <;> simp at h
  refine dreg_any (m0 := m) (H0 := H) (w0 := w) (hs := hs) (rs := rs) hcx hln (by rw [hst0, hw.len]; exact Nat.le_refl _) t2 hD hread ?_ ops.size _ a _ hun ?_
  · rw [t3]; exact hQ
  · refine ⟨by simp, fun i h => absurd h (hnone i), J, m', g2, g3, ?_, q1, (hG.ext hx1).ext q2, ?_, ?_, hlow.trans ⟨q2, .refl _ _⟩, ?_⟩
    · intro p d hd he
      constructor
      · intro h1; have := g4 p d (Nat.zero_le _) h1 hd; rw [he] at this; simp at this
      · intro h1; exact absurd h1 (hnone _)
    · refine ⟨hS.size, hS.defers, fun t x hx => ?_⟩
      rw [get_mix] at hx
      have hW : WL D (Array.replicate ops.size false) t = false := by
        rw [Bool.eq_false_iff]
        intro hW
        obtain ⟨q, d', _, _, h5⟩ := WL_iff.1 hW
        exact hnone _ h5
      rw [hW, t1] at hx
      simp at hx
      exact ((hS.env t x hx).ext hx1).ext q2
    · intro p d obj h1 h2 h3 h4 _
      exact q7 p obj (Nat.zero_le _) h1 h4
    · refine ⟨by rw [← hst0]; exact q6, fun id hp => ?_⟩
      have hl : id < m.ents.length := (List.getElem?_eq_some_iff.1 hp).1
      exact ⟨by rw [q5 id (by rw [hst0, ← hw.len]; exact hl), hst0], by rw [q4 id hl]; exact hp⟩

end Go.Lim
