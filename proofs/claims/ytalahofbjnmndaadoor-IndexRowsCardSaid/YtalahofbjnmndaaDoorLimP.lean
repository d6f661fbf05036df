/- The E machine: regions that draw their order, part 3: the whole. -/
import Derived.Test.YtalahofbjnmndaaDoorLimO
set_option linter.unusedVariables false
set_option linter.unusedSimpArgs false
namespace Go.Lim
open Go.RowKit
variable {P : Program} {cx : Cx} {D : List DOper} {st : Nat → Env × Heap} {ops : Array Oper} {N : Nat} {B : Nat → List Nat} {m0 : Em} {H0 : Heap} {w0 : World}

def PendInv (D : List DOper) (st : Nat → Env × Heap) (L : Array Bool) (m : Em) (J : Nat) : Prop :=
  ∀ (p : Nat) d obj, p < J → D[p]? = some d → d.eff = false → (st (p + 1)).2 = (st p).2 ++ [obj] → ¬ inL L d.i → m.ents[(st p).2.length]? = some .pend ∧ (st J).2[(st p).2.length]? = some obj

structure DInv (cx : Cx) (D : List DOper) (st : Nat → Env × Heap) (ops : Array Oper) (N : Nat) (B : Nat → List Nat) (m0 : Em) (H0 : Heap) (w0 : World) (L : Array Bool) (a : Act) (w : World) : Prop where
  size : L.size = ops.size
  closed : ∀ i, inL L i → ∀ x ∈ B i, inL L x
  ex : ∃ J m, J ≤ D.length ∧ (J = D.length ∨ ∃ d, D[J]? = some d ∧ d.eff = true) ∧ (∀ (p : Nat) d, D[p]? = some d → d.eff = true → (p < J ↔ inL L d.i)) ∧
     WRel m (st J).2 w ∧ GlR m w cx.gl ∧ SR m w (mixE (st D.length).1 (st 0).1 (WL D L)) N a ∧ PendInv D st L m J ∧ Le m0 w0 m w ∧ Pend m0 H0 m (st J).2

theorem inL_set {L : Array Bool} {i j : Nat} (hi : i < L.size) : inL (L.setIfInBounds i true) j ↔ i = j ∨ inL L j := by
  simp only [inL, getD_set L i j hi]
  split <;> simp_all

theorem SR.mix (hT : Tr cx D st) (hD : DOK P ops N D B) {L : Array Bool} {m : Em} {w : World} {p : Nat} {d : DOper} {a : Act} {v : AV} (hd : D[p]? = some d) (hs : d.i < L.size) (hv : (st (p + 1)).1 = Lim.put (st p).1 d.o.dst v)
    (h : SR m w (Lim.put (mixE (st D.length).1 (st 0).1 (WL D L)) d.o.dst v) N a) : SR m w (mixE (st D.length).1 (st 0).1 (WL D (L.setIfInBounds d.i true))) N a :=
  ⟨h.size, h.defers, fun t x hx => h.env t x (by rw [← mix_next hT hD hd hs hv t]; exact hx)⟩

theorem PendInv.mono {L L' : Array Bool} {m m' : Em} {J : Nat} (h : PendInv D st L m J) (hL : ∀ j, inL L j → inL L' j) (he : m'.ents = m.ents) : PendInv D st L' m' J :=
  fun p d obj h1 h2 h3 h4 h5 => by rw [he]; exact h p d obj h1 h2 h3 h4 (fun hh => h5 (hL _ hh))

set_option maxHeartbeats 1000000 in
/-- One operation that the edges allow. -/
theorem dstep (hcx : CxOK P cx) (hln : CxLen cx) (h0 : m0.ents.length ≤ (st 0).2.length) (hT : Tr cx D st) (hD : DOK P ops N D B) {L : Array Bool} {a : Act} {w : World} (hI : DInv cx D st ops N B m0 H0 w0 L a w) {p : Nat} {d : DOper} (hd : D[p]? = some d)
    (hn : ¬ inL L d.i) (hr : ∀ x ∈ B d.i, inL L x)
    (hread : d.o.op.reads = true → ∀ v, wantE (st p).1 d.o.guard = some true → pop cx (st p).1 (st p).2 d.o.op = some v → ∀ J, d.lo ≤ J → J ≤ d.hi → (J = D.length ∨ ∃ d', D[J]? = some d' ∧ d'.eff = true) → sameAt cx (st p).1 v d.o.op (st J).2 = true)
    {o : Oper} (ho : ops[d.i]? = some o) (hco : chkOper P ops N o d.o = true) {K : Act → World → Prop} {Q : Exit → Act → World → Prop}
    (hK : ∀ a' w', DInv cx D st ops N B m0 H0 w0 (L.setIfInBounds d.i true) a' w' → K a' w') :
    if Region.wanted o (yielded ops a.tmps) then o.wp P a w K Q else K (a.put o.dst undef) w := by
  obtain ⟨hsz, hcl, J, m, hJ, hJe, heff, hw, hG, hS, hPI, hLe, hPe⟩ := hI
  have hid : d.i < L.size := by rw [hsz]; exact hD.lt p d hd
  have hpl : p < D.length := (List.getElem?_eq_some_iff.1 hd).1
  have huse := uses_at hT hD hcl hd hn hr
  obtain ⟨s, hev⟩ := hT p d hd
  obtain ⟨vch, hvch⟩ := evop_put hev
  have hclosed' : ∀ i, inL (L.setIfInBounds d.i true) i → ∀ x ∈ B i, inL (L.setIfInBounds d.i true) x := by
    intro i hi x hx
    rw [inL_set hid] at hi ⊢
    rcases hi with rfl | hi
    · exact .inr (hr x hx)
    · exact .inr (hcl i hi x hx)
  have hsize' : (L.setIfInBounds d.i true).size = ops.size := by simp [hsz]
  -- what is left alone by an operation without an effect
  have noneff : d.eff = false → ∀ {m' : Em} {w' : World} {a' : Act} {v : AV}, (st (p + 1)).1 = put (st p).1 d.o.dst v → WRel m' (st J).2 w' → GlR m' w' cx.gl → SR m' w' (put (mixE (st D.length).1 (st 0).1 (WL D L)) d.o.dst v) N a' →
      PendInv D st (L.setIfInBounds d.i true) m' J → Le m0 w0 m' w' → Pend m0 H0 m' (st J).2 → K a' w' := by
    intro hne m' w' a' v hv g1 g2 g3 g4 g5 g6
    refine hK a' w' ⟨hsize', hclosed', J, m', hJ, hJe, ?_, g1, g2, SR.mix hT hD hd hid hv g3, g4, g5, g6⟩
    intro q d' hq he'
    rw [inL_set hid, heff q d' hq he']
    constructor
    · exact .inr
    · rintro (h | h)
      · have := hD.inj p q d d' hd hq h; subst this
        rw [hd] at hq; simp at hq; subst hq
        rw [hne] at he'; simp at he'
      · exact h
  simp only [evop, Option.bind_eq_some_iff] at hev
  obtain ⟨b, hb, hev⟩ := hev
  have hb' : wantE (mixE (st D.length).1 (st 0).1 (WL D L)) d.o.guard = some b := by rw [uses_want huse]; exact hb
  cases heffd : d.eff with
  | true =>
    -- an operation with an effect: it is the next one
    have hJp : J = p := by
      have h1 : ¬ p < J := fun h => hn ((heff p d hd heffd).1 h)
      rcases hJe with h2 | ⟨d', h2, h3⟩
      · omega
      · rcases Nat.lt_or_ge J p with h4 | h4
        · exact absurd ((heff J d' h2 h3).2 (hr _ (hD.tot J p d' d h2 hd h4 h3 heffd))) (Nat.lt_irrefl _)
        · omega
    subst hJp
    have hev' : evop cx d.o (mixE (st D.length).1 (st 0).1 (WL D L)) (st J).2 = some (put (mixE (st D.length).1 (st 0).1 (WL D L)) d.o.dst vch, (st (J + 1)).2, s) := by
      simp only [evop, hb', Option.bind_some]
      cases b
      · simp at hev ⊢
        obtain ⟨q1, q2, q3⟩ := hev
        refine ⟨?_, q2, q3⟩
        rw [← q1] at hvch
        cases hdst : d.o.dst with
        | none => rfl
        | some t => rw [hdst] at hvch; simp [put] at hvch; rw [hvch]
      · simp only [if_true] at hev ⊢
        split at hev
        · rename_i hh
          rw [if_pos hh]
          simp only [Option.bind_eq_some_iff] at hev ⊢
          obtain ⟨⟨v, H1, s1⟩, q1, q2⟩ := hev
          simp at q2
          obtain ⟨q2, q3, q4⟩ := q2
          refine ⟨(v, H1, s1), by rw [hop_congr (uses_ev huse)]; exact q1, ?_⟩
          simp only [Option.some.injEq, Prod.mk.injEq]
          refine ⟨?_, q3, q4⟩
          rw [← q2] at hvch
          cases hdst : d.o.dst with
          | none => rfl
          | some t => rw [hdst] at hvch; simp [put] at hvch; rw [hvch]
        · rename_i hh
          exact absurd heffd (by rw [(hD.eff J d hd).2 (by simpa using hh)]; simp)
    refine evop_wp hcx hco hw hG hS hev' (fun m' w' a' g1 g2 g3 g4 => ?_)
    obtain ⟨J', h1, h2, h3, h4⟩ := next_eff D (D.length - (J + 1)) (J + 1) (by omega)
    obtain ⟨m'', q1, q2, q3, q4, q5, q6, q7⟩ := pends_to hT hD (J' - (J + 1)) (J + 1) m' (by omega) (fun q d' h5 h6 hq => h4 q d' h5 (by omega) hq) g2
    rw [show J + 1 + (J' - (J + 1)) = J' by omega] at q1 q5 q6 q7
    have hLe' : Le m' w' m'' w' := ⟨q2, .refl _ _⟩
    refine hK a' w' ⟨hsize', hclosed', J', m'', h2, h3, ?_, q1, (hG.ext g3.ext).ext q2, SR.mix hT hD hd hid hvch (g1.ext q2), ?_, (hLe.trans g3).trans hLe', ?_⟩
    · intro q d' hq he'
      rw [inL_set hid]
      constructor
      · intro hlt
        rcases Nat.lt_trichotomy q J with h5 | h5 | h5
        · exact .inr ((heff q d' hq he').1 h5)
        · subst h5; rw [hd] at hq; simp at hq; subst hq; exact .inl rfl
        · exact absurd (h4 q d' (by omega) hlt hq) (by rw [he']; simp)
      · rintro (h5 | h5)
        · have := hD.inj J q d d' hd hq h5; omega
        · have := (heff q d' hq he').2 h5; omega
    · intro q d' obj r1 r2 r3 r4 r5
      rw [inL_set hid] at r5
      have hnl : ¬ inL L d'.i := fun h => r5 (.inr h)
      rcases Nat.lt_or_ge q J with h5 | h5
      · obtain ⟨u1, u2⟩ := hPI q d' obj h5 r2 r3 r4 hnl
        obtain ⟨u3, u4⟩ := g4.2 _ u1
        have hl1 : (st q).2.length < (st (J + 1)).2.length := by
          have := (List.getElem?_eq_some_iff.1 u2).1
          have := g4.1; omega
        have hl2 : (st q).2.length < m'.ents.length := (List.getElem?_eq_some_iff.1 u4).1
        exact ⟨by rw [q4 _ hl2]; exact u4, by rw [q5 _ hl1, u3]; exact u2⟩
      · have : q ≠ J := by intro h; subst h; rw [hd] at r2; simp at r2; subst r2; rw [heffd] at r3; simp at r3
        exact q7 q obj (by omega) r1 r4
    · refine (hPe.trans g4).trans ⟨by omega, fun id hp => ?_⟩
      have hlt : id < m'.ents.length := (List.getElem?_eq_some_iff.1 hp).1
      exact ⟨q5 id (by rw [← g2.len]; exact hlt), by rw [q4 id hlt]; exact hp⟩
  | false =>
    cases b with
    | false =>
      -- passed over
      simp at hev
      obtain ⟨q1, q2, q3⟩ := hev
      simp only [chkOper, Bool.and_eq_true] at hco
      rw [wanted_sound hS hco.1.2 hb']
      obtain ⟨hdd, hdN⟩ := chkDst_some hco.1.1
      simp only [Bool.false_eq_true, if_false]
      refine noneff heffd q1.symm hw hG ?_ (hPI.mono (fun j hj => (inL_set hid).2 (.inr hj)) rfl) hLe hPe
      rw [← hdd]
      exact hS.put (undf_VR m w) hdN
    | true =>
      simp only [if_true] at hev
      split at hev
      · -- a new object
        rename_i hh
        simp only [Option.bind_eq_some_iff] at hev
        obtain ⟨⟨v, H1, s1⟩, q1, q2⟩ := hev
        simp at q2
        obtain ⟨q2, q3, q4⟩ := q2
        have hal : d.o.op.isAl = true := by
          rcases (hD.eff p d hd).1 hh with h3 | h3
          · rw [heffd] at h3; simp at h3
          · exact h3
        have hpJ : p < J := by
          rcases hJe with h2 | ⟨d', h2, h3⟩
          · omega
          · rcases Nat.lt_or_ge p J with h4 | h4
            · exact h4
            · have hne : J ≠ p := by intro h; subst h; rw [hd] at h2; simp at h2; subst h2; rw [heffd] at h3; simp at h3
              exact absurd ((heff J d' h2 h3).2 (hr _ (hD.al J p d' d h2 hd (by omega) h3 hh))) (Nat.lt_irrefl _)
        simp only [chkOper, Bool.and_eq_true] at hco
        obtain ⟨hdd, hdN⟩ := chkDst_some hco.1.1
        rw [wanted_sound hS hco.1.2 hb']
        simp only [if_true]
        have hX : XR cx m w (mixE (st D.length).1 (st 0).1 (WL D L)) a.eval := XR.of hS.env hG
        obtain ⟨r, w', ob, obj, e1, e2, e3, e4, e5, e6, e7, e8, e9, e10⟩ := al_run (ρ := a.eval) (Hh := (st p).2) (H' := H1) (v := v) (s := s1) hw hX hco.2 hal (by rw [hop_congr (uses_ev huse)]; exact q1)
        have hst1 : (st (p + 1)).2 = (st p).2 ++ [obj] := by rw [← q3, e1]
        obtain ⟨u1, u2⟩ := hPI p d obj hpJ hd heffd hst1 hn
        have hmc := move_core (n := 0) (o := obj) (o' := obj) (e := .pend) (e' := .obj w.heap.size) hw u2 u1 e5 e6 e7 e8 trivial rfl (fun j hj => by omega)
          (fun hx => e9 _ hx (fun off hs => by
            rcases hs with hs | ⟨_, _, h⟩
            · have := hw.st_lt hs; omega
            · omega))
        have hset : (st J).2.set (st p).2.length obj = (st J).2 := by
          apply List.ext_getElem?
          intro i
          rw [List.getElem?_set]
          split
          · rename_i hi; subst hi; rw [u2]; simp; exact (List.getElem?_eq_some_iff.1 u2).1
          · rfl
        rw [hset] at hmc
        have hent : (m.upd (st p).2.length (.obj w.heap.size) w.heap.size 0 0).ents[(st p).2.length]? = some (.obj w.heap.size) := by
          simp only [Em.upd]
          rw [List.getElem?_set]
          simp
          exact (List.getElem?_eq_some_iff.1 u1).1
        unfold Oper.wp
        rw [e4, Oper.upon_value]
        refine noneff heffd q2.symm hmc.2 (hG.ext hmc.1.ext) ?_ ?_ (hLe.trans hmc.1) ?_
        · rw [← hdd]; exact (hS.ext hmc.1.ext).put (e10 _ hent) hdN
        · intro q d' obj' r1 r2 r3 r4 r5
          rw [inL_set hid] at r5
          obtain ⟨z1, z2⟩ := hPI q d' obj' r1 r2 r3 r4 (fun h => r5 (.inr h))
          have hne : (st q).2.length ≠ (st p).2.length := by
            intro hq
            have hqp : q ≠ p := fun h => by subst h; rw [hd] at r2; simp at r2; subst r2; exact r5 (.inl rfl)
            have hql : q < D.length := (List.getElem?_eq_some_iff.1 r2).1
            rcases Nat.lt_or_ge q p with h4 | h4
            · have h5 := st_len hln hT (p - (q + 1)) (q + 1) (by omega)
              rw [show q + 1 + (p - (q + 1)) = p by omega, r4] at h5
              simp at h5; omega
            · have h5 := st_len hln hT (q - (p + 1)) (p + 1) (by omega)
              rw [show p + 1 + (q - (p + 1)) = q by omega, hst1] at h5
              simp at h5; omega
          exact ⟨by simp only [Em.upd]; rw [List.getElem?_set, if_neg (Ne.symm hne)]; exact z1, z2⟩
        · refine ⟨hPe.1, fun id hp => ?_⟩
          obtain ⟨z1, z2⟩ := hPe.2 id hp
          refine ⟨z1, ?_⟩
          have hne : id ≠ (st p).2.length := by
            have h4 : id < m0.ents.length := (List.getElem?_eq_some_iff.1 hp).1
            have h5 := st_len hln hT p 0 (by omega)
            rw [Nat.zero_add] at h5
            omega
          simp only [Em.upd]
          rw [List.getElem?_set, if_neg (Ne.symm hne)]; exact z2
      · -- it only looks
        rename_i hh
        simp only [Option.bind_eq_some_iff] at hev
        obtain ⟨v, q1, q2⟩ := hev
        simp at q2
        obtain ⟨q2, q3, q4⟩ := q2
        have hpv : pop cx (mixE (st D.length).1 (st 0).1 (WL D L)) (st J).2 d.o.op = some v := by
          rw [pop_congr (uses_ev huse)]
          cases hrd : d.o.op.reads with
          | false => rw [pop_heap (H' := (st p).2) hrd]; exact q1
          | true =>
            obtain ⟨c0, c1, c2⟩ := hD.rd p d hd hrd
            have hlo : d.lo ≤ J := by
              rcases Nat.lt_or_ge J d.lo with h4 | h4
              · rcases hJe with h2 | ⟨d', h2, h3⟩
                · omega
                · exact absurd ((heff J d' h2 h3).2 (hr _ (c1 J d' h4 h2 h3))) (Nat.lt_irrefl _)
              · exact h4
            have hhi : J ≤ d.hi := by
              rcases c2 with h4 | ⟨d', h4, h5, h6⟩
              · omega
              · rcases Nat.lt_or_ge d.hi J with h7 | h7
                · exact absurd (hcl _ ((heff d.hi d' h4 h5).1 h7) _ h6) hn
                · exact h7
            have := hread hrd v hb q1 J hlo hhi hJe
            simp only [sameAt] at this
            split at this <;> try (simp at this; done)
            rename_i u hu
            rw [hu, beq_eq _ _ this]
        have hev' : evop cx d.o (mixE (st D.length).1 (st 0).1 (WL D L)) (st J).2 = some (put (mixE (st D.length).1 (st 0).1 (WL D L)) d.o.dst v, (st J).2, none) := by
          simp only [evop, hb', Option.bind_some, if_true]
          rw [if_neg hh, hpv]; rfl
        refine evop_wp hcx hco hw hG hS hev' (fun m' w' a' g1 g2 g3 g4 => ?_)
        refine noneff heffd q2.symm g2 (hG.ext g3.ext) g1 ?_ (hLe.trans g3) (hPe.trans g4)
        intro q d' obj r1 r2 r3 r4 r5
        rw [inL_set hid] at r5
        obtain ⟨z1, z2⟩ := hPI q d' obj r1 r2 r3 r4 (fun h => r5 (.inr h))
        exact ⟨(g4.2 _ z1).2, z2⟩

end Go.Lim
