/- The E machine: calls are sound. -/
import Derived.Test.YtalahofbjnmndaaDoorLimT
set_option linter.unusedVariables false
set_option linter.unusedSimpArgs false
namespace Go.Lim
open Go.RowKit
variable {P : Program} {m : Em} {H : Heap} {w : World} {cx : Cx} {e : Env}

def chkRes (P : Program) : List ResultVar → List ERes → Bool
  | [], [] => true
  | .tmp t :: r, .tmp u :: s => decide (t = u) && chkRes P r s
  | .cell a t :: r, .cell b n ag :: s => decide (a = b) && sizeIs P t n && aggIs P t ag && chkRes P r s
  | _, _ => false

/-- Is the resolved function the program's? -/
def chkFn (P : Program) (fn : Func) (fe : FE) : Bool :=
  (match fn.body with | some c => chkC P fn.ntmps c fe.code | none => false) && chkRes P fn.results.toList fe.res && decide (fe.np ≤ fn.ntmps) && (fn.name != "runtime.NumGoroutine")

def resV (tmps : Array Value) : ResultVar → Sem Value
  | .tmp t => pure (tmps.getD t undef)
  | .cell a t => do loadVar t (← asAddr (tmps.getD a undef))

theorem res_sound (hw : WRel m H w) {tmps : Array Value} (hE : EnvR m w e tmps) : ∀ (rs : List ResultVar) (xs : List ERes) (vs : List AV), chkRes P rs xs = true → evres e H xs = some vs →
    ∃ us : List Value, (rs.mapM (resV tmps)).run P w = .ok us w ∧ VRL m w vs us
  | [], xs, vs, hc, h => by
    cases xs <;> simp [chkRes] at hc
    simp [evres] at h; subst h
    exact ⟨[], by simp, VRL.nil m w⟩
  | .tmp t :: r, xs, vs, hc, h => by
    cases xs with
    | nil => simp [chkRes] at hc
    | cons x s =>
      cases x <;> simp [chkRes] at hc
      obtain ⟨rfl, hc⟩ := hc
      simp only [evres, Option.bind_eq_some_iff] at h
      obtain ⟨v, h1, vs', h2, h3⟩ := h
      simp at h3; subst h3
      obtain ⟨us, h4, h5⟩ := res_sound hw hE r s vs' hc h2
      exact ⟨tmps.getD t undef :: us, by simp only [List.mapM_cons, resV, Sem.run_bind, Sem.run_pure, Result.andThen_ok, h4], h5.cons (hE t v h1)⟩
  | .cell a t :: r, xs, vs, hc, h => by
    cases xs with
    | nil => simp [chkRes] at hc
    | cons x s =>
      cases x <;> simp [chkRes] at hc
      rename_i b n ag
      obtain ⟨⟨⟨rfl, hs⟩, hag⟩, hc⟩ := hc
      simp only [evres, Option.bind_eq_some_iff] at h
      obtain ⟨p, h1, h2⟩ := h
      have hp := hE a p h1
      cases p <;> try (simp at h2; done)
      rename_i id off
      simp only [Option.bind_eq_some_iff] at h2
      obtain ⟨v, h3, vs', h4, h5⟩ := h2
      simp at h5; subst h5
      obtain ⟨us, h6, h7⟩ := res_sound hw hE r s vs' hc h4
      have hl : loadE H ag n (.ptr id off) = some v := by
        simp only [loadE]
        split at h3 <;> simp_all
      generalize hr : tmps.getD a undef = ra at hp
      cases hp with
      | ptr _ _ blk he =>
        obtain ⟨u, m', w', g1, g2, g3, g4, g5⟩ := loadE_sound (P := P) (r := .pointer (some ⟨blk, off, none⟩)) hw hs (aggIs_some hag) (.ptr id off blk he) hl
        -- a load turns nothing
        have hsame : ∃ u, (loadVar t ⟨blk, off, none⟩).run P w = .ok u w ∧ VR m w v u := by
          split at h3 <;> try (simp at h3; done)
          rename_i cs hH
          simp only [Option.bind_eq_some_iff] at h3
          obtain ⟨ws, q1, q2⟩ := h3
          obtain ⟨q3, q4, q5⟩ := rdc_some q1
          obtain ⟨_, ⟨c, E, hcc, hv⟩, _⟩ := hw.box hH he
          have hrr := (hv.drop off).take n
          rw [← q4] at hrr
          exact run_loadVar_of (P := P) (b := blk) (o := off) hs (aggIs_some hag) hrr q5 (fun j u hu => by
            rw [cell_of_block hcc]
            rw [List.getElem?_take] at hu
            split at hu
            · rw [List.getElem?_drop] at hu; simpa using hu
            · simp at hu) q2
        obtain ⟨u, g6, g7⟩ := hsame
        exact ⟨u :: us, by simp only [List.mapM_cons, resV, Sem.run_bind, hr, asAddr, Sem.run_pure, Result.andThen_ok, g6, h6], h7.cons g7⟩

theorem tupOf_VR {vs : List AV} {us : List Value} (h : VRL m w vs us) : VR m w (tupOf vs) (if h : us.toArray.size = 1 then us.toArray[0] else .tuple us.toArray) := by
  match vs, us, h with
  | [], [], h => simpa [tupOf] using VR.tup [] [] rfl h.2
  | [v], [u], h => simpa [tupOf] using h.2 0 v u rfl rfl
  | v :: v' :: r, u :: u' :: s, h => simpa [tupOf] using VR.tup _ _ h.1 h.2
  | [], _ :: _, h => have := h.1; simp at this
  | _ :: _, [], h => have := h.1; simp at this
  | [_], _ :: _ :: _, h => have := h.1; simp at this
  | _ :: _ :: _, [_], h => have := h.1; simp at this

theorem initEnv_get : ∀ (args : List AV) (i t : Nat) v, Env.get (initEnv i args) t = some v → i ≤ t ∧ args[t - i]? = some v
  | [], i, t, v, h => by simp [initEnv, Env.get] at h
  | a :: r, i, t, v, h => by
    simp only [initEnv, Env.get] at h
    split at h
    · rename_i hit; subst hit; simp at h; subst h; simp
    · rename_i hit
      obtain ⟨h1, h2⟩ := initEnv_get r (i + 1) t v h
      refine ⟨by omega, ?_⟩
      rw [show t - i = (t - (i + 1)) + 1 by omega]
      simpa using h2

/-- A function's entry in the table is right. -/
def FunOK (P : Program) (gl : Nat → Option (List AV)) (f : FuncId) : Fun → Prop
  | .code fe => ∃ fn, P.funcs[f]? = some fn ∧ chkFn P fn fe = true
  | .prim p => ∀ vs H v H' s, p vs H = some (v, H', s) → Sim P gl f vs H v H' ∧ EscP H H' s

theorem runF_ok (hcx : CxOK P cx) (hesc : CxEsc cx) (hm : P.follows .mixedOrders = true) {n : Nat} {f : FuncId} {fn : Func} {fe : FE} (hf : P.funcs[f]? = some fn) (hc : chkFn P fn fe = true) {vs : List AV} {v : AV} {H' : Heap} {s : Esc}
    (h : runF cx n fe vs H = some (v, H', s)) : Sim P cx.gl f vs H v H' ∧ EscP H H' s := by
  simp only [chkFn, Bool.and_eq_true, decide_eq_true_eq, bne_iff_ne, ne_eq] at hc
  obtain ⟨⟨⟨hc1, hc2⟩, hc3⟩, hc4⟩ := hc
  split at hc1 <;> try (simp at hc1; done)
  rename_i c hb
  unfold runF at h
  split at h <;> try (simp at h; done)
  rename_i hnp
  simp only [Option.bind_eq_some_iff] at h
  obtain ⟨⟨x, e1, H1, s1⟩, h1, h2⟩ := h
  have hx : x ≠ .exit 0 ∧ ∃ us, evres e1 H1 fe.res = some us ∧ (if fe.raw then (tupOf us, H1, s1) else fin H.length (tupOf us) H1 s1) = (v, H', s) ∧ (x = .normal ∨ x = .ret) := by
    cases x with
    | exit i => simp at h2
    | goto i => simp at h2
    | normal => simp only [Option.bind_eq_some_iff] at h2; obtain ⟨us, g1, g2⟩ := h2; simp at g2; exact ⟨by simp, us, g1, g2, .inl rfl⟩
    | ret => simp only [Option.bind_eq_some_iff] at h2; obtain ⟨us, g1, g2⟩ := h2; simp at g2; exact ⟨by simp, us, g1, g2, .inr rfl⟩
  obtain ⟨_, us, hres, hfin, hxx⟩ := hx
  obtain ⟨t, ht1, ht2⟩ := evc_esc hesc n fe.code _ H none x e1 H1 s1 h1
  rw [none_mrg] at ht1
  subst ht1
  constructor
  · intro m w rs hw hG hl
    have hlen : rs.length = fe.np := by rw [← hl.1]; exact hnp
    have hsz : (rs.toArray ++ Array.replicate (fn.ntmps - rs.toArray.size) undef).size = fn.ntmps := by simp; omega
    have hS : SR m w (initEnv 0 vs) fn.ntmps { tmps := rs.toArray ++ Array.replicate (fn.ntmps - rs.toArray.size) undef, defers := [] } := by
      refine ⟨hsz, rfl, fun u x hx => ?_⟩
      obtain ⟨_, h4⟩ := initEnv_get vs 0 u x hx
      rw [Nat.sub_zero] at h4
      have hu : u < rs.length := by rw [← hl.1]; exact (List.getElem?_eq_some_iff.1 h4).1
      simp only [Array.getD_eq_getD_getElem?]
      rw [Array.getElem?_append_left (by simpa using hu)]
      simp only [List.getElem?_toArray, List.getElem?_eq_getElem hu, Option.getD_some]
      exact hl.2 u x _ h4 (List.getElem?_eq_getElem hu)
    refine .inl ⟨?_, ?_⟩
    · simp only [callFunc, Sem.run_bind, run_program, Result.andThen_ok, hf]
      have : (fn.name == "runtime.NumGoroutine") = false := by simpa using hc4
      simp [this, hb]
    · refine calls_of_wp hf hb (wp_mono (code_sound hcx hesc.len hm n fe.code c _ H none x e1 H1 s1 hc1 h1 m w _ hw hG hS) ?_)
      rintro X A W ⟨rfl, m', g1, g2, g3, g4⟩
      obtain ⟨ws, k1, k2⟩ := res_sound (P := P) g2 g1.env fn.results.toList fe.res us hc2 hres
      have hrun : (results fn A.tmps).run P W = .ok (if h : ws.toArray.size = 1 then ws.toArray[0] else .tuple ws.toArray) W := by
        have e1 : results fn A.tmps = (do let vs ← fn.results.mapM (resV A.tmps); pure (if h : vs.size = 1 then vs[0] else .tuple vs)) := rfl
        rw [e1, Array.mapM_eq_mapM_toList]
        simp [k1]
      have hout : Outc m H w v H' (if h : ws.toArray.size = 1 then ws.toArray[0] else Value.tuple ws.toArray) W := by
        cases hraw : fe.raw
        · rw [hraw] at hfin
          exact (fin_sound hw g2 (tupOf_VR k2) g3 g4 ht2 (by simpa using hfin)).1
        · rw [hraw] at hfin
          simp at hfin
          obtain ⟨rfl, rfl, rfl⟩ := hfin
          exact ⟨m', tupOf_VR k2, g3, g2, g4⟩
      rcases hxx with rfl | rfl
      · exact ⟨g1.defers, _, hrun, _, rfl, hout⟩
      · exact ⟨g1.defers, _, hrun, _, rfl, hout⟩
  · -- who refers to whom
    split at hfin
    · simp only [Prod.mk.injEq] at hfin
      obtain ⟨rfl, rfl, rfl⟩ := hfin
      exact ht2
    unfold fin at hfin
    split at hfin
    · rename_i hcond
      simp only [Prod.mk.injEq] at hfin
      obtain ⟨rfl, rfl, rfl⟩ := hfin
      simp only [Bool.and_eq_true] at hcond
      refine ⟨by simp [ht2.1], fun id hid => ?_⟩
      rw [List.getElem?_take, if_pos hid]
      rcases ht2.2 id hid with g1 | ⟨i, g1, g2⟩ | g1
      · exact .inl g1
      · have := hcond.2; rw [g1] at this; simp [Esc.ge] at this; omega
      · exact .inr (.inr g1)
    · simp only [Prod.mk.injEq] at hfin
      obtain ⟨rfl, rfl, rfl⟩ := hfin
      exact ht2

theorem callN_ok {T : FuncId → Option Fun} {gl : Nat → Option (List AV)} (hm : P.follows .mixedOrders = true) (hT : ∀ f F, T f = some F → FunOK P gl f F) : ∀ n, CxOK P ⟨callN T gl n, gl⟩ ∧ CxEsc ⟨callN T gl n, gl⟩
  | 0 => ⟨fun k vs H v H' s h => by simp [callN] at h, fun k vs H v H' s h => by simp [callN] at h⟩
  | n + 1 => by
    obtain ⟨h1, h2⟩ := callN_ok hm hT n
    have key : ∀ k vs H v H' s, callN T gl (n + 1) k vs H = some (v, H', s) → Sim P gl k vs H v H' ∧ EscP H H' s := by
      intro k vs H v H' s h
      simp only [callN] at h
      split at h <;> try (simp at h; done)
      · rename_i p hp; exact hT k _ hp vs H v H' s h
      · rename_i fe hfe
        obtain ⟨fn, hf, hc⟩ := hT k _ hfe
        exact runF_ok (cx := ⟨callN T gl n, gl⟩) h1 h2 hm hf hc h
    exact ⟨fun k vs H v H' s h => (key k vs H v H' s h).1, fun k vs H v H' s h => (key k vs H v H' s h).2⟩

end Go.Lim
