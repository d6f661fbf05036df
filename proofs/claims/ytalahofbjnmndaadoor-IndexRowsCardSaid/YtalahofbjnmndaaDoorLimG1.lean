/- The E machine: from the machine's word on a law to its row. -/
import Derived.Test.YtalahofbjnmndaaDoorLimPa
import Derived.ProofKit
import Derived.Carry
set_option linter.unusedVariables false
namespace Go.Lim
open Go.RowKit Go.ChangeShapes
variable {P : Program} {gl : Nat → Option (List AV)} {H : Type} {enc : TypeId × Value → H}

theorem below_trodAll (hl : laidOutB P = true) {W W' : World} (hb : Below W.heap.size W W') :
    ∀ {ts : List TypeId} {vs : List Value} {ds : List (DataW H)} {ps : List MemPlace}, (∀ t ∈ ts, P.readableRec t = true ∧ t < P.types.size) → (∀ x ∈ ps, x.block < W.heap.size) →
      DataW.TrodAll enc P W 0 (fun _ => true) true ts vs ds ps → DataW.TrodAll enc P W' 0 (fun b => decide (b < W.heap.size)) true ts vs ds ps
  | [], [], [], ps, _, _, h => h
  | [], [], _ :: _, _, _, _, h => h.elim
  | [], _ :: _, _, _, _, _, h => h.elim
  | _ :: _, [], _, _, _, _, h => h.elim
  | _ :: _, _ :: _, [], _, _, _, h => h.elim
  | t :: ts, v :: vs, d :: ds, ps, hr, hlt, ⟨p, q, h1, h2, e⟩ => by
    subst e
    have hp : ∀ x ∈ p, x.block < W.heap.size := fun x hx => hlt x (List.mem_append_left _ hx)
    have hq : ∀ x ∈ q, x.block < W.heap.size := fun x hx => hlt x (List.mem_append_right _ hx)
    exact ⟨p, q, Below.trod hl (hr t (List.mem_cons_self ..)).1 (hr t (List.mem_cons_self ..)).2 h1 hb hp, below_trodAll hl hb (fun u hu => hr u (List.mem_cons_of_mem _ hu)) hq h2, rfl⟩

/-- What lies when the call begins: cells that stay. -/
def em0 (W : World) : Em := { B := W.heap.size, ents := [], St := fun b o => b < W.heap.size ∧ (W.cell? ⟨b, o, none⟩).isSome = true }
theorem em0_rel (W : World) : WRel (em0 W) [] W :=
  ⟨rfl, fun id o e h => by simp at h, fun i j o o' e e' b h => by simp at h, fun b o h => Option.isSome_iff_exists.1 h.2, Nat.le_refl _⟩

/-- A law that is true whatever the input. -/
theorem law_post {f : FuncId} {fn : Func} {s : ChangeSpec} {apart fresh handsOn : Bool} {tb : TypeId} {W : World} {args : Array Value} {ds gs : List (DataW H)} {before : List MemPlace} {vs : List AV}
    (hl : laidOutB P = true) (hpar : ∀ t ∈ fn.params.toList, P.readableRec t = true ∧ t < P.types.size) (hres : fn.resultTypes = #[tb]) (htb : P.underlying tb = some .bool) (hvars : s.vars = [])
    (hspec : s.fn H ds = { results := [.lit (.bool true)], args := ds })
    (hent : ∀ (a : Array Value) (w : World), (callFunc f a).run P w = .ok (.enter f a) w)
    (hW : DataW.Whole enc P fn.params.toList s.vars apart W args.toList ds gs before)
    (hsim : Sim P gl f vs [] (.bool true) []) (hG : GlR (em0 W) W gl) (hv : VRL (em0 W) W vs args.toList) :
    Calls P f args W fun e W' => ∃ v, e = .returned v ∧ s.post enc P fn apart fresh handsOn false W args v W' := by
  rcases hsim (em0 W) W args.toList (em0_rel W) hG hv with ⟨_, hc⟩ | ⟨r, w', hr, _⟩
  · have hc' : Calls P f args W fun e w' => ∃ r, e = .returned r ∧ Outc (em0 W) [] W (.bool true) [] r w' := by simpa using hc
    refine hc'.mono ?_
    rintro e W' ⟨r, rfl, m', hvr, hle, hwr, hp⟩
    cases hvr
    have hb : Below W.heap.size W W' := hle.low
    have hlt := hW.lt
    obtain ⟨p, q, hA, hV, e1, hfz, hnd⟩ := id hW
    have hV' := hV
    rw [hvars] at hV'
    obtain ⟨rfl, rfl⟩ := trodVars_none hV'
    simp only [List.append_nil] at e1
    subst e1
    refine ⟨_, rfl, ds, [], before, [], before, [], hW, ?_, ?_, ?_, hb.frame _, fun h => by cases h⟩
    · rw [List.append_nil, hspec, hres]
      exact trodAll_mk1 (shut_bool htb true)
    · rw [List.append_nil, hspec]
      exact below_trodAll hl hb hpar hlt hA
    · rw [hvars, List.append_nil, hspec]; rfl
  · rw [hent] at hr; cases hr
end Go.Lim
