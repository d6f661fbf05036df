/- The card of IndexRows: called with any two lists of whole numbers and any number, the law answers true; nothing that lay before has turned.
Conditions: those of the given card alone (the translation's platform; the package variable limnograph/glob.none reads as the program's text lays it, which the tie pays). -/
import Derived.Test.YtalahofbjnmndaaDoorLimC35d
import Derived.Test.YtalahofbjnmndaaDoorLimV35e
import Derived.Test.YtalahofbjnmndaaDoorLimG2
import Derived.Test.YtalahofbjnmndaaDoorRows
import Derived.Test.YtalahofbjnmndaaDoorTie
import Derived.Test.YtalahofbjnmndaaDoorCards
import Derived.OpenShut
import Derived.LaidMore
import Derived.Lay
import Derived.LaidOnce
import Derived.SevenTiedAt
import Derived.JoinedOf
namespace Go.Proofs.YtalahofbjnmndaaDoor
open Go.ChangeShapes Go.WideShapes Go.ChangeAt Go.RowKit Go.Lim

theorem own : ownKnob Tryd.prog.godebug = none := by kernel_rfl
theorem laidOut : laidOutB Tryd.prog = true := by kernel_rfl

abbrev laidL : List (String × DataW Unit) := [("limnograph/glob.none", Rows.laid_limnograph_glob_none)]
set_option maxRecDepth 100000 in
theorem none_cells {W : World} (h : laidMetH Tryd.prog laidL W) : W.var? Tryd.prog "limnograph/glob.none" = some #[.int .i64 0, .int .i64 0] := by
  rw [MakeChecks.laidMetH_plain _ _ _ (by kernel_rfl)] at h
  obtain ⟨ps, ⟨g, t, cs, fuel, p, q, hg, ht, hv, hd, _, _⟩, _, _⟩ := h
  obtain rfl := Option.some.inj ((show Tryd.prog.globalNamed "limnograph/glob.none" = some 0 by kernel_rfl).symm.trans hg)
  obtain rfl := Option.some.inj ((show (Tryd.prog.globals[0]?).map (·.type) = some 89 by kernel_rfl).symm.trans ht)
  have c3 : Tryd.prog.cellsOf 3 = 1 := by kernel_rfl
  have c33 : Tryd.prog.cellsOf 33 = 1 := by kernel_rfl
  have c89 : Tryd.prog.cellsOf 89 = 2 := by kernel_rfl
  obtain ⟨xs, m, _, ex, hlen, hl, hel⟩ := DataW.trod_struct Tryd.underlying89 hd
  rw [c89] at hlen
  obtain ⟨l⟩ := cs
  match l, hlen with
  | [a, b], _ =>
    match xs, hl with
    | [x0, x1], _ =>
      have e3 := (DataW.agg.inj (Prod.mk.inj ex).1)
      simp only [List.map_cons, List.map_nil, List.cons.injEq, and_true] at e3
      have k0 := hel 0 _ rfl
      have k1 := hel 1 _ rfl
      simp only [c3, c33] at k0 k1
      obtain ⟨z0, a0, b0, _⟩ := DataW.trod_int Tryd.underlying3 k0
      obtain ⟨z1, a1, b1, _⟩ := DataW.trod_int Tryd.underlying33 k1
      rw [hv]
      simp_all
      omega

theorem gl_ok {W : World} (h : laidMetH Tryd.prog laidL W) : GlR (em0 W) W X35.gl := by
  have hc := fun j => World.var?_cell (show Tryd.prog.globalNamed "limnograph/glob.none" = some 0 by kernel_rfl) (none_cells h) j
  intro g cs hg
  unfold X35.gl at hg
  split at hg <;> simp at hg
  rename_i h0
  subst h0; subst hg
  have h1 : W.cell? ⟨0, 0, none⟩ = some (.int .i64 0) := hc 0
  have h2 : W.cell? ⟨0, 1, none⟩ = some (.int .i64 0) := hc 1
  refine .rop _ 0 0 0 (fun _ => .int .i64 0) (fun j hj => ?_) (fun j v hv => ?_)
  · rw [Nat.zero_add]
    match j, hj with
    | 0, _ => exact ⟨⟨cell_lt h1, by rw [h1]; rfl⟩, h1⟩
    | 1, _ => exact ⟨⟨cell_lt h2, by rw [h2]; rfl⟩, h2⟩
  · match j with
    | 0 => simp at hv; subst hv; exact .int _ _
    | 1 => simp at hv; subst hv; exact .int _ _
    | j + 2 => simp at hv

set_option maxRecDepth 100000 in
theorem law_sim (ta tb : Lim.Tok) (a b : List Int) (m : Int) :
    Sim Tryd.prog X35.gl 3 [.slc ta (X35.ints a), .slc tb (X35.ints b), .int .i64 m] [] (.bool true) [] :=
  (callN_ok (by kernel_rfl) (fun f F h => FTab.get_all (X35.tab_ok Tryd.values_ok) f F h) 201).1 _ _ _ _ _ _ (X35.IndexRows_E ta tb a b m)

theorem law_enters (a : Array Value) (w : World) : (callFunc 3 a).run Tryd.prog w = .ok (.enter 3 a) w := by
  have hb : Tryd.f3.body.isSome = true := by kernel_rfl
  have hn : (Tryd.f3.name == "runtime.NumGoroutine") = false := by kernel_rfl
  obtain ⟨c, hc⟩ := Option.isSome_iff_exists.1 hb
  simp only [callFunc, Sem.run_bind, run_program, Result.andThen_ok, Tryd.func3]
  simp [hn, hc]

set_option maxRecDepth 100000 in
theorem lifted (os : Os) (started : os.Started) (H : Type) (enc : TypeId × Value → H) :
    ReturnsInHanded {} Tryd.checked os 3 .any (fun w args => (Rows.indexRowsSpec.pre enc Tryd.prog Tryd.f3 [] false w args ∧ laidMetH Tryd.prog laidL w) ∧ sizedMet enc Tryd.prog Tryd.f3 (OpenSpec.ofChange Rows.indexRowsSpec) false w args)
      (Rows.indexRowsSpec.post enc Tryd.prog Tryd.f3 false true false false) := by
  refine returnsInHanded_of_change_and (C := Tryd.checked) (X := fun w _ => laidMetH Tryd.prog laidL w) (fun _ _ _ hh h => h.of_heap hh) own started (by kernel_rfl) Tryd.func3
    (ChangeSpec.witness_at (enc := enc) (C := Tryd.checked) (os := os) (X := fun w _ => laidMetH Tryd.prog laidL w) false (World.laidAll Tryd.prog os laidL) #[.slice none 0 0, .slice none 0 0, .int .i64 0] 8 (World.laidAll_os _ _ _) (by kernel_rfl) (by kernel_rfl) (by kernel_rfl) (by kernel_rfl) (by kernel_rfl)
      (by rw [MakeChecks.laidMetH_plain _ _ _ (by kernel_rfl)]; exact laidMet_laidAll _ (by kernel_rfl) (by kernel_rfl))) ?_
  intro W base args ds gs before hval0 hW _ _ hL _
  have hval : ∀ (j : Nat) t v, Tryd.f3.params[j]? = some t → args[j]? = some v → Value.okWide Tryd.prog W .any base t v := hval0
  have hW' := hW
  obtain ⟨p, q, hA0, hV, rfl, hfz, hnd⟩ := hW
  have hA : DataW.TrodAll enc Tryd.prog W 0 (fun _ => true) true Tryd.f3.params.toList args.toList ds p := hA0
  rw [Tryd.params3] at hA hval
  obtain ⟨v0, v1, v2, d0, d1, d2, p0, p1, p2, rfl, rfl, rfl, h0, h1, h2⟩ := trodAll_three hA
  have c3 : Tryd.prog.cellsOf 3 = 1 := by kernel_rfl
  obtain ⟨la, ha⟩ := vr_ints Tryd.underlying22 Tryd.underlying3 c3 (hval 0 22 v0 rfl rfl) h0
  obtain ⟨lb, hb⟩ := vr_ints Tryd.underlying22 Tryd.underlying3 c3 (hval 1 22 v1 rfl rfl) h1
  obtain ⟨n, rfl, rfl, rfl, wn⟩ := open_int Tryd.underlying3 (hval 2 3 v2 rfl rfl) h2
  refine law_post laidOut (by rw [Tryd.params3]; intro t ht; simp at ht; rcases ht with rfl | rfl <;> exact ⟨by kernel_rfl, of_decide_eq_true (by kernel_rfl)⟩) (tb := 4) (by kernel_rfl) Tryd.underlying4 rfl rfl law_enters hW' (law_sim Lim.Tok.any Lim.Tok.any la lb n) (gl_ok hL) ?_
  exact ⟨rfl, fun j v r hv hr => by
    match j with
    | 0 => simp at hv hr; subst hv; subst hr; exact ha
    | 1 => simp at hv hr; subst hv; subst hr; exact hb
    | 2 => simp at hv hr; subst hv; subst hr; exact .int _ _
    | j + 3 => simp at hv⟩

theorem indexRows_row : Rows.IndexRowsSaid :=
  OpenClaim.holds_of_wide 3 Tryd.f3 rfl rfl rfl rfl rfl rfl rfl ⟨rfl, rfl, rfl, rfl, rfl⟩ rfl rfl rfl rfl rfl (by kernel_rfl) Tryd.func3 (by kernel_rfl)
    (of_decide_eq_true (by kernel_rfl)) (by unfold Func.isWrapper; rw [if_neg (of_decide_eq_false (by kernel_rfl))]; exact ⟨rfl, rfl⟩)
    (fun os started H enc _ => lifted os started H enc)

theorem indexRows_card : Rows.IndexRowsCardSaid :=
  Claim7.holds_tied_plain_at .later [] [.data] true (true, "654a2807c9c9a26a8efdef7a891824db3ed52dba1918bddb7ed78f4f4dc38024") false indexRows_row (fun _ h => by cases h) (by kernel_rfl) (fun _ h => by cases h) indexRows_row_tie rfl ⟨rfl, rfl⟩ (by kernel_rfl) rfl
    (fun f fn hf hfn => by
      obtain rfl : f = 3 := Option.some.inj ((show Tryd.prog.funcNamed "limnograph/limnographlaw35.IndexRows" = some 3 by kernel_rfl).symm.trans hf) |>.symm
      obtain rfl : fn = Tryd.f3 := (Option.some.inj (Tryd.func3.symm.trans hfn)).symm
      exact ⟨by kernel_rfl, fun j t ht => by
        have ht' : t ∈ Tryd.f3.params.toList := by
          have := Array.mem_of_getElem? ht
          simpa using this
        rw [Tryd.params3] at ht'
        simp at ht'
        rcases ht' with rfl | rfl
        · exact (show Tryd.prog.wantsStandIn 22 = false by kernel_rfl)
        · exact (show Tryd.prog.wantsStandIn 3 = false by kernel_rfl)⟩)
    (by kernel_rfl)
end Go.Proofs.YtalahofbjnmndaaDoor
