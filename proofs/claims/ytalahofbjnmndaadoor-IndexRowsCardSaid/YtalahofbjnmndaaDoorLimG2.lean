/- The E machine: arguments that are opened: whole numbers in a row. -/
import Derived.Test.YtalahofbjnmndaaDoorLimG1
set_option linter.unusedVariables false
namespace Go.Lim
open Go.RowKit Go.ChangeShapes Go.WideShapes
variable {P : Program} {H : Type} {enc : TypeId × Value → H}

theorem flat_ints (l : List Int) (k : IntKind) : AV.flat (l.map (AV.int k)) = l.map (AV.int k) := by
  induction l with
  | nil => rfl
  | cons x r ih => simp only [List.map_cons, AV.flat, AV.cells, ih]; rfl

theorem vr_ints {W : World} {t e : TypeId} {k : IntKind} {r : Reach} {b0 : Nat} {v : Value} {d : DataW H} {ps : List MemPlace} (ht : P.underlying t = some (.slice e)) (he : P.underlying e = some (.int k)) (hc : P.cellsOf e = 1)
    (hval : Value.okWide P W r b0 t v) (h : DataW.Trod enc P W 0 (fun _ => true) true t v d ps) : ∃ l : List Int, VR (em0 W) W (.slc .any (l.map (.int k))) v := by
  obtain ⟨a0, len, cap, rfl⟩ := okWide_slice ht hval
  obtain ⟨fuel, hf⟩ := h
  rcases open_ints ht he hc hf with ⟨hcs, hx⟩ | ⟨a, len', cap', zs, hcs, _, hle, hm, hz, hx, hcell, hwz⟩
  · have : a0 = none ∧ len = 0 ∧ cap = 0 := by simpa [Value.cells] using hcs
    obtain ⟨rfl, rfl, rfl⟩ := this
    exact ⟨[], .slcN _ (.inr rfl)⟩
  · have : a0 = some a ∧ len = len' ∧ cap = cap' := by simpa [Value.cells] using hcs
    obtain ⟨rfl, rfl, rfl⟩ := this
    simp only [if_true] at hz
    cases len with
    | zero => exact ⟨[], .slcE _ _⟩
    | succ len =>
      have h0 := hcell 0 (by omega)
      have hsp : a.spot = none := by simpa [Addr.add] using World.cell?_spot h0
      obtain ⟨b, o, sp⟩ := a
      simp only at hsp; subst hsp
      have hc2 : ∀ i, i < zs.length → W.cell? ⟨b, o + i, none⟩ = some (.int k (zs.getD i 0)) := fun i hi => by
        have := hcell i hi
        unfold Addr.add at this
        split at this
        · rename_i hi0; subst hi0; simpa using this
        · simpa using this
      refine ⟨zs.take (len + 1), ?_⟩
      have hlen : ((zs.take (len + 1)).map (AV.int k)).length = len + 1 := by simp; omega
      have := VR.slc (m := em0 W) (w := W) .any ((zs.take (len + 1)).map (AV.int k)) b o cap 1 (fun i => .int k (zs.getD i 0)) (by omega) (fun e he => by
          simp only [List.mem_map] at he
          obtain ⟨x, _, rfl⟩ := he
          rfl) (fun j hj => by
          rw [flat_ints, hlen] at hj
          have hcj := hc2 j (by omega)
          exact ⟨⟨cell_lt hcj, by rw [hcj]; rfl⟩, hcj⟩) (fun j v hv => by
          rw [flat_ints, List.getElem?_map] at hv
          cases hz2 : (zs.take (len + 1))[j]? with
          | none => rw [hz2] at hv; simp at hv
          | some x =>
            rw [hz2] at hv; simp at hv; subst hv
            rw [List.getElem?_take] at hz2
            split at hz2 <;> try (simp at hz2; done)
            rw [List.getD_eq_getElem?_getD, hz2]
            exact .int k x) trivial
      rw [hlen] at this
      exact this
end Go.Lim
