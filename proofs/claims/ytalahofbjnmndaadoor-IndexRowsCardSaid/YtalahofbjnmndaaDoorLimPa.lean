/- The E machine: functions without code, part 1. -/
import Derived.Test.YtalahofbjnmndaaDoorLimZ
import Derived.Laws.StandIn
set_option linter.unusedVariables false
namespace Go.Lim
variable {P : Program} {gl : Nat → Option (List AV)}

def idxB (c : UInt8) : List UInt8 → Option Nat
  | [] => none
  | b :: r => if b == c then some 0 else (idxB c r).map (· + 1)
def idxI (c : UInt8) (s : List UInt8) : Int := match idxB c s with | some i => i | none => -1
theorem find_range (s : List UInt8) (c : UInt8) (q : Nat → Bool) (hq : ∀ (i : Nat) b, s[i]? = some b → q i = (b == c)) : (List.range s.length).find? q = idxB c s := by
  induction s generalizing q with
  | nil => rfl
  | cons b r ih =>
    rw [List.length_cons, List.range_succ_eq_map, List.find?_cons, hq 0 b rfl, idxB]
    cases hb : (b == c)
    · simp only [Bool.false_eq_true, if_false]
      rw [List.find?_map, ih (q ∘ Nat.succ) (fun i x hx => hq (i + 1) x (by simpa using hx))]
    · rfl
theorem firstIdx_idxI (s : List UInt8) (c : UInt8) : firstIdx ⟨s.toArray⟩ c = idxI c s := by
  have h : (List.range (ByteArray.mk s.toArray).size).find? (fun i => (ByteArray.mk s.toArray)[i]! == c) = idxB c s := by
    have e : (ByteArray.mk s.toArray).size = s.length := by simp [ByteArray.size]
    rw [e]
    refine find_range s c _ fun i b hb => ?_
    have hi : i < s.length := (List.getElem?_eq_some_iff.1 hb).1
    have hs : (ByteArray.mk s.toArray)[i]! = b := by
      rw [getElem!_pos _ i (by simpa [ByteArray.size] using hi)]
      have : (ByteArray.mk s.toArray)[i]'(by simpa [ByteArray.size] using hi) = s.toArray[i]'(by simpa using hi) := rfl
      rw [this]
      simpa [hi] using hb
    rw [hs]
  unfold firstIdx idxI
  rw [h]
  cases idxB c s <;> rfl

def pIndexByte : List AV → Heap → Option (AV × Heap × Esc)
  | [.str s, .int .u8 c], H => some (.int .i64 (idxI c.toNat.toUInt8 s), H, none)
  | _, _ => none

theorem Outc.same {m : Em} {H : Heap} {w : World} {v : AV} {r : Value} (hw : WRel m H w) (hv : VR m w v r) : Outc m H w v H r w := ⟨m, hv, .refl m w, hw, .refl m H⟩

theorem pIndexByte_ok {f : FuncId} {fn : Func} (hf : P.funcs[f]? = some fn) (hname : (fn.name == "runtime.NumGoroutine") = false)
    (hb : fn.body.isNone = true) (hn : Extern.findNext fn = none) (he : Extern.find fn = some Extern.BytealgIndexByte.indexByte) : FunOK P gl f (.prim pIndexByte) := by
  intro vs H v H' s h
  unfold pIndexByte at h
  split at h <;> simp at h
  rename_i x c H0
  obtain ⟨rfl, rfl, rfl⟩ := h
  refine ⟨?_, EscP.refl _⟩
  intro m w rs hw hG hl
  match rs, hl with
  | [r1, r2], hl =>
    have h1 := hl.2 0 _ _ rfl rfl
    have h2 := hl.2 1 _ _ rfl rfl
    cases h1
    cases h2
    refine .inr ⟨_, w, ?_, Outc.same hw (.int _ _)⟩
    rw [run_callFunc_indexByte hf hname hb hn he]
    rw [run_indexByte_string]
    simp [Result.andThen, firstIdx_idxI]
  | [], hl => exact absurd hl.1 (by simp)
  | [_], hl => exact absurd hl.1 (by simp)
  | _ :: _ :: _ :: _, hl => exact absurd hl.1 (by simp)
end Go.Lim
