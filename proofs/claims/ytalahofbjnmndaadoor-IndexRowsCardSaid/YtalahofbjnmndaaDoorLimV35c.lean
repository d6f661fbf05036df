import Derived.Test.YtalahofbjnmndaaDoorLimV35b
import Derived.Test.YtalahofbjnmndaaDoorLimV35p
namespace Go.Proofs
open Go.RowKit Go.Lim Go.Shelf

set_option maxHeartbeats 1000000 in
theorem Tryd.keys57 (F : Fence) (n : Nat) (h7 : F.fn 57) (hro : F.round = none) (mb : Option Nat) (w : World) :
    CallsIn F n Tryd.prog 57 #[.map mb] w fun e w' => e = .returned (.func (.func 70) #[] #[.pointer (some ⟨w.heap.size, 0, none⟩)]) ∧ w' = w.alloc (.cells #[.map mb] 48) := by
  refine callsIn_of_wp Tryd.func57 rfl h7 ?_ hro
  simp only [Tryd.ntmps57, List.size_toArray, List.length_cons, List.length_nil, Nat.reduceAdd, Nat.reduceSub, Array.replicate_succ, Array.replicate_zero, List.push_toArray, List.append_toArray, List.nil_append, List.cons_append]
  gi_wp2
  go_ret
  exact ⟨rfl, rfl⟩

end Go.Proofs
