import Derived.Test.YtalahofbjnmndaaDoorLimX35
import Derived.Test.YtalahofbjnmndaaDoorLimPa
set_option maxRecDepth 100000
namespace Go.Lim
def insB (a : List UInt8) : List (List UInt8) → List (List UInt8)
  | [] => [a]
  | b :: r => if a ≤ b then a :: b :: r else b :: insB a r
def sortB : List (List UInt8) → List (List UInt8)
  | [] => []
  | a :: r => insB a (sortB r)
def valsOf (key : List UInt8) : List (AV × AV) → List (List UInt8)
  | [] => []
  | (.agg [.str a, .str b], _) :: r => if a = key then b :: valsOf key r else valsOf key r
  | _ :: r => valsOf key r
def keyPair : AV → Bool
  | .agg [.str _, .str _] => true
  | _ => false
def pValues : List AV → Heap → Option (AV × Heap × Esc)
  | [.ptr id off, .str key], H => match H[id]? with
    | some (.box cs) => match cs[off + 1]? with
      | some (.map mid) => match H[mid]? with
        | some (.mp es) => if es.all (fun x => keyPair x.1) && decide (es.length ≤ 1000000) then
          some ((if sortB (valsOf key es) = [] then .slc .nil [] else .slc .any ((sortB (valsOf key es)).map .str)), H, none) else none
        | _ => none
      | _ => none
    | _ => none
  | _, _ => none
end Go.Lim
namespace Go.Lim.X35
open Go Go.Lim
def tab : FTab := .n 48 (.code fe48)
 (.n 25 (.code fe25)
 (.n 13 (.code fe13)
 (.n 7 (.code fe7)
 (.n 4 (.code fe4)
 (.n 3 (.code fe3)
 (.n 2 (.code fe2)
 (.l) (.l)) (.l)) (.n 6 (.code fe6)
 (.n 5 (.code fe5)
 (.l) (.l)) (.l))) (.n 10 (.code fe10)
 (.n 9 (.code fe9)
 (.n 8 (.code fe8)
 (.l) (.l)) (.l)) (.n 12 (.code fe12)
 (.n 11 (.code fe11)
 (.l) (.l)) (.l)))) (.n 19 (.code fe19)
 (.n 16 (.code fe16)
 (.n 15 (.code fe15)
 (.n 14 (.code fe14)
 (.l) (.l)) (.l)) (.n 18 (.code fe18)
 (.n 17 (.code fe17)
 (.l) (.l)) (.l))) (.n 22 (.code fe22)
 (.n 21 (.code fe21)
 (.n 20 (.code fe20)
 (.l) (.l)) (.l)) (.n 24 (.code fe24)
 (.n 23 (.code fe23)
 (.l) (.l)) (.l))))) (.n 37 (.code fe37)
 (.n 31 (.code fe31)
 (.n 28 (.code fe28)
 (.n 27 (.code fe27)
 (.n 26 (.code fe26)
 (.l) (.l)) (.l)) (.n 30 (.code fe30)
 (.n 29 (.code fe29)
 (.l) (.l)) (.l))) (.n 34 (.code fe34)
 (.n 33 (.code fe33)
 (.n 32 (.code fe32)
 (.l) (.l)) (.l)) (.n 36 (.code fe36)
 (.n 35 (.code fe35)
 (.l) (.l)) (.l)))) (.n 43 (.code fe43)
 (.n 40 (.code fe40)
 (.n 39 (.code fe39)
 (.n 38 (.prim pValues)
 (.l) (.l)) (.l)) (.n 42 (.code fe42)
 (.n 41 (.code fe41)
 (.l) (.l)) (.l))) (.n 46 (.code fe46)
 (.n 45 (.code fe45)
 (.n 44 (.code fe44)
 (.l) (.l)) (.l)) (.n 47 (.code fe47)
 (.l) (.l)))))) (.n 72 (.code fe72)
 (.n 60 (.code fe60)
 (.n 54 (.code fe54)
 (.n 51 (.code fe51)
 (.n 50 (.code fe50)
 (.n 49 (.code fe49)
 (.l) (.l)) (.l)) (.n 53 (.code fe53)
 (.n 52 (.code fe52)
 (.l) (.l)) (.l))) (.n 57 (.code fe57)
 (.n 56 (.code fe56)
 (.n 55 (.code fe55)
 (.l) (.l)) (.l)) (.n 59 (.code fe59)
 (.n 58 (.code fe58)
 (.l) (.l)) (.l)))) (.n 66 (.code fe66)
 (.n 63 (.code fe63)
 (.n 62 (.code fe62)
 (.n 61 (.code fe61)
 (.l) (.l)) (.l)) (.n 65 (.code fe65)
 (.n 64 (.code fe64)
 (.l) (.l)) (.l))) (.n 69 (.code fe69)
 (.n 68 (.code fe68)
 (.n 67 (.code fe67)
 (.l) (.l)) (.l)) (.n 71 (.code fe71)
 (.l) (.l))))) (.n 87 (.code fe87)
 (.n 81 (.code fe81)
 (.n 76 (.code fe76)
 (.n 75 (.code fe75)
 (.n 73 (.code fe73)
 (.l) (.l)) (.l)) (.n 80 (.code fe80)
 (.n 79 (.code fe79)
 (.l) (.l)) (.l))) (.n 84 (.code fe84)
 (.n 83 (.code fe83)
 (.n 82 (.code fe82)
 (.l) (.l)) (.l)) (.n 86 (.code fe86)
 (.n 85 (.code fe85)
 (.l) (.l)) (.l)))) (.n 93 (.code fe93)
 (.n 90 (.code fe90)
 (.n 89 (.prim pIndexByte)
 (.n 88 (.code fe88)
 (.l) (.l)) (.l)) (.n 92 (.code fe92)
 (.n 91 (.code fe91)
 (.l) (.l)) (.l))) (.n 96 (.code fe96)
 (.n 95 (.code fe95)
 (.n 94 (.code fe94)
 (.l) (.l)) (.l)) (.n 97 (.code fe97)
 (.l) (.l))))))
def gl : Nat → Option (List AV) := fun g => if g = 0 then some [.int .i64 0, .int .i64 0] else none
theorem awake_E : callN tab.get gl 200 5 [] [] = some (.bool true, [], none) := by kernel_rfl
theorem tab_ok (h38 : FunOK Go.Proofs.Tryd.prog gl 38 (.prim pValues)) : tab.All (FunOK Go.Proofs.Tryd.prog gl) :=
 ⟨⟨_, Go.Proofs.Tryd.func48, ok48⟩,
 ⟨⟨_, Go.Proofs.Tryd.func25, ok25⟩,
 ⟨⟨_, Go.Proofs.Tryd.func13, ok13⟩,
 ⟨⟨_, Go.Proofs.Tryd.func7, ok7⟩,
 ⟨⟨_, Go.Proofs.Tryd.func4, ok4⟩,
 ⟨⟨_, Go.Proofs.Tryd.func3, ok3⟩,
 ⟨⟨_, Go.Proofs.Tryd.func2, ok2⟩,
 trivial,
 trivial⟩,
 trivial⟩,
 ⟨⟨_, Go.Proofs.Tryd.func6, ok6⟩,
 ⟨⟨_, Go.Proofs.Tryd.func5, ok5⟩,
 trivial,
 trivial⟩,
 trivial⟩⟩,
 ⟨⟨_, Go.Proofs.Tryd.func10, ok10⟩,
 ⟨⟨_, Go.Proofs.Tryd.func9, ok9⟩,
 ⟨⟨_, Go.Proofs.Tryd.func8, ok8⟩,
 trivial,
 trivial⟩,
 trivial⟩,
 ⟨⟨_, Go.Proofs.Tryd.func12, ok12⟩,
 ⟨⟨_, Go.Proofs.Tryd.func11, ok11⟩,
 trivial,
 trivial⟩,
 trivial⟩⟩⟩,
 ⟨⟨_, Go.Proofs.Tryd.func19, ok19⟩,
 ⟨⟨_, Go.Proofs.Tryd.func16, ok16⟩,
 ⟨⟨_, Go.Proofs.Tryd.func15, ok15⟩,
 ⟨⟨_, Go.Proofs.Tryd.func14, ok14⟩,
 trivial,
 trivial⟩,
 trivial⟩,
 ⟨⟨_, Go.Proofs.Tryd.func18, ok18⟩,
 ⟨⟨_, Go.Proofs.Tryd.func17, ok17⟩,
 trivial,
 trivial⟩,
 trivial⟩⟩,
 ⟨⟨_, Go.Proofs.Tryd.func22, ok22⟩,
 ⟨⟨_, Go.Proofs.Tryd.func21, ok21⟩,
 ⟨⟨_, Go.Proofs.Tryd.func20, ok20⟩,
 trivial,
 trivial⟩,
 trivial⟩,
 ⟨⟨_, Go.Proofs.Tryd.func24, ok24⟩,
 ⟨⟨_, Go.Proofs.Tryd.func23, ok23⟩,
 trivial,
 trivial⟩,
 trivial⟩⟩⟩⟩,
 ⟨⟨_, Go.Proofs.Tryd.func37, ok37⟩,
 ⟨⟨_, Go.Proofs.Tryd.func31, ok31⟩,
 ⟨⟨_, Go.Proofs.Tryd.func28, ok28⟩,
 ⟨⟨_, Go.Proofs.Tryd.func27, ok27⟩,
 ⟨⟨_, Go.Proofs.Tryd.func26, ok26⟩,
 trivial,
 trivial⟩,
 trivial⟩,
 ⟨⟨_, Go.Proofs.Tryd.func30, ok30⟩,
 ⟨⟨_, Go.Proofs.Tryd.func29, ok29⟩,
 trivial,
 trivial⟩,
 trivial⟩⟩,
 ⟨⟨_, Go.Proofs.Tryd.func34, ok34⟩,
 ⟨⟨_, Go.Proofs.Tryd.func33, ok33⟩,
 ⟨⟨_, Go.Proofs.Tryd.func32, ok32⟩,
 trivial,
 trivial⟩,
 trivial⟩,
 ⟨⟨_, Go.Proofs.Tryd.func36, ok36⟩,
 ⟨⟨_, Go.Proofs.Tryd.func35, ok35⟩,
 trivial,
 trivial⟩,
 trivial⟩⟩⟩,
 ⟨⟨_, Go.Proofs.Tryd.func43, ok43⟩,
 ⟨⟨_, Go.Proofs.Tryd.func40, ok40⟩,
 ⟨⟨_, Go.Proofs.Tryd.func39, ok39⟩,
 ⟨h38,
 trivial,
 trivial⟩,
 trivial⟩,
 ⟨⟨_, Go.Proofs.Tryd.func42, ok42⟩,
 ⟨⟨_, Go.Proofs.Tryd.func41, ok41⟩,
 trivial,
 trivial⟩,
 trivial⟩⟩,
 ⟨⟨_, Go.Proofs.Tryd.func46, ok46⟩,
 ⟨⟨_, Go.Proofs.Tryd.func45, ok45⟩,
 ⟨⟨_, Go.Proofs.Tryd.func44, ok44⟩,
 trivial,
 trivial⟩,
 trivial⟩,
 ⟨⟨_, Go.Proofs.Tryd.func47, ok47⟩,
 trivial,
 trivial⟩⟩⟩⟩⟩,
 ⟨⟨_, Go.Proofs.Tryd.func72, ok72⟩,
 ⟨⟨_, Go.Proofs.Tryd.func60, ok60⟩,
 ⟨⟨_, Go.Proofs.Tryd.func54, ok54⟩,
 ⟨⟨_, Go.Proofs.Tryd.func51, ok51⟩,
 ⟨⟨_, Go.Proofs.Tryd.func50, ok50⟩,
 ⟨⟨_, Go.Proofs.Tryd.func49, ok49⟩,
 trivial,
 trivial⟩,
 trivial⟩,
 ⟨⟨_, Go.Proofs.Tryd.func53, ok53⟩,
 ⟨⟨_, Go.Proofs.Tryd.func52, ok52⟩,
 trivial,
 trivial⟩,
 trivial⟩⟩,
 ⟨⟨_, Go.Proofs.Tryd.func57, ok57⟩,
 ⟨⟨_, Go.Proofs.Tryd.func56, ok56⟩,
 ⟨⟨_, Go.Proofs.Tryd.func55, ok55⟩,
 trivial,
 trivial⟩,
 trivial⟩,
 ⟨⟨_, Go.Proofs.Tryd.func59, ok59⟩,
 ⟨⟨_, Go.Proofs.Tryd.func58, ok58⟩,
 trivial,
 trivial⟩,
 trivial⟩⟩⟩,
 ⟨⟨_, Go.Proofs.Tryd.func66, ok66⟩,
 ⟨⟨_, Go.Proofs.Tryd.func63, ok63⟩,
 ⟨⟨_, Go.Proofs.Tryd.func62, ok62⟩,
 ⟨⟨_, Go.Proofs.Tryd.func61, ok61⟩,
 trivial,
 trivial⟩,
 trivial⟩,
 ⟨⟨_, Go.Proofs.Tryd.func65, ok65⟩,
 ⟨⟨_, Go.Proofs.Tryd.func64, ok64⟩,
 trivial,
 trivial⟩,
 trivial⟩⟩,
 ⟨⟨_, Go.Proofs.Tryd.func69, ok69⟩,
 ⟨⟨_, Go.Proofs.Tryd.func68, ok68⟩,
 ⟨⟨_, Go.Proofs.Tryd.func67, ok67⟩,
 trivial,
 trivial⟩,
 trivial⟩,
 ⟨⟨_, Go.Proofs.Tryd.func71, ok71⟩,
 trivial,
 trivial⟩⟩⟩⟩,
 ⟨⟨_, Go.Proofs.Tryd.func87, ok87⟩,
 ⟨⟨_, Go.Proofs.Tryd.func81, ok81⟩,
 ⟨⟨_, Go.Proofs.Tryd.func76, ok76⟩,
 ⟨⟨_, Go.Proofs.Tryd.func75, ok75⟩,
 ⟨⟨_, Go.Proofs.Tryd.func73, ok73⟩,
 trivial,
 trivial⟩,
 trivial⟩,
 ⟨⟨_, Go.Proofs.Tryd.func80, ok80⟩,
 ⟨⟨_, Go.Proofs.Tryd.func79, ok79⟩,
 trivial,
 trivial⟩,
 trivial⟩⟩,
 ⟨⟨_, Go.Proofs.Tryd.func84, ok84⟩,
 ⟨⟨_, Go.Proofs.Tryd.func83, ok83⟩,
 ⟨⟨_, Go.Proofs.Tryd.func82, ok82⟩,
 trivial,
 trivial⟩,
 trivial⟩,
 ⟨⟨_, Go.Proofs.Tryd.func86, ok86⟩,
 ⟨⟨_, Go.Proofs.Tryd.func85, ok85⟩,
 trivial,
 trivial⟩,
 trivial⟩⟩⟩,
 ⟨⟨_, Go.Proofs.Tryd.func93, ok93⟩,
 ⟨⟨_, Go.Proofs.Tryd.func90, ok90⟩,
 ⟨pIndexByte_ok Go.Proofs.Tryd.func89 (by kernel_rfl) (by kernel_rfl) (by kernel_rfl) (by kernel_rfl),
 ⟨⟨_, Go.Proofs.Tryd.func88, ok88⟩,
 trivial,
 trivial⟩,
 trivial⟩,
 ⟨⟨_, Go.Proofs.Tryd.func92, ok92⟩,
 ⟨⟨_, Go.Proofs.Tryd.func91, ok91⟩,
 trivial,
 trivial⟩,
 trivial⟩⟩,
 ⟨⟨_, Go.Proofs.Tryd.func96, ok96⟩,
 ⟨⟨_, Go.Proofs.Tryd.func95, ok95⟩,
 ⟨⟨_, Go.Proofs.Tryd.func94, ok94⟩,
 trivial,
 trivial⟩,
 trivial⟩,
 ⟨⟨_, Go.Proofs.Tryd.func97, ok97⟩,
 trivial,
 trivial⟩⟩⟩⟩⟩⟩
end Go.Lim.X35
