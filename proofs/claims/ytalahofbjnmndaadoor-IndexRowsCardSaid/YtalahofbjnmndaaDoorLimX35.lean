/- The resolved code of the functions (printed by a program from the given program's form; each is checked against it by the kernel). -/
import Derived.Test.YtalahofbjnmndaaDoorLimV
import Derived.Test.YtalahofbjnmndaaDoorProg
set_option maxRecDepth 100000
namespace Go.Lim.X35
open Go Go.Lim
/- "gosem.cut.init" -/
def fe2 : FE :=
  ⟨0, .reg [⟨.some 0, .none, .call (.c (.fn 1 [])) []⟩], [], false⟩
theorem ok2 : chkFn Go.Proofs.Tryd.prog Go.Proofs.Tryd.f2 fe2 = true := by kernel_rfl
/- "limnograph/limnographlaw35.IndexRows" -/
def fe3 : FE :=
  ⟨3, .seq (.reg [⟨.some 6, .none, .mv (.c (.bool false))⟩]) (.seq (.seq (.reg [⟨.some 15, .none, .call (.c (.fn 5 [])) []⟩, ⟨.some 16, .none, .un .not (.t 15)⟩]) (.cond (.t 16) (.seq 
  (.reg [⟨.some 6, .none, .mv (.c (.bool false))⟩]) .ret) .skip)) (.keep [0, 1, 2] (.seq (.seq (.reg [⟨.some 17, .none, .mv (.t 0)⟩, ⟨.some 18, .none, .len .l (.t 17)⟩, ⟨.some 19, .none, 
  .bin .gtr (.t 18) (.c (.int .i64 60))⟩, ⟨.some 20, .none, .mv (.t 19)⟩, ⟨.some 21, .some (20, false), .mv (.t 1)⟩, ⟨.some 22, .some (20, false), .len .l (.t 21)⟩, ⟨.some 23, .some 
  (20, false), .bin .gtr (.t 22) (.c (.int .i64 60))⟩, ⟨.some 24, .none, .pick (.t 20) (.c (.bool true)) (.t 23)⟩]) (.keep [0, 1, 2, 24] (.cond (.t 24) (.seq (.reg [⟨.some 6, .none, 
  .mv (.c (.bool true))⟩]) .ret) .skip))) (.keep [0, 1, 2] (.seq (.reg [⟨.some 25, .none, .mv (.t 0)⟩, ⟨.some 26, .none, .mv (.t 1)⟩, ⟨.some 27, .none, .call (.c (.fn 6 [])) [.t 25, 
  .t 26]⟩, ⟨.some 28, .none, .mv (.t 0)⟩, ⟨.some 29, .none, .mv (.t 1)⟩, ⟨.some 30, .none, .call (.c (.fn 7 [])) [.t 28, .t 29]⟩, ⟨.some 31, .none, .mv (.t 0)⟩, ⟨.some 32, .none, .mv 
  (.t 1)⟩, ⟨.some 33, .none, .call (.c (.fn 8 [])) [.t 31, .t 32]⟩, ⟨.some 7, .none, .mv (.t 27)⟩, ⟨.some 8, .none, .mv (.t 30)⟩, ⟨.some 9, .none, .mv (.t 33)⟩]) (.keep [0, 1, 2, 7, 
  8, 9] (.seq (.seq (.reg [⟨.some 34, .none, .mv (.t 0)⟩, ⟨.some 35, .none, .call (.c (.fn 9 [])) [.t 34]⟩, ⟨.some 36, .none, .un .not (.t 35)⟩, ⟨.some 37, .none, .mv (.t 36)⟩, ⟨.some 
  38, .some (37, false), .mv (.t 1)⟩, ⟨.some 39, .some (37, false), .call (.c (.fn 9 [])) [.t 38]⟩, ⟨.some 40, .some (37, false), .un .not (.t 39)⟩, ⟨.some 41, .none, .pick (.t 37) 
  (.c (.bool true)) (.t 40)⟩]) (.keep [0, 1, 2, 7, 8, 9, 41] (.cond (.t 41) (.seq (.reg [⟨.some 6, .none, .mv (.c (.bool true))⟩]) .ret) .skip))) (.keep [0, 1, 2, 7, 8, 9] (.seq (.seq 
  (.reg [⟨.some 42, .none, .mv (.t 7)⟩, ⟨.some 43, .none, .call (.c (.fn 9 [])) [.t 42]⟩, ⟨.some 44, .none, .un .not (.t 43)⟩, ⟨.some 45, .none, .mv (.t 44)⟩, ⟨.some 46, .some (45, 
  false), .mv (.t 8)⟩, ⟨.some 47, .some (45, false), .call (.c (.fn 9 [])) [.t 46]⟩, ⟨.some 48, .some (45, false), .un .not (.t 47)⟩, ⟨.some 49, .none, .pick (.t 45) (.c (.bool true)) 
  (.t 48)⟩, ⟨.some 50, .none, .mv (.t 49)⟩, ⟨.some 51, .some (50, false), .mv (.t 9)⟩, ⟨.some 52, .some (50, false), .call (.c (.fn 9 [])) [.t 51]⟩, ⟨.some 53, .some (50, false), .un 
  .not (.t 52)⟩, ⟨.some 54, .none, .pick (.t 50) (.c (.bool true)) (.t 53)⟩, ⟨.some 55, .none, .mv (.t 54)⟩, ⟨.some 56, .some (55, false), .mv (.t 7)⟩, ⟨.some 57, .some (55, false), 
  .len .l (.t 56)⟩, ⟨.some 58, .some (55, false), .mv (.t 9)⟩, ⟨.some 59, .some (55, false), .len .l (.t 58)⟩, ⟨.some 60, .some (55, false), .bin .add (.t 57) (.t 59)⟩, ⟨.some 61, .some 
  (55, false), .mv (.t 0)⟩, ⟨.some 62, .some (55, false), .len .l (.t 61)⟩, ⟨.some 63, .some (55, false), .bin .neq (.t 60) (.t 62)⟩, ⟨.some 64, .none, .pick (.t 55) (.c (.bool true)) 
  (.t 63)⟩, ⟨.some 65, .none, .mv (.t 64)⟩, ⟨.some 66, .some (65, false), .mv (.t 8)⟩, ⟨.some 67, .some (65, false), .len .l (.t 66)⟩, ⟨.some 68, .some (65, false), .mv (.t 9)⟩, ⟨.some 
  69, .some (65, false), .len .l (.t 68)⟩, ⟨.some 70, .some (65, false), .mv (.t 1)⟩, ⟨.some 71, .some (65, false), .len .l (.t 70)⟩, ⟨.some 72, .some (65, false), .bin .add (.t 69) 
  (.t 71)⟩, ⟨.some 73, .some (65, false), .bin .neq (.t 67) (.t 72)⟩, ⟨.some 74, .none, .pick (.t 65) (.c (.bool true)) (.t 73)⟩]) (.keep [0, 1, 2, 7, 8, 9, 74] (.cond (.t 74) (.seq 
  (.reg [⟨.some 6, .none, .mv (.c (.bool false))⟩]) .ret) .skip))) (.keep [0, 1, 2, 7, 8, 9] (.seq (.reg [⟨.some 75, .none, .mv (.t 2)⟩, ⟨.some 76, .none, .bslice (.int .i64 0) 1 1 
  [(0, .t 75)]⟩, ⟨.some 77, .none, .mv (.t 0)⟩, ⟨.some 78, .none, .append 1 8 (.t 76) (.t 77)⟩, ⟨.some 79, .none, .mv (.t 1)⟩, ⟨.some 80, .none, .append 1 8 (.t 78) (.t 79)⟩, ⟨.some 
  10, .none, .mv (.t 80)⟩]) (.keep [0, 1, 7, 8, 9, 10] (.seq (.seq (.reg [⟨.some 11, .none, .mv (.c (.int .i64 0))⟩]) (.block 0 (.loop [0, 1, 7, 8, 9, 10, 11] (.seq (.seq (.reg [⟨.some 
  81, .none, .mv (.t 11)⟩, ⟨.some 82, .none, .mv (.t 10)⟩, ⟨.some 83, .none, .len .l (.t 82)⟩, ⟨.some 84, .none, .bin .lss (.t 81) (.t 83)⟩]) (.keep [0, 1, 7, 8, 9, 10, 11, 84] (.cond 
  (.t 84) .skip (.exit 0)))) (.keep [0, 1, 7, 8, 9, 10, 11] (.seq (.block 1 (.seq (.reg [⟨.some 87, .none, .mv (.t 10)⟩, ⟨.some 88, .none, .mv (.t 11)⟩, ⟨.some 89, .none, .iaddr 1 (.t 
  87) (.t 88)⟩, ⟨.some 90, .none, .load false 1 (.t 89)⟩, ⟨.some 12, .none, .mv (.t 90)⟩]) (.keep [0, 1, 7, 8, 9, 10, 11, 12] (.seq (.reg [⟨.some 91, .none, .mv (.t 0)⟩, ⟨.some 92, 
  .none, .mv (.t 12)⟩, ⟨.some 93, .none, .call (.c (.fn 10 [])) [.t 91, .t 92]⟩, ⟨.some 94, .none, .mv (.t 1)⟩, ⟨.some 95, .none, .mv (.t 12)⟩, ⟨.some 96, .none, .call (.c (.fn 10 [])) 
  [.t 94, .t 95]⟩, ⟨.some 13, .none, .mv (.t 93)⟩, ⟨.some 14, .none, .mv (.t 96)⟩]) (.keep [0, 1, 7, 8, 9, 10, 11, 12, 13, 14] (.seq (.reg [⟨.some 97, .none, .mv (.t 7)⟩, ⟨.some 98, 
  .none, .mv (.t 12)⟩, ⟨.some 99, .none, .call (.c (.fn 10 [])) [.t 97, .t 98]⟩, ⟨.some 100, .none, .mv (.t 13)⟩, ⟨.some 101, .none, .mv (.t 100)⟩, ⟨.some 102, .some (101, true), .mv 
  (.t 14)⟩, ⟨.some 103, .none, .pick (.t 101) (.t 102) (.c (.bool false))⟩, ⟨.some 104, .none, .eqb true (.t 99) (.t 103)⟩, ⟨.some 105, .none, .mv (.t 104)⟩, ⟨.some 106, .some (105, 
  false), .mv (.t 8)⟩, ⟨.some 107, .some (105, false), .mv (.t 12)⟩, ⟨.some 108, .some (105, false), .call (.c (.fn 10 [])) [.t 106, .t 107]⟩, ⟨.some 109, .some (105, false), .mv (.t 
  13)⟩, ⟨.some 110, .some (105, false), .mv (.t 109)⟩, ⟨.some 111, .some (110, false), .mv (.t 14)⟩, ⟨.some 112, .some (105, false), .pick (.t 110) (.c (.bool true)) (.t 111)⟩, ⟨.some 
  113, .some (105, false), .eqb true (.t 108) (.t 112)⟩, ⟨.some 114, .none, .pick (.t 105) (.c (.bool true)) (.t 113)⟩, ⟨.some 115, .none, .mv (.t 114)⟩, ⟨.some 116, .some (115, false), 
  .mv (.t 9)⟩, ⟨.some 117, .some (115, false), .mv (.t 12)⟩, ⟨.some 118, .some (115, false), .call (.c (.fn 10 [])) [.t 116, .t 117]⟩, ⟨.some 119, .some (115, false), .mv (.t 13)⟩, 
  ⟨.some 120, .some (115, false), .mv (.t 119)⟩, ⟨.some 121, .some (120, true), .mv (.t 14)⟩, ⟨.some 122, .some (120, true), .un .not (.t 121)⟩, ⟨.some 123, .some (115, false), .pick 
  (.t 120) (.t 122) (.c (.bool false))⟩, ⟨.some 124, .some (115, false), .eqb true (.t 118) (.t 123)⟩, ⟨.some 125, .none, .pick (.t 115) (.c (.bool true)) (.t 124)⟩]) (.keep [0, 1, 
  7, 8, 9, 10, 11, 125] (.cond (.t 125) (.seq (.reg [⟨.some 6, .none, .mv (.c (.bool false))⟩]) .ret) .skip)))))))) (.keep [0, 1, 7, 8, 9, 10, 11] (.reg [⟨.some 85, .none, .mv (.t 11)⟩, 
  ⟨.some 86, .none, .bin .add (.t 85) (.c (.int .i64 1))⟩, ⟨.some 11, .none, .mv (.t 86)⟩])))))))) (.keep [] (.seq (.reg [⟨.some 6, .none, .mv (.c (.bool true))⟩]) .ret))))))))))))))), 
  [.tmp 6], false⟩
theorem ok3 : chkFn Go.Proofs.Tryd.prog Go.Proofs.Tryd.f3 fe3 = true := by kernel_rfl
/- "limnograph/limnographlaw35.IndexParts" -/
def fe4 : FE :=
  ⟨3, .seq (.reg [⟨.some 6, .none, .mv (.c (.bool false))⟩]) (.seq (.seq (.reg [⟨.some 23, .none, .call (.c (.fn 5 [])) []⟩, ⟨.some 24, .none, .un .not (.t 23)⟩]) (.cond (.t 24) (.seq 
  (.reg [⟨.some 6, .none, .mv (.c (.bool false))⟩]) .ret) .skip)) (.keep [0, 1, 2] (.seq (.seq (.reg [⟨.some 25, .none, .mv (.t 0)⟩, ⟨.some 26, .none, .call (.c (.fn 11 [])) [.t 25, 
  .c (.int .i64 40)]⟩, ⟨.some 27, .none, .un .not (.t 26)⟩, ⟨.some 28, .none, .mv (.t 27)⟩, ⟨.some 29, .some (28, false), .mv (.t 1)⟩, ⟨.some 30, .some (28, false), .call (.c (.fn 12 
  [])) [.t 29]⟩, ⟨.some 31, .some (28, false), .un .not (.t 30)⟩, ⟨.some 32, .none, .pick (.t 28) (.c (.bool true)) (.t 31)⟩, ⟨.some 33, .none, .mv (.t 32)⟩, ⟨.some 34, .some (33, false), 
  .mv (.t 2)⟩, ⟨.some 35, .some (33, false), .call (.c (.fn 12 [])) [.t 34]⟩, ⟨.some 36, .some (33, false), .un .not (.t 35)⟩, ⟨.some 37, .none, .pick (.t 33) (.c (.bool true)) (.t 
  36)⟩]) (.keep [0, 1, 2, 37] (.cond (.t 37) (.seq (.reg [⟨.some 6, .none, .mv (.c (.bool true))⟩]) .ret) .skip))) (.keep [0, 1, 2] (.seq (.reg [⟨.some 39, .none, .mv (.t 0)⟩, ⟨.some 
  40, .none, .call (.c (.fn 13 [])) [.t 39]⟩, ⟨.some 38, .none, .mv (.t 40)⟩, ⟨.some 41, .none, .extract 0 (.t 38)⟩, ⟨.some 42, .none, .extract 1 (.t 38)⟩, ⟨.some 43, .none, .extract 
  2 (.t 38)⟩, ⟨.some 7, .none, .mv (.t 41)⟩, ⟨.some 8, .none, .mv (.t 42)⟩, ⟨.some 9, .none, .mv (.t 43)⟩]) (.keep [1, 2, 7] (.seq (.seq (.reg [⟨.some 44, .none, .mv (.t 7)⟩, ⟨.some 
  45, .none, .eqnil .p false (.t 44)⟩]) (.cond (.t 45) (.seq (.reg [⟨.some 6, .none, .mv (.c (.bool true))⟩]) .ret) .skip)) (.keep [1, 2, 7] (.seq (.reg [⟨.some 47, .none, .mv (.t 7)⟩, 
  ⟨.some 48, .none, .mv (.t 1)⟩, ⟨.some 49, .none, .call (.c (.fn 14 [])) [.t 47, .t 48]⟩, ⟨.some 46, .none, .mv (.t 49)⟩, ⟨.some 50, .none, .extract 0 (.t 46)⟩, ⟨.some 51, .none, .extract 
  1 (.t 46)⟩, ⟨.some 52, .none, .extract 2 (.t 46)⟩, ⟨.some 10, .none, .mv (.t 50)⟩, ⟨.some 11, .none, .mv (.t 51)⟩, ⟨.some 12, .none, .mv (.t 52)⟩]) (.keep [1, 2, 7, 10, 12] (.seq 
  (.reg [⟨.some 54, .none, .mv (.t 7)⟩, ⟨.some 55, .none, .mv (.t 2)⟩, ⟨.some 56, .none, .call (.c (.fn 14 [])) [.t 54, .t 55]⟩, ⟨.some 53, .none, .mv (.t 56)⟩, ⟨.some 57, .none, .extract 
  0 (.t 53)⟩, ⟨.some 58, .none, .extract 1 (.t 53)⟩, ⟨.some 59, .none, .extract 2 (.t 53)⟩, ⟨.some 13, .none, .mv (.t 57)⟩, ⟨.some 14, .none, .mv (.t 58)⟩, ⟨.some 15, .none, .mv (.t 
  59)⟩]) (.keep [1, 2, 7, 10, 12, 13, 15] (.seq (.reg [⟨.some 61, .none, .mv (.t 7)⟩, ⟨.some 62, .none, .bslice (.agg [.str [], .str [], .bool false]) 3 0 []⟩, ⟨.some 63, .none, .mv 
  (.t 1)⟩, ⟨.some 64, .none, .append 3 40 (.t 62) (.t 63)⟩, ⟨.some 65, .none, .mv (.t 2)⟩, ⟨.some 66, .none, .append 3 40 (.t 64) (.t 65)⟩, ⟨.some 67, .none, .call (.c (.fn 14 [])) 
  [.t 61, .t 66]⟩, ⟨.some 60, .none, .mv (.t 67)⟩, ⟨.some 68, .none, .extract 0 (.t 60)⟩, ⟨.some 69, .none, .extract 1 (.t 60)⟩, ⟨.some 70, .none, .extract 2 (.t 60)⟩, ⟨.some 16, .none, 
  .mv (.t 68)⟩, ⟨.some 17, .none, .mv (.t 69)⟩, ⟨.some 18, .none, .mv (.t 70)⟩]) (.keep [1, 7, 10, 12, 13, 15, 16, 18] (.seq (.seq (.reg [⟨.some 71, .none, .mv (.t 12)⟩, ⟨.some 72, 
  .none, .bin .neq (.t 71) (.c (.int .i64 0))⟩, ⟨.some 73, .none, .mv (.t 72)⟩, ⟨.some 74, .some (73, false), .mv (.t 15)⟩, ⟨.some 75, .some (73, false), .bin .neq (.t 74) (.c (.int 
  .i64 0))⟩, ⟨.some 76, .none, .pick (.t 73) (.c (.bool true)) (.t 75)⟩]) (.keep [1, 7, 10, 13, 16, 18, 76] (.cond (.t 76) (.seq (.reg [⟨.some 77, .none, .mv (.t 18)⟩, ⟨.some 78, .none, 
  .bin .neq (.t 77) (.c (.int .i64 0))⟩, ⟨.some 6, .none, .mv (.t 78)⟩]) .ret) .skip))) (.keep [1, 7, 10, 13, 16, 18] (.seq (.seq (.reg [⟨.some 79, .none, .mv (.t 18)⟩, ⟨.some 80, .none, 
  .bin .neq (.t 79) (.c (.int .i64 0))⟩, ⟨.some 81, .none, .mv (.t 80)⟩, ⟨.some 82, .some (81, false), .mv (.t 16)⟩, ⟨.some 83, .some (81, false), .mv (.t 10)⟩, ⟨.some 84, .some (81, 
  false), .mv (.t 13)⟩, ⟨.some 85, .some (81, false), .call (.c (.fn 6 [])) [.t 83, .t 84]⟩, ⟨.some 86, .some (81, false), .call (.c (.fn 15 [])) [.t 82, .t 85]⟩, ⟨.some 87, .some (81, 
  false), .un .not (.t 86)⟩, ⟨.some 88, .none, .pick (.t 81) (.c (.bool true)) (.t 87)⟩]) (.keep [1, 7, 10, 88] (.cond (.t 88) (.seq (.reg [⟨.some 6, .none, .mv (.c (.bool false))⟩]) 
  .ret) .skip))) (.keep [1, 7, 10] (.seq (.seq (.reg [⟨.some 89, .none, .mv (.t 1)⟩, ⟨.some 90, .none, .len .l (.t 89)⟩, ⟨.some 91, .none, .bin .neq (.t 90) (.c (.int .i64 1))⟩]) (.cond 
  (.t 91) (.seq (.reg [⟨.some 6, .none, .mv (.c (.bool true))⟩]) .ret) .skip)) (.keep [1, 7, 10] (.seq (.reg [⟨.some 92, .none, .mv (.t 1)⟩, ⟨.some 93, .none, .iaddr 3 (.t 92) (.c (.int 
  .i64 0))⟩, ⟨.some 94, .none, .load true 3 (.t 93)⟩, ⟨.some 19, .none, .alloc [.str [], .str [], .bool false]⟩, ⟨.none, .none, .store 3 (.t 19) (.t 94)⟩]) (.keep [7, 10, 19] (.seq 
  (.reg [⟨.some 95, .none, .faddr 2 (.t 19)⟩, ⟨.some 96, .none, .load false 1 (.t 95)⟩, ⟨.some 97, .none, .un .not (.t 96)⟩, ⟨.some 98, .none, .faddr 2 (.t 19)⟩, ⟨.none, .none, .store 
  1 (.t 98) (.t 97)⟩]) (.keep [7, 10, 19] (.seq (.reg [⟨.some 100, .none, .mv (.t 7)⟩, ⟨.some 101, .none, .load true 3 (.t 19)⟩, ⟨.some 102, .none, .bslice (.agg [.str [], .str [], 
  .bool false]) 3 1 [(0, .t 101)]⟩, ⟨.some 103, .none, .call (.c (.fn 14 [])) [.t 100, .t 102]⟩, ⟨.some 99, .none, .mv (.t 103)⟩, ⟨.some 104, .none, .extract 0 (.t 99)⟩, ⟨.some 105, 
  .none, .extract 1 (.t 99)⟩, ⟨.some 106, .none, .extract 2 (.t 99)⟩, ⟨.some 20, .none, .mv (.t 104)⟩, ⟨.some 21, .none, .mv (.t 105)⟩, ⟨.some 22, .none, .mv (.t 106)⟩]) (.keep [7, 
  10, 20, 22] (.seq (.reg [⟨.some 107, .none, .mv (.t 22)⟩, ⟨.some 108, .none, .bin .eql (.t 107) (.c (.int .i64 0))⟩, ⟨.some 109, .none, .mv (.t 108)⟩, ⟨.some 110, .some (109, true), 
  .mv (.t 10)⟩, ⟨.some 111, .some (109, true), .mv (.t 20)⟩, ⟨.some 112, .some (109, true), .call (.c (.fn 6 [])) [.t 110, .t 111]⟩, ⟨.some 113, .some (109, true), .len .l (.t 112)⟩, 
  ⟨.some 114, .some (109, true), .bin .eql (.t 113) (.c (.int .i64 0))⟩, ⟨.some 115, .none, .pick (.t 109) (.t 114) (.c (.bool false))⟩, ⟨.some 116, .none, .mv (.t 115)⟩, ⟨.some 117, 
  .some (116, true), .mv (.t 10)⟩, ⟨.some 118, .some (116, true), .mv (.t 20)⟩, ⟨.some 119, .some (116, true), .call (.c (.fn 7 [])) [.t 117, .t 118]⟩, ⟨.some 120, .some (116, true), 
  .len .l (.t 119)⟩, ⟨.some 121, .some (116, true), .mv (.t 7)⟩, ⟨.some 122, .some (116, true), .call (.c (.fn 16 [])) [.t 121]⟩, ⟨.some 123, .some (116, true), .bin .eql (.t 120) (.t 
  122)⟩, ⟨.some 124, .none, .pick (.t 116) (.t 123) (.c (.bool false))⟩, ⟨.some 6, .none, .mv (.t 124)⟩]) (.keep [6] .ret)))))))))))))))))))))))))))), [.tmp 6], false⟩
theorem ok4 : chkFn Go.Proofs.Tryd.prog Go.Proofs.Tryd.f4 fe4 = true := by kernel_rfl
/- "limnograph/limnographlaw35.awake" -/
def fe5 : FE :=
  ⟨0, .seq (.reg [⟨.some 0, .none, .mv (.c (.bool false))⟩]) (.seq (.reg [⟨.some 13, .none, .bslice (.str []) 1 2 [(0, .c (.str [97, 59, 98, 61, 49, 32, 51, 48, 48])), (1, .c (.str [98, 
  32, 51, 48, 48]))]⟩, ⟨.some 14, .none, .call (.c (.fn 13 [])) [.t 13]⟩, ⟨.some 12, .none, .mv (.t 14)⟩, ⟨.some 15, .none, .extract 0 (.t 12)⟩, ⟨.some 16, .none, .extract 1 (.t 12)⟩, 
  ⟨.some 17, .none, .extract 2 (.t 12)⟩, ⟨.some 1, .none, .mv (.t 15)⟩, ⟨.some 2, .none, .mv (.t 16)⟩, ⟨.some 3, .none, .mv (.t 17)⟩]) (.keep [1, 3] (.seq (.reg [⟨.some 19, .none, .bslice 
  (.str []) 1 2 [(0, .c (.str [97, 32, 51, 48, 48])), (1, .c (.str [97, 32, 51, 48, 48]))]⟩, ⟨.some 20, .none, .call (.c (.fn 13 [])) [.t 19]⟩, ⟨.some 18, .none, .mv (.t 20)⟩, ⟨.some 
  21, .none, .extract 0 (.t 18)⟩, ⟨.some 22, .none, .extract 1 (.t 18)⟩, ⟨.some 23, .none, .extract 2 (.t 18)⟩, ⟨.some 4, .none, .mv (.t 21)⟩, ⟨.some 5, .none, .mv (.t 22)⟩, ⟨.some 
  6, .none, .mv (.t 23)⟩]) (.keep [1, 3, 5, 6] (.seq (.seq (.reg [⟨.some 24, .none, .mv (.t 1)⟩, ⟨.some 25, .none, .eqnil .p false (.t 24)⟩, ⟨.some 26, .none, .mv (.t 25)⟩, ⟨.some 27, 
  .some (26, false), .mv (.t 3)⟩, ⟨.some 28, .some (26, false), .bin .neq (.t 27) (.c (.int .i64 0))⟩, ⟨.some 29, .none, .pick (.t 26) (.c (.bool true)) (.t 28)⟩, ⟨.some 30, .none, 
  .mv (.t 29)⟩, ⟨.some 31, .some (30, false), .mv (.t 5)⟩, ⟨.some 32, .some (30, false), .bin .neq (.t 31) (.c (.int .i64 1))⟩, ⟨.some 33, .none, .pick (.t 30) (.c (.bool true)) (.t 
  32)⟩, ⟨.some 34, .none, .mv (.t 33)⟩, ⟨.some 35, .some (34, false), .mv (.t 6)⟩, ⟨.some 36, .some (34, false), .bin .neq (.t 35) (.c (.int .i64 8))⟩, ⟨.some 37, .none, .pick (.t 34) 
  (.c (.bool true)) (.t 36)⟩]) (.keep [1, 37] (.cond (.t 37) (.seq (.reg [⟨.some 0, .none, .mv (.c (.bool false))⟩]) .ret) .skip))) (.keep [1] (.seq (.reg [⟨.some 39, .none, .mv (.t 
  1)⟩, ⟨.some 40, .none, .build [.str [], .str [], .bool false] [(0, (1, .c (.str [98]))), (1, (1, .c (.str [])))]⟩, ⟨.some 41, .none, .bslice (.agg [.str [], .str [], .bool false]) 
  3 1 [(0, .t 40)]⟩, ⟨.some 42, .none, .call (.c (.fn 14 [])) [.t 39, .t 41]⟩, ⟨.some 38, .none, .mv (.t 42)⟩, ⟨.some 43, .none, .extract 0 (.t 38)⟩, ⟨.some 44, .none, .extract 1 (.t 
  38)⟩, ⟨.some 45, .none, .extract 2 (.t 38)⟩, ⟨.some 7, .none, .mv (.t 43)⟩, ⟨.some 8, .none, .mv (.t 44)⟩, ⟨.some 9, .none, .mv (.t 45)⟩]) (.keep [7, 9] (.seq (.reg [⟨.some 47, .none, 
  .bslice (.int .i64 0) 1 3 [(0, .c (.int .i64 3)), (1, .c (.int .i64 4)), (2, .c (.int .i64 9))]⟩, ⟨.some 48, .none, .call (.c (.fn 17 [])) [.t 47]⟩, ⟨.some 46, .none, .mv (.t 48)⟩, 
  ⟨.some 49, .none, .extract 0 (.t 46)⟩, ⟨.some 50, .none, .extract 1 (.t 46)⟩, ⟨.some 10, .none, .mv (.t 49)⟩, ⟨.some 11, .none, .mv (.t 50)⟩]) (.keep [7, 9, 10, 11] (.seq (.reg [⟨.some 
  51, .none, .mv (.t 9)⟩, ⟨.some 52, .none, .bin .eql (.t 51) (.c (.int .i64 0))⟩, ⟨.some 53, .none, .mv (.t 52)⟩, ⟨.some 54, .some (53, true), .mv (.t 7)⟩, ⟨.some 55, .some (53, true), 
  .len .l (.t 54)⟩, ⟨.some 56, .some (53, true), .bin .eql (.t 55) (.c (.int .i64 1))⟩, ⟨.some 57, .none, .pick (.t 53) (.t 56) (.c (.bool false))⟩, ⟨.some 58, .none, .mv (.t 57)⟩, 
  ⟨.some 59, .some (58, true), .mv (.t 7)⟩, ⟨.some 60, .some (58, true), .iaddr 1 (.t 59) (.c (.int .i64 0))⟩, ⟨.some 61, .some (58, true), .load false 1 (.t 60)⟩, ⟨.some 62, .some 
  (58, true), .bin .eql (.t 61) (.c (.int .i64 1))⟩, ⟨.some 63, .none, .pick (.t 58) (.t 62) (.c (.bool false))⟩, ⟨.some 64, .none, .mv (.t 63)⟩, ⟨.some 65, .some (64, true), .mv (.t 
  11)⟩, ⟨.some 66, .some (64, true), .bin .eql (.t 65) (.c (.int .i64 0))⟩, ⟨.some 67, .none, .pick (.t 64) (.t 66) (.c (.bool false))⟩, ⟨.some 68, .none, .mv (.t 67)⟩, ⟨.some 69, .some 
  (68, true), .mv (.t 10)⟩, ⟨.some 70, .some (68, true), .b2s (.t 69)⟩, ⟨.some 71, .some (68, true), .bin .eql (.t 70) (.c (.str [3, 3, 0, 4]))⟩, ⟨.some 72, .none, .pick (.t 68) (.t 
  71) (.c (.bool false))⟩, ⟨.some 73, .none, .mv (.t 72)⟩, ⟨.some 74, .some (73, true), .bslice (.int .i64 0) 1 2 [(0, .c (.int .i64 1)), (1, .c (.int .i64 2))]⟩, ⟨.some 75, .some (73, 
  true), .bslice (.int .i64 0) 1 2 [(0, .c (.int .i64 2)), (1, .c (.int .i64 3))]⟩, ⟨.some 76, .some (73, true), .call (.c (.fn 6 [])) [.t 74, .t 75]⟩, ⟨.some 77, .some (73, true), 
  .len .l (.t 76)⟩, ⟨.some 78, .some (73, true), .bin .eql (.t 77) (.c (.int .i64 1))⟩, ⟨.some 79, .none, .pick (.t 73) (.t 78) (.c (.bool false))⟩, ⟨.some 0, .none, .mv (.t 79)⟩]) 
  (.keep [0] .ret)))))))))))), [.tmp 0], false⟩
theorem ok5 : chkFn Go.Proofs.Tryd.prog Go.Proofs.Tryd.f5 fe5 = true := by kernel_rfl
/- "limnograph/index.And" -/
def fe6 : FE :=
  ⟨2, .seq (.reg [⟨.some 4, .none, .mv (.c (.slc .nil []))⟩]) (.seq (.reg [⟨.some 5, .none, .mv (.t 0)⟩, ⟨.some 6, .none, .mv (.t 1)⟩, ⟨.some 7, .none, .call (.c (.fn 18 [])) [.t 5, .t 
  6, .c (.fn 19 [])]⟩, ⟨.some 4, .none, .mv (.t 7)⟩]) (.keep [4] .ret)), [.tmp 4], false⟩
theorem ok6 : chkFn Go.Proofs.Tryd.prog Go.Proofs.Tryd.f6 fe6 = true := by kernel_rfl
/- "limnograph/index.Or" -/
def fe7 : FE :=
  ⟨2, .seq (.reg [⟨.some 4, .none, .mv (.c (.slc .nil []))⟩]) (.seq (.reg [⟨.some 5, .none, .mv (.t 0)⟩, ⟨.some 6, .none, .mv (.t 1)⟩, ⟨.some 7, .none, .call (.c (.fn 18 [])) [.t 5, .t 
  6, .c (.fn 20 [])]⟩, ⟨.some 4, .none, .mv (.t 7)⟩]) (.keep [4] .ret)), [.tmp 4], false⟩
theorem ok7 : chkFn Go.Proofs.Tryd.prog Go.Proofs.Tryd.f7 fe7 = true := by kernel_rfl
/- "limnograph/index.Less" -/
def fe8 : FE :=
  ⟨2, .seq (.reg [⟨.some 4, .none, .mv (.c (.slc .nil []))⟩]) (.seq (.reg [⟨.some 5, .none, .mv (.t 0)⟩, ⟨.some 6, .none, .mv (.t 1)⟩, ⟨.some 7, .none, .call (.c (.fn 18 [])) [.t 5, .t 
  6, .c (.fn 21 [])]⟩, ⟨.some 4, .none, .mv (.t 7)⟩]) (.keep [4] .ret)), [.tmp 4], false⟩
theorem ok8 : chkFn Go.Proofs.Tryd.prog Go.Proofs.Tryd.f8 fe8 = true := by kernel_rfl
/- "limnograph/limnographref35.Row" -/
def fe9 : FE :=
  ⟨1, .seq (.reg [⟨.some 2, .none, .mv (.c (.bool false))⟩]) (.seq (.seq (.reg [⟨.some 3, .none, .mv (.c (.int .i64 0))⟩]) (.block 0 (.loop [0, 3] (.seq (.seq (.reg [⟨.some 4, .none, 
  .mv (.t 3)⟩, ⟨.some 5, .none, .mv (.t 0)⟩, ⟨.some 6, .none, .len .l (.t 5)⟩, ⟨.some 7, .none, .bin .lss (.t 4) (.t 6)⟩]) (.keep [0, 3, 7] (.cond (.t 7) .skip (.exit 0)))) (.keep [0, 
  3] (.seq (.block 1 (.seq (.dreg [⟨0, ⟨.some 10, .none, .mv (.t 0)⟩, false, 0, 0⟩, ⟨1, ⟨.some 11, .none, .mv (.t 3)⟩, false, 0, 0⟩, ⟨2, ⟨.some 12, .none, .iaddr 1 (.t 10) (.t 11)⟩, 
  false, 0, 0⟩, ⟨3, ⟨.some 13, .none, .load false 1 (.t 12)⟩, false, 21, 21⟩, ⟨4, ⟨.some 14, .none, .bin .lss (.t 13) (.c (.int .i64 0))⟩, false, 0, 0⟩, ⟨5, ⟨.some 15, .none, .mv (.t 
  14)⟩, false, 0, 0⟩, ⟨6, ⟨.some 16, .some (15, false), .mv (.t 3)⟩, false, 0, 0⟩, ⟨7, ⟨.some 17, .some (15, false), .bin .gtr (.t 16) (.c (.int .i64 0))⟩, false, 0, 0⟩, ⟨8, ⟨.some 
  18, .some (15, false), .mv (.t 17)⟩, false, 0, 0⟩, ⟨9, ⟨.some 19, .some (18, true), .mv (.t 0)⟩, false, 0, 0⟩, ⟨10, ⟨.some 20, .some (18, true), .mv (.t 3)⟩, false, 0, 0⟩, ⟨11, ⟨.some 
  21, .some (18, true), .iaddr 1 (.t 19) (.t 20)⟩, false, 0, 0⟩, ⟨12, ⟨.some 22, .some (18, true), .load false 1 (.t 21)⟩, false, 21, 21⟩, ⟨13, ⟨.some 23, .some (18, true), .mv (.t 
  0)⟩, false, 0, 0⟩, ⟨14, ⟨.some 24, .some (18, true), .mv (.t 3)⟩, false, 0, 0⟩, ⟨15, ⟨.some 25, .some (18, true), .bin .sub (.t 24) (.c (.int .i64 1))⟩, false, 0, 0⟩, ⟨16, ⟨.some 
  26, .some (18, true), .iaddr 1 (.t 23) (.t 25)⟩, false, 0, 0⟩, ⟨17, ⟨.some 27, .some (18, true), .load false 1 (.t 26)⟩, false, 21, 21⟩, ⟨18, ⟨.some 28, .some (18, true), .bin .leq 
  (.t 22) (.t 27)⟩, false, 0, 0⟩, ⟨19, ⟨.some 29, .some (15, false), .pick (.t 18) (.t 28) (.c (.bool false))⟩, false, 0, 0⟩, ⟨20, ⟨.some 30, .none, .pick (.t 15) (.c (.bool true)) 
  (.t 29)⟩, false, 0, 0⟩]) (.keep [0, 3, 30] (.cond (.t 30) (.seq (.reg [⟨.some 2, .none, .mv (.c (.bool false))⟩]) .ret) .skip)))) (.keep [0, 3] (.reg [⟨.some 8, .none, .mv (.t 3)⟩, 
  ⟨.some 9, .none, .bin .add (.t 8) (.c (.int .i64 1))⟩, ⟨.some 3, .none, .mv (.t 9)⟩])))))))) (.keep [] (.seq (.reg [⟨.some 2, .none, .mv (.c (.bool true))⟩]) .ret))), [.tmp 2], false⟩
theorem ok9 : chkFn Go.Proofs.Tryd.prog Go.Proofs.Tryd.f9 fe9 = true := by kernel_rfl
/- "limnograph/limnographref35.In" -/
def fe10 : FE :=
  ⟨2, .seq (.reg [⟨.some 4, .none, .mv (.c (.bool false))⟩]) (.seq (.seq (.reg [⟨.some 5, .none, .mv (.c (.int .i64 0))⟩]) (.block 0 (.loop [0, 1, 5] (.seq (.seq (.reg [⟨.some 6, .none, 
  .mv (.t 5)⟩, ⟨.some 7, .none, .mv (.t 0)⟩, ⟨.some 8, .none, .len .l (.t 7)⟩, ⟨.some 9, .none, .bin .lss (.t 6) (.t 8)⟩]) (.keep [0, 1, 5, 9] (.cond (.t 9) .skip (.exit 0)))) (.keep 
  [0, 1, 5] (.seq (.block 1 (.seq (.reg [⟨.some 12, .none, .mv (.t 0)⟩, ⟨.some 13, .none, .mv (.t 5)⟩, ⟨.some 14, .none, .iaddr 1 (.t 12) (.t 13)⟩, ⟨.some 15, .none, .load false 1 (.t 
  14)⟩, ⟨.some 16, .none, .mv (.t 1)⟩, ⟨.some 17, .none, .bin .eql (.t 15) (.t 16)⟩]) (.keep [0, 1, 5, 17] (.cond (.t 17) (.seq (.reg [⟨.some 4, .none, .mv (.c (.bool true))⟩]) .ret) 
  .skip)))) (.keep [0, 1, 5] (.reg [⟨.some 10, .none, .mv (.t 5)⟩, ⟨.some 11, .none, .bin .add (.t 10) (.c (.int .i64 1))⟩, ⟨.some 5, .none, .mv (.t 11)⟩])))))))) (.keep [] (.seq (.reg 
  [⟨.some 4, .none, .mv (.c (.bool false))⟩]) .ret))), [.tmp 4], false⟩
theorem ok10 : chkFn Go.Proofs.Tryd.prog Go.Proofs.Tryd.f10 fe10 = true := by kernel_rfl
/- "limnograph/limnographref34.Few" -/
def fe11 : FE :=
  ⟨2, .seq (.reg [⟨.some 4, .none, .mv (.c (.bool false))⟩]) (.seq (.seq (.reg [⟨.some 6, .none, .mv (.t 0)⟩, ⟨.some 7, .none, .len .l (.t 6)⟩, ⟨.some 8, .none, .mv (.t 1)⟩, ⟨.some 9, 
  .none, .bin .gtr (.t 7) (.t 8)⟩]) (.keep [0, 9] (.cond (.t 9) (.seq (.reg [⟨.some 4, .none, .mv (.c (.bool false))⟩]) .ret) .skip))) (.keep [0] (.seq (.seq (.reg [⟨.some 5, .none, 
  .mv (.c (.int .i64 0))⟩]) (.block 0 (.loop [0, 5] (.seq (.seq (.reg [⟨.some 10, .none, .mv (.t 5)⟩, ⟨.some 11, .none, .mv (.t 0)⟩, ⟨.some 12, .none, .len .l (.t 11)⟩, ⟨.some 13, .none, 
  .bin .lss (.t 10) (.t 12)⟩]) (.keep [0, 5, 13] (.cond (.t 13) .skip (.exit 0)))) (.keep [0, 5] (.seq (.block 1 (.seq (.reg [⟨.some 16, .none, .mv (.t 0)⟩, ⟨.some 17, .none, .mv (.t 
  5)⟩, ⟨.some 18, .none, .iaddr 1 (.t 16) (.t 17)⟩, ⟨.some 19, .none, .load false 1 (.t 18)⟩, ⟨.some 20, .none, .len .s (.t 19)⟩, ⟨.some 21, .none, .bin .gtr (.t 20) (.c (.int .i64 
  500))⟩]) (.keep [0, 5, 21] (.cond (.t 21) (.seq (.reg [⟨.some 4, .none, .mv (.c (.bool false))⟩]) .ret) .skip)))) (.keep [0, 5] (.reg [⟨.some 14, .none, .mv (.t 5)⟩, ⟨.some 15, .none, 
  .bin .add (.t 14) (.c (.int .i64 1))⟩, ⟨.some 5, .none, .mv (.t 15)⟩])))))))) (.keep [] (.seq (.reg [⟨.some 4, .none, .mv (.c (.bool true))⟩]) .ret))))), [.tmp 4], false⟩
theorem ok11 : chkFn Go.Proofs.Tryd.prog Go.Proofs.Tryd.f11 fe11 = true := by kernel_rfl
/- "limnograph/limnographref35.Few" -/
def fe12 : FE :=
  ⟨1, .seq (.reg [⟨.some 2, .none, .mv (.c (.bool false))⟩]) (.seq (.seq (.reg [⟨.some 4, .none, .mv (.t 0)⟩, ⟨.some 5, .none, .len .l (.t 4)⟩, ⟨.some 6, .none, .bin .gtr (.t 5) (.c (.int 
  .i64 20))⟩]) (.cond (.t 6) (.seq (.reg [⟨.some 2, .none, .mv (.c (.bool false))⟩]) .ret) .skip)) (.keep [0] (.seq (.seq (.reg [⟨.some 3, .none, .mv (.c (.int .i64 0))⟩]) (.block 0 
  (.loop [0, 3] (.seq (.seq (.reg [⟨.some 7, .none, .mv (.t 3)⟩, ⟨.some 8, .none, .mv (.t 0)⟩, ⟨.some 9, .none, .len .l (.t 8)⟩, ⟨.some 10, .none, .bin .lss (.t 7) (.t 9)⟩]) (.keep 
  [0, 3, 10] (.cond (.t 10) .skip (.exit 0)))) (.keep [0, 3] (.seq (.block 1 (.seq (.reg [⟨.some 13, .none, .mv (.t 0)⟩, ⟨.some 14, .none, .mv (.t 3)⟩, ⟨.some 15, .none, .iaddr 3 (.t 
  13) (.t 14)⟩, ⟨.some 16, .none, .faddr 1 (.t 15)⟩, ⟨.some 17, .none, .load false 1 (.t 16)⟩, ⟨.some 18, .none, .len .s (.t 17)⟩, ⟨.some 19, .none, .bin .gtr (.t 18) (.c (.int .i64 
  70))⟩, ⟨.some 20, .none, .mv (.t 19)⟩, ⟨.some 21, .some (20, false), .mv (.t 0)⟩, ⟨.some 22, .some (20, false), .mv (.t 3)⟩, ⟨.some 23, .some (20, false), .iaddr 3 (.t 21) (.t 22)⟩, 
  ⟨.some 24, .some (20, false), .faddr 0 (.t 23)⟩, ⟨.some 25, .some (20, false), .load false 1 (.t 24)⟩, ⟨.some 26, .some (20, false), .len .s (.t 25)⟩, ⟨.some 27, .some (20, false), 
  .bin .gtr (.t 26) (.c (.int .i64 100))⟩, ⟨.some 28, .none, .pick (.t 20) (.c (.bool true)) (.t 27)⟩]) (.keep [0, 3, 28] (.cond (.t 28) (.seq (.reg [⟨.some 2, .none, .mv (.c (.bool 
  false))⟩]) .ret) .skip)))) (.keep [0, 3] (.reg [⟨.some 11, .none, .mv (.t 3)⟩, ⟨.some 12, .none, .bin .add (.t 11) (.c (.int .i64 1))⟩, ⟨.some 3, .none, .mv (.t 12)⟩])))))))) (.keep 
  [] (.seq (.reg [⟨.some 2, .none, .mv (.c (.bool true))⟩]) .ret))))), [.tmp 2], false⟩
theorem ok12 : chkFn Go.Proofs.Tryd.prog Go.Proofs.Tryd.f12 fe12 = true := by kernel_rfl
/- "limnograph/index.New" -/
def fe13 : FE :=
  ⟨1, .seq (.reg [⟨.some 2, .none, .mv (.c .nilp)⟩, ⟨.some 3, .none, .mv (.c (.int .i64 0))⟩, ⟨.some 4, .none, .mv (.c (.int .i64 0))⟩]) (.seq (.seq (.reg [⟨.some 13, .none, .mv (.t 0)⟩, 
  ⟨.some 14, .none, .len .l (.t 13)⟩, ⟨.some 15, .none, .bin .gtr (.t 14) (.c (.int .i64 4096))⟩]) (.cond (.t 15) (.seq (.reg [⟨.some 2, .none, .mv (.c .nilp)⟩, ⟨.some 3, .none, .mv 
  (.c (.int .i64 4096))⟩, ⟨.some 4, .none, .mv (.c (.int .i64 4))⟩]) .ret) .skip)) (.keep [0] (.seq (.reg [⟨.some 16, .none, .mkmap⟩, ⟨.some 17, .none, .build [.slc .nil [], .nilm] 
  [(1, (1, .t 16))]⟩, ⟨.some 18, .none, .box (.t 17)⟩, ⟨.some 5, .none, .mv (.t 18)⟩]) (.keep [0, 5] (.seq (.reg [⟨.some 19, .none, .mkmap⟩, ⟨.some 6, .none, .mv (.t 19)⟩]) (.seq (.seq 
  (.reg [⟨.some 20, .none, .mv (.t 0)⟩, ⟨.some 21, .none, .len .l (.t 20)⟩, ⟨.some 22, .none, .mv (.c (.int .i64 0))⟩]) (.block 0 (.loop [5, 6, 20, 21, 22] (.seq (.reg [⟨.some 23, .none, 
  .bin .lss (.t 22) (.t 21)⟩]) (.seq (.cond (.t 23) .skip (.exit 0)) (.keep [5, 6, 20, 21, 22] (.seq (.block 1 (.seq (.reg [⟨.some 24, .none, .mv (.t 22)⟩, ⟨.some 25, .none, .iaddr 
  1 (.t 20) (.t 22)⟩, ⟨.some 26, .none, .load false 1 (.t 25)⟩, ⟨.some 7, .none, .mv (.t 24)⟩, ⟨.some 8, .none, .mv (.t 26)⟩]) (.keep [5, 6, 7, 8, 20, 21, 22] (.seq (.reg [⟨.some 28, 
  .none, .mv (.t 8)⟩, ⟨.some 29, .none, .call (.c (.fn 22 [])) [.t 28]⟩, ⟨.some 27, .none, .mv (.t 29)⟩, ⟨.some 30, .none, .extract 0 (.t 27)⟩, ⟨.some 31, .none, .extract 1 (.t 27)⟩, 
  ⟨.some 9, .none, .alloc [.str [], .slc .nil [], .int .i64 0, .int .i64 0, .bool false, .int .i64 0, .int .i64 0, .int .i64 0, .int .u64 0, .int .u64 0, .int .i64 0, .int .u64 0, .int 
  .i64 0, .slc .nil [], .int .i64 0, .slc .nil [], .int .i64 0]⟩, ⟨.none, .none, .store 17 (.t 9) (.t 30)⟩, ⟨.some 10, .none, .mv (.t 31)⟩]) (.keep [5, 6, 7, 8, 9, 10, 20, 21, 22] (.seq 
  (.seq (.reg [⟨.some 32, .none, .mv (.t 10)⟩, ⟨.some 33, .none, .bin .eql (.t 32) (.c (.int .i64 0))⟩, ⟨.some 34, .none, .mv (.t 33)⟩, ⟨.some 35, .some (34, true), .mv (.t 6)⟩, ⟨.some 
  36, .some (34, true), .mv (.t 8)⟩, ⟨.some 37, .some (34, true), .lookup (.one .str) (.int .i64 0) false (.t 35) (.t 36)⟩, ⟨.some 38, .some (34, true), .bin .gtr (.t 37) (.c (.int 
  .i64 0))⟩, ⟨.some 39, .none, .pick (.t 34) (.t 38) (.c (.bool false))⟩]) (.keep [5, 6, 7, 8, 9, 10, 20, 21, 22, 39] (.cond (.t 39) (.reg [⟨.some 10, .none, .mv (.c (.int .i64 8))⟩]) 
  .skip))) (.keep [5, 6, 7, 8, 9, 10, 20, 21, 22] (.seq (.seq (.reg [⟨.some 40, .none, .mv (.t 10)⟩, ⟨.some 41, .none, .bin .neq (.t 40) (.c (.int .i64 0))⟩]) (.cond (.t 41) (.seq (.reg 
  [⟨.some 42, .none, .mv (.t 7)⟩, ⟨.some 43, .none, .mv (.t 10)⟩, ⟨.some 2, .none, .mv (.c .nilp)⟩, ⟨.some 3, .none, .mv (.t 42)⟩, ⟨.some 4, .none, .mv (.t 43)⟩]) (.keep [2, 3, 4] .ret)) 
  .skip)) (.keep [5, 6, 7, 8, 9, 20, 21, 22] (.seq (.reg [⟨.some 44, .none, .mv (.t 6)⟩, ⟨.some 45, .none, .mv (.t 8)⟩, ⟨.some 46, .none, .lookup (.one .str) (.int .i64 0) false (.t 
  44) (.t 45)⟩, ⟨.some 47, .none, .bin .add (.t 46) (.c (.int .i64 1))⟩, ⟨.none, .none, .mapupd (.one .str) (.t 44) (.t 45) (.t 47)⟩]) (.keep [5, 6, 7, 8, 9, 20, 21, 22] (.seq (.reg 
  [⟨.some 48, .none, .mv (.t 5)⟩, ⟨.some 49, .none, .mv (.t 5)⟩, ⟨.some 50, .none, .nilck (.t 49)⟩, ⟨.some 51, .none, .faddr 0 (.t 50)⟩, ⟨.some 52, .none, .load false 1 (.t 51)⟩, ⟨.some 
  53, .none, .mv (.t 8)⟩, ⟨.some 54, .none, .bslice (.str []) 1 1 [(0, .t 53)]⟩, ⟨.some 55, .none, .append 1 16 (.t 52) (.t 54)⟩, ⟨.some 56, .none, .nilck (.t 48)⟩, ⟨.some 57, .none, 
  .faddr 0 (.t 56)⟩, ⟨.none, .none, .store 1 (.t 57) (.t 55)⟩]) (.keep [5, 6, 7, 9, 20, 21, 22] (.seq (.reg [⟨.some 58, .none, .faddr 1 (.t 9)⟩, ⟨.some 59, .none, .load false 1 (.t 
  58)⟩, ⟨.some 60, .none, .faddr 0 (.t 9)⟩, ⟨.some 61, .none, .load false 1 (.t 60)⟩, ⟨.some 62, .none, .build [.str [], .str []] [(0, (1, .c (.str []))), (1, (1, .t 61))]⟩, ⟨.some 
  63, .none, .bslice (.agg [.str [], .str []]) 2 1 [(0, .t 62)]⟩, ⟨.some 64, .none, .append 2 32 (.t 59) (.t 63)⟩, ⟨.some 65, .none, .len .l (.t 64)⟩, ⟨.some 66, .none, .mv (.c (.int 
  .i64 0))⟩]) (.keep [5, 6, 7, 20, 21, 22, 64, 65, 66] (.block 2 (.loop [5, 6, 7, 20, 21, 22, 64, 65, 66] (.seq (.reg [⟨.some 67, .none, .bin .lss (.t 66) (.t 65)⟩]) (.seq (.cond (.t 
  67) .skip (.exit 2)) (.keep [5, 6, 7, 20, 21, 22, 64, 65, 66] (.seq (.block 3 (.seq (.reg [⟨.some 68, .none, .iaddr 2 (.t 64) (.t 66)⟩, ⟨.some 69, .none, .load true 2 (.t 68)⟩, ⟨.some 
  12, .none, .alloc [.str [], .str []]⟩, ⟨.none, .none, .store 2 (.t 12) (.t 69)⟩]) (.keep [5, 6, 7, 12, 20, 21, 22, 64, 65, 66] (.dreg [⟨0, ⟨.some 70, .none, .mv (.t 5)⟩, false, 0, 
  0⟩, ⟨1, ⟨.some 71, .none, .nilck (.t 70)⟩, false, 0, 0⟩, ⟨2, ⟨.some 72, .none, .faddr 1 (.t 71)⟩, false, 0, 0⟩, ⟨3, ⟨.some 73, .none, .load false 1 (.t 72)⟩, false, 7, 7⟩, ⟨4, ⟨.some 
  74, .none, .load true 2 (.t 12)⟩, false, 7, 7⟩, ⟨5, ⟨.some 76, .none, .mv (.t 7)⟩, false, 0, 0⟩, ⟨6, ⟨.some 77, .none, .bslice (.int .i64 0) 1 1 [(0, .t 76)]⟩, false, 0, 0⟩, ⟨7, ⟨.some 
  78, .none, .mapent (.st [.str, .str]) (.slc .nil []) (.t 73) (.t 74)⟩, true, 0, 0⟩, ⟨8, ⟨.some 75, .none, .extract 0 (.t 78)⟩, false, 0, 0⟩, ⟨10, ⟨.some 80, .none, .extract 1 (.t 
  78)⟩, false, 0, 0⟩, ⟨9, ⟨.some 79, .none, .append 1 8 (.t 75) (.t 77)⟩, true, 0, 0⟩, ⟨11, ⟨.none, .none, .entst (.t 73) (.t 80) (.t 79)⟩, true, 0, 0⟩])))) (.keep [5, 6, 7, 20, 21, 
  22, 64, 65, 66] (.reg [⟨.some 81, .none, .bin .add (.t 66) (.c (.int .i64 1))⟩, ⟨.some 66, .none, .mv (.t 81)⟩]))))))))))))))))))))))) (.keep [5, 6, 20, 21, 22] (.reg [⟨.some 82, 
  .none, .bin .add (.t 22) (.c (.int .i64 1))⟩, ⟨.some 22, .none, .mv (.t 82)⟩]))))))))) (.keep [5] (.seq (.reg [⟨.some 83, .none, .mv (.t 5)⟩, ⟨.some 2, .none, .mv (.t 83)⟩, ⟨.some 
  3, .none, .mv (.c (.int .i64 0))⟩, ⟨.some 4, .none, .mv (.c (.int .i64 0))⟩]) (.keep [2, 3, 4] .ret))))))))), [.tmp 2, .tmp 3, .tmp 4], false⟩
theorem ok13 : chkFn Go.Proofs.Tryd.prog Go.Proofs.Tryd.f13 fe13 = true := by kernel_rfl
/- "(*limnograph/index.Index).Select" -/
def fe14 : FE :=
  ⟨2, .seq (.reg [⟨.some 4, .none, .mv (.c (.slc .nil []))⟩, ⟨.some 5, .none, .mv (.c (.int .i64 0))⟩, ⟨.some 6, .none, .mv (.c (.int .i64 0))⟩]) (.seq (.reg [⟨.some 7, .none, .mv (.c 
  (.slc .nil []))⟩]) (.seq (.seq (.reg [⟨.some 16, .none, .mv (.t 1)⟩, ⟨.some 17, .none, .len .l (.t 16)⟩, ⟨.some 18, .none, .mv (.c (.int .i64 0))⟩]) (.block 0 (.loop [0, 1, 7, 16, 
  17, 18] (.seq (.reg [⟨.some 19, .none, .bin .lss (.t 18) (.t 17)⟩]) (.seq (.cond (.t 19) .skip (.exit 0)) (.keep [0, 1, 7, 16, 17, 18] (.seq (.block 1 (.seq (.reg [⟨.some 20, .none, 
  .mv (.t 18)⟩, ⟨.some 21, .none, .iaddr 3 (.t 16) (.t 18)⟩, ⟨.some 22, .none, .load true 3 (.t 21)⟩, ⟨.some 9, .none, .alloc [.str [], .str [], .bool false]⟩, ⟨.some 8, .none, .mv 
  (.t 20)⟩, ⟨.none, .none, .store 3 (.t 9) (.t 22)⟩]) (.keep [0, 1, 7, 8, 9, 16, 17, 18] (.seq (.reg [⟨.some 24, .none, .faddr 1 (.t 9)⟩, ⟨.some 25, .none, .load false 1 (.t 24)⟩, ⟨.some 
  26, .none, .call (.c (.fn 23 [])) [.t 25]⟩, ⟨.some 23, .none, .mv (.t 26)⟩, ⟨.some 27, .none, .extract 0 (.t 23)⟩, ⟨.some 28, .none, .extract 1 (.t 23)⟩, ⟨.some 29, .none, .extract 
  2 (.t 23)⟩, ⟨.some 10, .none, .mv (.t 27)⟩, ⟨.some 11, .none, .mv (.t 28)⟩, ⟨.some 12, .none, .mv (.t 29)⟩]) (.keep [0, 1, 7, 8, 9, 10, 12, 16, 17, 18] (.seq (.seq (.reg [⟨.some 30, 
  .none, .mv (.t 12)⟩, ⟨.some 31, .none, .bin .eql (.t 30) (.c (.int .i64 0))⟩, ⟨.some 32, .none, .mv (.t 31)⟩, ⟨.some 33, .some (32, true), .faddr 0 (.t 9)⟩, ⟨.some 34, .some (32, 
  true), .load false 1 (.t 33)⟩, ⟨.some 35, .some (32, true), .bin .neq (.t 34) (.c (.str []))⟩, ⟨.some 36, .none, .pick (.t 32) (.t 35) (.c (.bool false))⟩, ⟨.some 37, .none, .mv (.t 
  36)⟩, ⟨.some 38, .some (37, true), .faddr 0 (.t 9)⟩, ⟨.some 39, .some (37, true), .load false 1 (.t 38)⟩, ⟨.some 40, .some (37, true), .call (.c (.fn 24 [])) [.t 39, .c (.slc .nil 
  [])]⟩, ⟨.some 41, .some (37, true), .bin .neq (.t 40) (.c (.int .i64 0))⟩, ⟨.some 42, .none, .pick (.t 37) (.t 41) (.c (.bool false))⟩]) (.keep [0, 1, 7, 8, 10, 12, 16, 17, 18, 42] 
  (.cond (.t 42) (.reg [⟨.some 12, .none, .mv (.c (.int .i64 3))⟩]) .skip))) (.keep [0, 1, 7, 8, 10, 12, 16, 17, 18] (.seq (.seq (.reg [⟨.some 43, .none, .mv (.t 12)⟩, ⟨.some 44, .none, 
  .bin .neq (.t 43) (.c (.int .i64 0))⟩]) (.cond (.t 44) (.seq (.reg [⟨.some 45, .none, .mv (.t 8)⟩, ⟨.some 46, .none, .mv (.t 12)⟩, ⟨.some 4, .none, .mv (.c (.slc .nil []))⟩, ⟨.some 
  5, .none, .mv (.t 45)⟩, ⟨.some 6, .none, .mv (.t 46)⟩]) (.keep [4, 5, 6] .ret)) .skip)) (.keep [0, 1, 7, 10, 16, 17, 18] (.reg [⟨.some 47, .none, .mv (.t 7)⟩, ⟨.some 48, .none, .mv 
  (.t 10)⟩, ⟨.some 49, .none, .bslice .nilp 1 1 [(0, .t 48)]⟩, ⟨.some 50, .none, .append 1 8 (.t 47) (.t 49)⟩, ⟨.some 7, .none, .mv (.t 50)⟩])))))))))) (.keep [0, 1, 7, 16, 17, 18] 
  (.reg [⟨.some 51, .none, .bin .add (.t 18) (.c (.int .i64 1))⟩, ⟨.some 18, .none, .mv (.t 51)⟩]))))))))) (.keep [0, 1, 7] (.seq (.reg [⟨.some 52, .none, .mv (.t 0)⟩, ⟨.some 53, .none, 
  .call (.c (.fn 25 [])) [.t 52]⟩, ⟨.some 13, .none, .mv (.t 53)⟩]) (.seq (.seq (.reg [⟨.some 54, .none, .mv (.t 1)⟩, ⟨.some 55, .none, .len .l (.t 54)⟩, ⟨.some 56, .none, .mv (.c (.int 
  .i64 0))⟩]) (.block 2 (.loop [0, 7, 13, 54, 55, 56] (.seq (.reg [⟨.some 57, .none, .bin .lss (.t 56) (.t 55)⟩]) (.seq (.cond (.t 57) .skip (.exit 2)) (.keep [0, 7, 13, 54, 55, 56] 
  (.seq (.block 3 (.seq (.reg [⟨.some 58, .none, .mv (.t 56)⟩, ⟨.some 59, .none, .iaddr 3 (.t 54) (.t 56)⟩, ⟨.some 60, .none, .load true 3 (.t 59)⟩, ⟨.some 15, .none, .alloc [.str [], 
  .str [], .bool false]⟩, ⟨.some 14, .none, .mv (.t 58)⟩, ⟨.none, .none, .store 3 (.t 15) (.t 60)⟩]) (.keep [0, 7, 13, 14, 15, 54, 55, 56] (.dreg [⟨0, ⟨.some 61, .none, .mv (.t 13)⟩, 
  false, 0, 0⟩, ⟨1, ⟨.some 62, .none, .mv (.t 0)⟩, false, 0, 0⟩, ⟨2, ⟨.some 63, .none, .load true 3 (.t 15)⟩, false, 7, 7⟩, ⟨3, ⟨.some 64, .none, .mv (.t 7)⟩, false, 0, 0⟩, ⟨4, ⟨.some 
  65, .none, .mv (.t 14)⟩, false, 0, 0⟩, ⟨5, ⟨.some 66, .none, .iaddr 1 (.t 64) (.t 65)⟩, false, 0, 0⟩, ⟨6, ⟨.some 67, .none, .load false 1 (.t 66)⟩, false, 7, 7⟩, ⟨7, ⟨.some 68, .none, 
  .call (.c (.fn 26 [])) [.t 62, .t 63, .t 67]⟩, true, 0, 0⟩, ⟨8, ⟨.some 69, .none, .call (.c (.fn 6 [])) [.t 61, .t 68]⟩, true, 0, 0⟩, ⟨9, ⟨.some 13, .none, .mv (.t 69)⟩, false, 0, 
  0⟩])))) (.keep [0, 7, 13, 54, 55, 56] (.reg [⟨.some 70, .none, .bin .add (.t 56) (.c (.int .i64 1))⟩, ⟨.some 56, .none, .mv (.t 70)⟩]))))))))) (.keep [13] (.seq (.reg [⟨.some 71, 
  .none, .mv (.t 13)⟩, ⟨.some 4, .none, .mv (.t 71)⟩, ⟨.some 5, .none, .mv (.c (.int .i64 0))⟩, ⟨.some 6, .none, .mv (.c (.int .i64 0))⟩]) (.keep [4, 5, 6] .ret)))))))), [.tmp 4, .tmp 
  5, .tmp 6], false⟩
theorem ok14 : chkFn Go.Proofs.Tryd.prog Go.Proofs.Tryd.f14 fe14 = true := by kernel_rfl
/- "limnograph/limnographref35.Same" -/
def fe15 : FE :=
  ⟨2, .seq (.reg [⟨.some 4, .none, .mv (.c (.bool false))⟩]) (.seq (.seq (.reg [⟨.some 6, .none, .mv (.t 0)⟩, ⟨.some 7, .none, .len .l (.t 6)⟩, ⟨.some 8, .none, .mv (.t 1)⟩, ⟨.some 9, 
  .none, .len .l (.t 8)⟩, ⟨.some 10, .none, .bin .neq (.t 7) (.t 9)⟩]) (.keep [0, 1, 10] (.cond (.t 10) (.seq (.reg [⟨.some 4, .none, .mv (.c (.bool false))⟩]) .ret) .skip))) (.keep 
  [0, 1] (.seq (.seq (.reg [⟨.some 5, .none, .mv (.c (.int .i64 0))⟩]) (.block 0 (.loop [0, 1, 5] (.seq (.seq (.reg [⟨.some 11, .none, .mv (.t 5)⟩, ⟨.some 12, .none, .mv (.t 0)⟩, ⟨.some 
  13, .none, .len .l (.t 12)⟩, ⟨.some 14, .none, .bin .lss (.t 11) (.t 13)⟩]) (.keep [0, 1, 5, 14] (.cond (.t 14) .skip (.exit 0)))) (.keep [0, 1, 5] (.seq (.block 1 (.seq (.dreg [⟨0, 
  ⟨.some 17, .none, .mv (.t 0)⟩, false, 0, 0⟩, ⟨1, ⟨.some 18, .none, .mv (.t 5)⟩, false, 0, 0⟩, ⟨2, ⟨.some 19, .none, .iaddr 1 (.t 17) (.t 18)⟩, false, 0, 0⟩, ⟨3, ⟨.some 20, .none, 
  .load false 1 (.t 19)⟩, false, 9, 9⟩, ⟨4, ⟨.some 21, .none, .mv (.t 1)⟩, false, 0, 0⟩, ⟨5, ⟨.some 22, .none, .mv (.t 5)⟩, false, 0, 0⟩, ⟨6, ⟨.some 23, .none, .iaddr 1 (.t 21) (.t 
  22)⟩, false, 0, 0⟩, ⟨7, ⟨.some 24, .none, .load false 1 (.t 23)⟩, false, 9, 9⟩, ⟨8, ⟨.some 25, .none, .bin .neq (.t 20) (.t 24)⟩, false, 0, 0⟩]) (.keep [0, 1, 5, 25] (.cond (.t 25) 
  (.seq (.reg [⟨.some 4, .none, .mv (.c (.bool false))⟩]) .ret) .skip)))) (.keep [0, 1, 5] (.reg [⟨.some 15, .none, .mv (.t 5)⟩, ⟨.some 16, .none, .bin .add (.t 15) (.c (.int .i64 1))⟩, 
  ⟨.some 5, .none, .mv (.t 16)⟩])))))))) (.keep [] (.seq (.reg [⟨.some 4, .none, .mv (.c (.bool true))⟩]) .ret))))), [.tmp 4], false⟩
theorem ok15 : chkFn Go.Proofs.Tryd.prog Go.Proofs.Tryd.f15 fe15 = true := by kernel_rfl
/- "(*limnograph/index.Index).Len" -/
def fe16 : FE :=
  ⟨1, .seq (.reg [⟨.some 2, .none, .mv (.c (.int .i64 0))⟩]) (.seq (.reg [⟨.some 3, .none, .mv (.t 0)⟩, ⟨.some 4, .none, .nilck (.t 3)⟩, ⟨.some 5, .none, .faddr 0 (.t 4)⟩, ⟨.some 6, .none, 
  .load false 1 (.t 5)⟩, ⟨.some 7, .none, .len .l (.t 6)⟩, ⟨.some 2, .none, .mv (.t 7)⟩]) (.keep [2] .ret)), [.tmp 2], false⟩
theorem ok16 : chkFn Go.Proofs.Tryd.prog Go.Proofs.Tryd.f16 fe16 = true := by kernel_rfl
/- "limnograph/index.Bytes" -/
def fe17 : FE :=
  ⟨1, .seq (.reg [⟨.some 2, .none, .mv (.c (.slc .nil []))⟩, ⟨.some 3, .none, .mv (.c (.int .i64 0))⟩]) (.seq (.seq (.reg [⟨.some 10, .none, .mv (.t 0)⟩, ⟨.some 11, .none, .len .l (.t 
  10)⟩, ⟨.some 12, .none, .mv (.c (.int .i64 0))⟩]) (.block 0 (.loop [0, 10, 11, 12] (.seq (.reg [⟨.some 13, .none, .bin .lss (.t 12) (.t 11)⟩]) (.seq (.cond (.t 13) .skip (.exit 0)) 
  (.keep [0, 10, 11, 12] (.seq (.block 1 (.seq (.reg [⟨.some 14, .none, .mv (.t 12)⟩, ⟨.some 15, .none, .iaddr 1 (.t 10) (.t 12)⟩, ⟨.some 16, .none, .load false 1 (.t 15)⟩, ⟨.some 4, 
  .none, .mv (.t 14)⟩, ⟨.some 5, .none, .mv (.t 16)⟩]) (.keep [0, 4, 5, 10, 11, 12] (.seq (.reg [⟨.some 17, .none, .mv (.t 5)⟩, ⟨.some 18, .none, .bin .lss (.t 17) (.c (.int .i64 0))⟩, 
  ⟨.some 19, .none, .mv (.t 18)⟩, ⟨.some 20, .some (19, false), .mv (.t 4)⟩, ⟨.some 21, .some (19, false), .bin .gtr (.t 20) (.c (.int .i64 0))⟩, ⟨.some 22, .some (19, false), .mv (.t 
  21)⟩, ⟨.some 23, .some (22, true), .mv (.t 5)⟩, ⟨.some 24, .some (22, true), .mv (.t 0)⟩, ⟨.some 25, .some (22, true), .mv (.t 4)⟩, ⟨.some 26, .some (22, true), .bin .sub (.t 25) 
  (.c (.int .i64 1))⟩, ⟨.some 27, .some (22, true), .iaddr 1 (.t 24) (.t 26)⟩, ⟨.some 28, .some (22, true), .load false 1 (.t 27)⟩, ⟨.some 29, .some (22, true), .bin .leq (.t 23) (.t 
  28)⟩, ⟨.some 30, .some (19, false), .pick (.t 22) (.t 29) (.c (.bool false))⟩, ⟨.some 31, .none, .pick (.t 19) (.c (.bool true)) (.t 30)⟩]) (.keep [0, 10, 11, 12, 31] (.cond (.t 31) 
  (.seq (.reg [⟨.some 2, .none, .mv (.c (.slc .nil []))⟩, ⟨.some 3, .none, .mv (.c (.int .i64 9))⟩]) .ret) .skip)))))) (.keep [0, 10, 11, 12] (.reg [⟨.some 32, .none, .bin .add (.t 
  12) (.c (.int .i64 1))⟩, ⟨.some 12, .none, .mv (.t 32)⟩]))))))))) (.keep [0] (.seq (.seq (.reg [⟨.some 33, .none, .mv (.t 0)⟩, ⟨.some 34, .none, .len .l (.t 33)⟩, ⟨.some 35, .none, 
  .bin .gtr (.t 34) (.c (.int .i64 65536))⟩, ⟨.some 36, .none, .mv (.t 35)⟩, ⟨.some 37, .some (36, false), .mv (.t 0)⟩, ⟨.some 38, .some (36, false), .len .l (.t 37)⟩, ⟨.some 39, .some 
  (36, false), .bin .gtr (.t 38) (.c (.int .i64 0))⟩, ⟨.some 40, .some (36, false), .mv (.t 39)⟩, ⟨.some 41, .some (40, true), .mv (.t 0)⟩, ⟨.some 42, .some (40, true), .mv (.t 0)⟩, 
  ⟨.some 43, .some (40, true), .len .l (.t 42)⟩, ⟨.some 44, .some (40, true), .bin .sub (.t 43) (.c (.int .i64 1))⟩, ⟨.some 45, .some (40, true), .iaddr 1 (.t 41) (.t 44)⟩, ⟨.some 46, 
  .some (40, true), .load false 1 (.t 45)⟩, ⟨.some 47, .some (40, true), .bin .gtr (.t 46) (.c (.int .i64 4503599627370496))⟩, ⟨.some 48, .some (36, false), .pick (.t 40) (.t 47) (.c 
  (.bool false))⟩, ⟨.some 49, .none, .pick (.t 36) (.c (.bool true)) (.t 48)⟩]) (.keep [0, 49] (.cond (.t 49) (.seq (.reg [⟨.some 2, .none, .mv (.c (.slc .nil []))⟩, ⟨.some 3, .none, 
  .mv (.c (.int .i64 4))⟩]) .ret) .skip))) (.keep [0] (.seq (.reg [⟨.some 50, .none, .call (.c (.fn 27 [])) []⟩, ⟨.some 6, .none, .mv (.t 50)⟩]) (.seq (.reg [⟨.some 51, .none, .mv (.t 
  6)⟩, ⟨.some 52, .none, .mv (.t 0)⟩, ⟨.some 53, .none, .len .l (.t 52)⟩, ⟨.some 54, .none, .i2i .u64 (.t 53)⟩, ⟨.some 55, .none, .call (.c (.fn 28 [])) [.t 51, .t 54]⟩]) (.keep [0, 
  6] (.seq (.reg [⟨.some 7, .none, .mv (.c (.int .i64 (-1)))⟩]) (.seq (.seq (.reg [⟨.some 56, .none, .mv (.t 0)⟩, ⟨.some 57, .none, .len .l (.t 56)⟩, ⟨.some 58, .none, .mv (.c (.int 
  .i64 0))⟩]) (.block 2 (.loop [6, 7, 56, 57, 58] (.seq (.reg [⟨.some 59, .none, .bin .lss (.t 58) (.t 57)⟩]) (.seq (.cond (.t 59) .skip (.exit 2)) (.keep [6, 7, 56, 57, 58] (.seq (.block 
  3 (.seq (.reg [⟨.some 60, .none, .iaddr 1 (.t 56) (.t 58)⟩, ⟨.some 61, .none, .load false 1 (.t 60)⟩, ⟨.some 9, .none, .mv (.t 61)⟩]) (.seq (.reg [⟨.some 62, .none, .mv (.t 6)⟩, ⟨.some 
  63, .none, .mv (.t 9)⟩, ⟨.some 64, .none, .mv (.t 7)⟩, ⟨.some 65, .none, .bin .sub (.t 63) (.t 64)⟩, ⟨.some 66, .none, .bin .sub (.t 65) (.c (.int .i64 1))⟩, ⟨.some 67, .none, .i2i 
  .u64 (.t 66)⟩, ⟨.some 68, .none, .call (.c (.fn 28 [])) [.t 62, .t 67]⟩]) (.keep [6, 9, 56, 57, 58] (.reg [⟨.some 69, .none, .mv (.t 9)⟩, ⟨.some 7, .none, .mv (.t 69)⟩]))))) (.keep 
  [6, 7, 56, 57, 58] (.reg [⟨.some 70, .none, .bin .add (.t 58) (.c (.int .i64 1))⟩, ⟨.some 58, .none, .mv (.t 70)⟩]))))))))) (.keep [6] (.seq (.reg [⟨.some 71, .none, .mv (.t 6)⟩, 
  ⟨.some 72, .none, .call (.c (.fn 29 [])) [.t 71]⟩, ⟨.some 2, .none, .mv (.t 72)⟩, ⟨.some 3, .none, .mv (.c (.int .i64 0))⟩]) (.keep [2, 3] .ret)))))))))))), [.tmp 2, .tmp 3], false⟩
theorem ok17 : chkFn Go.Proofs.Tryd.prog Go.Proofs.Tryd.f17 fe17 = true := by kernel_rfl
/- "limnograph/index.merge" -/
def fe18 : FE :=
  ⟨3, .seq (.reg [⟨.some 6, .none, .mv (.c (.slc .nil []))⟩]) (.seq (.reg [⟨.some 7, .none, .mv (.c (.slc .nil []))⟩]) (.seq (.block 0 (.loop [0, 1, 2, 7] (.seq (.seq (.reg [⟨.some 11, 
  .none, .mv (.t 0)⟩, ⟨.some 12, .none, .len .l (.t 11)⟩, ⟨.some 13, .none, .bin .gtr (.t 12) (.c (.int .i64 0))⟩, ⟨.some 14, .none, .mv (.t 13)⟩, ⟨.some 15, .some (14, false), .mv 
  (.t 1)⟩, ⟨.some 16, .some (14, false), .len .l (.t 15)⟩, ⟨.some 17, .some (14, false), .bin .gtr (.t 16) (.c (.int .i64 0))⟩, ⟨.some 18, .none, .pick (.t 14) (.c (.bool true)) (.t 
  17)⟩]) (.keep [0, 1, 2, 7, 18] (.cond (.t 18) .skip (.exit 0)))) (.keep [0, 1, 2, 7] (.block 1 (.seq (.dreg [⟨0, ⟨.some 19, .none, .mv (.t 0)⟩, false, 0, 0⟩, ⟨1, ⟨.some 20, .none, 
  .len .l (.t 19)⟩, false, 18, 18⟩, ⟨2, ⟨.some 21, .none, .bin .gtr (.t 20) (.c (.int .i64 0))⟩, false, 0, 0⟩, ⟨3, ⟨.some 22, .none, .mv (.t 21)⟩, false, 0, 0⟩, ⟨4, ⟨.some 23, .some 
  (22, true), .mv (.t 1)⟩, false, 0, 0⟩, ⟨5, ⟨.some 24, .some (22, true), .len .l (.t 23)⟩, false, 18, 18⟩, ⟨6, ⟨.some 25, .some (22, true), .bin .eql (.t 24) (.c (.int .i64 0))⟩, false, 
  0, 0⟩, ⟨7, ⟨.some 26, .some (22, true), .mv (.t 25)⟩, false, 0, 0⟩, ⟨8, ⟨.some 27, .some (26, false), .mv (.t 0)⟩, false, 0, 0⟩, ⟨9, ⟨.some 28, .some (26, false), .iaddr 1 (.t 27) 
  (.c (.int .i64 0))⟩, false, 0, 0⟩, ⟨10, ⟨.some 29, .some (26, false), .load false 1 (.t 28)⟩, false, 18, 18⟩, ⟨11, ⟨.some 30, .some (26, false), .mv (.t 1)⟩, false, 0, 0⟩, ⟨12, ⟨.some 
  31, .some (26, false), .iaddr 1 (.t 30) (.c (.int .i64 0))⟩, false, 0, 0⟩, ⟨13, ⟨.some 32, .some (26, false), .load false 1 (.t 31)⟩, false, 18, 18⟩, ⟨14, ⟨.some 33, .some (26, false), 
  .bin .leq (.t 29) (.t 32)⟩, false, 0, 0⟩, ⟨15, ⟨.some 34, .some (22, true), .pick (.t 26) (.c (.bool true)) (.t 33)⟩, false, 0, 0⟩, ⟨16, ⟨.some 35, .none, .pick (.t 22) (.t 34) (.c 
  (.bool false))⟩, false, 0, 0⟩, ⟨17, ⟨.some 8, .none, .mv (.t 35)⟩, false, 0, 0⟩]) (.keep [0, 1, 2, 7, 8] (.seq (.dreg [⟨0, ⟨.some 36, .none, .mv (.t 1)⟩, false, 0, 0⟩, ⟨1, ⟨.some 
  37, .none, .len .l (.t 36)⟩, false, 18, 18⟩, ⟨2, ⟨.some 38, .none, .bin .gtr (.t 37) (.c (.int .i64 0))⟩, false, 0, 0⟩, ⟨3, ⟨.some 39, .none, .mv (.t 38)⟩, false, 0, 0⟩, ⟨4, ⟨.some 
  40, .some (39, true), .mv (.t 0)⟩, false, 0, 0⟩, ⟨5, ⟨.some 41, .some (39, true), .len .l (.t 40)⟩, false, 18, 18⟩, ⟨6, ⟨.some 42, .some (39, true), .bin .eql (.t 41) (.c (.int .i64 
  0))⟩, false, 0, 0⟩, ⟨7, ⟨.some 43, .some (39, true), .mv (.t 42)⟩, false, 0, 0⟩, ⟨8, ⟨.some 44, .some (43, false), .mv (.t 1)⟩, false, 0, 0⟩, ⟨9, ⟨.some 45, .some (43, false), .iaddr 
  1 (.t 44) (.c (.int .i64 0))⟩, false, 0, 0⟩, ⟨10, ⟨.some 46, .some (43, false), .load false 1 (.t 45)⟩, false, 18, 18⟩, ⟨11, ⟨.some 47, .some (43, false), .mv (.t 0)⟩, false, 0, 0⟩, 
  ⟨12, ⟨.some 48, .some (43, false), .iaddr 1 (.t 47) (.c (.int .i64 0))⟩, false, 0, 0⟩, ⟨13, ⟨.some 49, .some (43, false), .load false 1 (.t 48)⟩, false, 18, 18⟩, ⟨14, ⟨.some 50, .some 
  (43, false), .bin .leq (.t 46) (.t 49)⟩, false, 0, 0⟩, ⟨15, ⟨.some 51, .some (39, true), .pick (.t 43) (.c (.bool true)) (.t 50)⟩, false, 0, 0⟩, ⟨16, ⟨.some 52, .none, .pick (.t 39) 
  (.t 51) (.c (.bool false))⟩, false, 0, 0⟩, ⟨17, ⟨.some 9, .none, .mv (.t 52)⟩, false, 0, 0⟩]) (.keep [0, 1, 2, 7, 8, 9] (.seq (.reg [⟨.some 10, .none, .mv (.c (.int .i64 0))⟩]) (.seq 
  (.seq (.reg [⟨.some 53, .none, .mv (.t 8)⟩]) (.cond (.t 53) (.dreg [⟨0, ⟨.some 54, .none, .mv (.t 0)⟩, false, 0, 0⟩, ⟨1, ⟨.some 55, .none, .iaddr 1 (.t 54) (.c (.int .i64 0))⟩, false, 
  0, 0⟩, ⟨2, ⟨.some 56, .none, .load false 1 (.t 55)⟩, false, 7, 7⟩, ⟨3, ⟨.some 57, .none, .mv (.t 0)⟩, false, 0, 0⟩, ⟨4, ⟨.some 58, .none, .slslc 1 (.t 57) (.some (.c (.int .i64 1))) 
  .none⟩, false, 0, 0⟩, ⟨5, ⟨.some 10, .none, .mv (.t 56)⟩, false, 0, 0⟩, ⟨6, ⟨.some 0, .none, .mv (.t 58)⟩, false, 0, 0⟩]) .skip)) (.keep [0, 1, 2, 7, 8, 9, 10] (.seq (.seq (.reg [⟨.some 
  59, .none, .mv (.t 9)⟩]) (.cond (.t 59) (.dreg [⟨0, ⟨.some 60, .none, .mv (.t 1)⟩, false, 0, 0⟩, ⟨1, ⟨.some 61, .none, .iaddr 1 (.t 60) (.c (.int .i64 0))⟩, false, 0, 0⟩, ⟨2, ⟨.some 
  62, .none, .load false 1 (.t 61)⟩, false, 7, 7⟩, ⟨3, ⟨.some 63, .none, .mv (.t 1)⟩, false, 0, 0⟩, ⟨4, ⟨.some 64, .none, .slslc 1 (.t 63) (.some (.c (.int .i64 1))) .none⟩, false, 
  0, 0⟩, ⟨5, ⟨.some 10, .none, .mv (.t 62)⟩, false, 0, 0⟩, ⟨6, ⟨.some 1, .none, .mv (.t 64)⟩, false, 0, 0⟩]) .skip)) (.keep [0, 1, 2, 7, 8, 9, 10] (.seq (.reg [⟨.some 65, .none, .mv 
  (.t 2)⟩, ⟨.some 66, .none, .mv (.t 8)⟩, ⟨.some 67, .none, .mv (.t 9)⟩, ⟨.some 68, .none, .call (.t 65) [.t 66, .t 67]⟩]) (.keep [0, 1, 2, 7, 10, 68] (.cond (.t 68) (.reg [⟨.some 69, 
  .none, .mv (.t 7)⟩, ⟨.some 70, .none, .mv (.t 10)⟩, ⟨.some 71, .none, .bslice (.int .i64 0) 1 1 [(0, .t 70)]⟩, ⟨.some 72, .none, .append 1 8 (.t 69) (.t 71)⟩, ⟨.some 7, .none, .mv 
  (.t 72)⟩]) .skip))))))))))))))))) (.keep [7] (.seq (.reg [⟨.some 73, .none, .mv (.t 7)⟩, ⟨.some 6, .none, .mv (.t 73)⟩]) .ret)))), [.tmp 6], false⟩
theorem ok18 : chkFn Go.Proofs.Tryd.prog Go.Proofs.Tryd.f18 fe18 = true := by kernel_rfl
/- "limnograph/index.And$1" -/
def fe19 : FE :=
  ⟨2, .seq (.reg [⟨.some 4, .none, .mv (.c (.bool false))⟩]) (.seq (.reg [⟨.some 5, .none, .mv (.t 0)⟩, ⟨.some 6, .none, .mv (.t 5)⟩, ⟨.some 7, .some (6, true), .mv (.t 1)⟩, ⟨.some 8, 
  .none, .pick (.t 6) (.t 7) (.c (.bool false))⟩, ⟨.some 4, .none, .mv (.t 8)⟩]) (.keep [4] .ret)), [.tmp 4], false⟩
theorem ok19 : chkFn Go.Proofs.Tryd.prog Go.Proofs.Tryd.f19 fe19 = true := by kernel_rfl
/- "limnograph/index.Or$1" -/
def fe20 : FE :=
  ⟨2, .seq (.reg [⟨.some 4, .none, .mv (.c (.bool false))⟩]) (.seq (.reg [⟨.some 4, .none, .mv (.c (.bool true))⟩]) .ret), [.tmp 4], false⟩
theorem ok20 : chkFn Go.Proofs.Tryd.prog Go.Proofs.Tryd.f20 fe20 = true := by kernel_rfl
/- "limnograph/index.Less$1" -/
def fe21 : FE :=
  ⟨2, .seq (.reg [⟨.some 4, .none, .mv (.c (.bool false))⟩]) (.seq (.reg [⟨.some 5, .none, .mv (.t 1)⟩, ⟨.some 6, .none, .un .not (.t 5)⟩, ⟨.some 4, .none, .mv (.t 6)⟩]) .ret), [.tmp 
  4], false⟩
theorem ok21 : chkFn Go.Proofs.Tryd.prog Go.Proofs.Tryd.f21 fe21 = true := by kernel_rfl
/- "limnograph/chunk.Series" -/
def fe22 : FE :=
  ⟨1, .seq (.reg [⟨.some 2, .none, .alloc [.str [], .slc .nil [], .int .i64 0, .int .i64 0, .bool false, .int .i64 0, .int .i64 0, .int .i64 0, .int .u64 0, .int .u64 0, .int .i64 0, 
  .int .u64 0, .int .i64 0, .slc .nil [], .int .i64 0, .slc .nil [], .int .i64 0]⟩, ⟨.some 3, .none, .mv (.c (.int .i64 0))⟩]) (.seq (.reg [⟨.some 14, .none, .mv (.t 0)⟩, ⟨.some 15, 
  .none, .call (.c (.fn 30 [])) [.t 14, .c (.str [32])]⟩, ⟨.some 13, .none, .mv (.t 15)⟩, ⟨.some 16, .none, .extract 0 (.t 13)⟩, ⟨.some 17, .none, .extract 1 (.t 13)⟩, ⟨.some 18, .none, 
  .extract 2 (.t 13)⟩, ⟨.some 4, .none, .mv (.t 16)⟩, ⟨.some 5, .none, .mv (.t 17)⟩, ⟨.some 6, .none, .mv (.t 18)⟩]) (.keep [2, 4, 5, 6] (.seq (.reg [⟨.some 20, .none, .mv (.t 4)⟩, 
  ⟨.some 21, .none, .call (.c (.fn 31 [])) [.t 20]⟩, ⟨.some 19, .none, .mv (.t 21)⟩, ⟨.some 22, .none, .extract 0 (.t 19)⟩, ⟨.some 23, .none, .extract 1 (.t 19)⟩, ⟨.some 24, .none, 
  .extract 2 (.t 19)⟩, ⟨.some 25, .none, .extract 3 (.t 19)⟩, ⟨.some 7, .none, .mv (.t 22)⟩, ⟨.some 8, .none, .mv (.t 23)⟩, ⟨.some 9, .none, .mv (.t 24)⟩, ⟨.some 10, .none, .mv (.t 
  25)⟩]) (.keep [2, 5, 6, 7, 8, 10] (.seq (.seq (.reg [⟨.some 26, .none, .mv (.t 6)⟩, ⟨.some 27, .none, .un .not (.t 26)⟩, ⟨.some 28, .none, .mv (.t 27)⟩, ⟨.some 29, .some (28, false), 
  .mv (.t 10)⟩, ⟨.some 30, .some (28, false), .bin .neq (.t 29) (.c (.int .i64 0))⟩, ⟨.some 31, .none, .pick (.t 28) (.c (.bool true)) (.t 30)⟩, ⟨.some 32, .none, .mv (.t 31)⟩, ⟨.some 
  33, .some (32, false), .mv (.t 5)⟩, ⟨.some 34, .some (32, false), .len .s (.t 33)⟩, ⟨.some 35, .some (32, false), .bin .neq (.t 34) (.c (.int .i64 3))⟩, ⟨.some 36, .none, .pick (.t 
  32) (.c (.bool true)) (.t 35)⟩, ⟨.some 37, .none, .mv (.t 36)⟩, ⟨.some 38, .some (37, false), .mv (.t 5)⟩, ⟨.some 39, .some (37, false), .idxs (.t 38) (.c (.int .i64 2))⟩, ⟨.some 
  40, .some (37, false), .bin .neq (.t 39) (.c (.int .u8 48))⟩, ⟨.some 41, .some (37, false), .mv (.t 40)⟩, ⟨.some 42, .some (41, true), .mv (.t 5)⟩, ⟨.some 43, .some (41, true), .idxs 
  (.t 42) (.c (.int .i64 2))⟩, ⟨.some 44, .some (41, true), .bin .neq (.t 43) (.c (.int .u8 49))⟩, ⟨.some 45, .some (37, false), .pick (.t 41) (.t 44) (.c (.bool false))⟩, ⟨.some 46, 
  .none, .pick (.t 37) (.c (.bool true)) (.t 45)⟩]) (.keep [2, 5, 7, 8, 46] (.cond (.t 46) (.seq (.reg [⟨.some 47, .none, .build [.str [], .slc .nil [], .int .i64 0, .int .i64 0, .bool 
  false, .int .i64 0, .int .i64 0, .int .i64 0, .int .u64 0, .int .u64 0, .int .i64 0, .int .u64 0, .int .i64 0, .slc .nil [], .int .i64 0, .slc .nil [], .int .i64 0] []⟩, ⟨.none, .none, 
  .store 17 (.t 2) (.t 47)⟩, ⟨.some 3, .none, .mv (.c (.int .i64 3))⟩]) .ret) .skip))) (.keep [2, 5, 7, 8] (.seq (.dreg [⟨0, ⟨.some 48, .none, .mv (.t 7)⟩, false, 0, 0⟩, ⟨1, ⟨.some 
  49, .none, .mv (.t 8)⟩, false, 0, 0⟩, ⟨2, ⟨.some 50, .none, .mv (.t 5)⟩, false, 0, 0⟩, ⟨3, ⟨.some 51, .none, .idxs (.t 50) (.c (.int .i64 0))⟩, false, 0, 0⟩, ⟨4, ⟨.some 52, .none, 
  .i2i .i64 (.t 51)⟩, false, 0, 0⟩, ⟨5, ⟨.some 53, .none, .bin .sub (.t 52) (.c (.int .i64 48))⟩, false, 0, 0⟩, ⟨6, ⟨.some 54, .none, .mv (.t 5)⟩, false, 0, 0⟩, ⟨7, ⟨.some 55, .none, 
  .idxs (.t 54) (.c (.int .i64 1))⟩, false, 0, 0⟩, ⟨8, ⟨.some 56, .none, .i2i .i64 (.t 55)⟩, false, 0, 0⟩, ⟨9, ⟨.some 57, .none, .bin .sub (.t 56) (.c (.int .i64 48))⟩, false, 0, 0⟩, 
  ⟨10, ⟨.some 58, .none, .mv (.t 5)⟩, false, 0, 0⟩, ⟨11, ⟨.some 59, .none, .idxs (.t 58) (.c (.int .i64 2))⟩, false, 0, 0⟩, ⟨12, ⟨.some 60, .none, .bin .eql (.t 59) (.c (.int .u8 49))⟩, 
  false, 0, 0⟩, ⟨13, ⟨.some 61, .none, .build [.str [], .slc .nil [], .int .i64 0, .int .i64 0, .bool false, .int .i64 0, .int .i64 0, .int .i64 0, .int .u64 0, .int .u64 0, .int .i64 
  0, .int .u64 0, .int .i64 0, .slc .nil [], .int .i64 0, .slc .nil [], .int .i64 0] [(0, (1, .t 48)), (1, (1, .t 49)), (2, (1, .t 53)), (3, (1, .t 57)), (4, (1, .t 60))]⟩, false, 0, 
  0⟩, ⟨14, ⟨.some 11, .none, .alloc [.str [], .slc .nil [], .int .i64 0, .int .i64 0, .bool false, .int .i64 0, .int .i64 0, .int .i64 0, .int .u64 0, .int .u64 0, .int .i64 0, .int 
  .u64 0, .int .i64 0, .slc .nil [], .int .i64 0, .slc .nil [], .int .i64 0]⟩, false, 0, 0⟩, ⟨15, ⟨.none, .none, .store 17 (.t 11) (.t 61)⟩, true, 0, 0⟩]) (.keep [2, 11] (.seq (.reg 
  [⟨.some 62, .none, .load true 17 (.t 11)⟩, ⟨.some 12, .none, .alloc [.str [], .slc .nil [], .int .i64 0, .int .i64 0, .bool false, .int .i64 0, .int .i64 0, .int .i64 0, .int .u64 
  0, .int .u64 0, .int .i64 0, .int .u64 0, .int .i64 0, .slc .nil [], .int .i64 0, .slc .nil [], .int .i64 0]⟩, ⟨.none, .none, .store 17 (.t 12) (.t 62)⟩]) (.seq (.seq (.reg [⟨.some 
  63, .none, .faddr 6 (.t 12)⟩, ⟨.none, .none, .store 1 (.t 63) (.c (.int .i64 1))⟩]) (.seq (.reg [⟨.some 64, .none, .faddr 2 (.t 12)⟩, ⟨.some 65, .none, .load false 1 (.t 64)⟩, ⟨.some 
  66, .none, .bin .eql (.t 65) (.c (.int .i64 3))⟩]) (.cond (.t 66) (.reg [⟨.some 67, .none, .faddr 5 (.t 12)⟩, ⟨.none, .none, .store 1 (.t 67) (.c (.int .i64 1))⟩]) .skip))) (.keep 
  [2, 11, 12] (.seq (.seq (.reg [⟨.some 68, .none, .load true 17 (.t 12)⟩, ⟨.some 69, .none, .call (.c (.fn 32 [])) [.t 68]⟩, ⟨.some 70, .none, .bin .neq (.t 69) (.c (.int .i64 0))⟩]) 
  (.cond (.t 70) (.seq (.reg [⟨.some 71, .none, .build [.str [], .slc .nil [], .int .i64 0, .int .i64 0, .bool false, .int .i64 0, .int .i64 0, .int .i64 0, .int .u64 0, .int .u64 0, 
  .int .i64 0, .int .u64 0, .int .i64 0, .slc .nil [], .int .i64 0, .slc .nil [], .int .i64 0] []⟩, ⟨.none, .none, .store 17 (.t 2) (.t 71)⟩, ⟨.some 3, .none, .mv (.c (.int .i64 3))⟩]) 
  .ret) .skip)) (.keep [2, 11] (.seq (.reg [⟨.some 72, .none, .load true 17 (.t 11)⟩, ⟨.none, .none, .store 17 (.t 2) (.t 72)⟩, ⟨.some 3, .none, .mv (.c (.int .i64 0))⟩]) .ret)))))))))))))), 
  [.cell 2 17 true, .tmp 3], true⟩
theorem ok22 : chkFn Go.Proofs.Tryd.prog Go.Proofs.Tryd.f22 fe22 = true := by kernel_rfl
/- "limnograph/glob.Compile" -/
def fe23 : FE :=
  ⟨1, .seq (.reg [⟨.some 2, .none, .mv (.c .nilp)⟩, ⟨.some 3, .none, .mv (.c (.int .i64 0))⟩, ⟨.some 4, .none, .mv (.c (.int .i64 0))⟩]) (.seq (.seq (.reg [⟨.some 9, .none, .mv (.t 0)⟩, 
  ⟨.some 10, .none, .len .s (.t 9)⟩, ⟨.some 11, .none, .bin .gtr (.t 10) (.c (.int .i64 64))⟩]) (.cond (.t 11) (.seq (.reg [⟨.some 2, .none, .mv (.c .nilp)⟩, ⟨.some 3, .none, .mv (.c 
  (.int .i64 64))⟩, ⟨.some 4, .none, .mv (.c (.int .i64 4))⟩]) .ret) .skip)) (.keep [0] (.seq (.reg [⟨.some 12, .none, .mv (.t 0)⟩, ⟨.some 13, .none, .build [.str [], .slc .nil []] 
  [(0, (1, .t 12))]⟩, ⟨.some 14, .none, .box (.t 13)⟩, ⟨.some 2, .none, .mv (.t 14)⟩]) (.keep [0, 2] (.seq (.seq (.reg [⟨.some 5, .none, .mv (.c (.int .i64 0))⟩]) (.block 0 (.loop [0, 
  2, 5] (.seq (.seq (.reg [⟨.some 15, .none, .mv (.t 5)⟩, ⟨.some 16, .none, .mv (.t 0)⟩, ⟨.some 17, .none, .len .s (.t 16)⟩, ⟨.some 18, .none, .bin .lss (.t 15) (.t 17)⟩]) (.keep [0, 
  2, 5, 18] (.cond (.t 18) .skip (.exit 0)))) (.keep [0, 2, 5] (.block 1 (.seq (.reg [⟨.some 20, .none, .mv (.t 0)⟩, ⟨.some 21, .none, .mv (.t 5)⟩, ⟨.some 22, .none, .call (.c (.fn 
  33 [])) [.t 20, .t 21]⟩, ⟨.some 19, .none, .mv (.t 22)⟩, ⟨.some 23, .none, .extract 0 (.t 19)⟩, ⟨.some 24, .none, .extract 1 (.t 19)⟩, ⟨.some 25, .none, .extract 2 (.t 19)⟩, ⟨.some 
  6, .none, .alloc [.int .i64 0, .int .u64 0, .int .u64 0, .int .u64 0, .int .u64 0, .bool false, .int .u8 0]⟩, ⟨.some 8, .none, .alloc [.int .i64 0, .int .i64 0]⟩, ⟨.none, .none, .store 
  7 (.t 6) (.t 23)⟩, ⟨.some 7, .none, .mv (.t 24)⟩, ⟨.none, .none, .store 2 (.t 8) (.t 25)⟩]) (.keep [0, 2, 5, 6, 7, 8] (.seq (.seq (.reg [⟨.some 26, .none, .load true 2 (.t 8)⟩, ⟨.some 
  27, .none, .load true 2 (.g 0)⟩, ⟨.some 28, .none, .eqs [.int, .int] true (.t 26) (.t 27)⟩]) (.cond (.t 28) (.seq (.dreg [⟨0, ⟨.some 29, .none, .faddr 0 (.t 8)⟩, false, 0, 0⟩, ⟨1, 
  ⟨.some 30, .none, .load false 1 (.t 29)⟩, false, 7, 7⟩, ⟨2, ⟨.some 31, .none, .faddr 1 (.t 8)⟩, false, 0, 0⟩, ⟨3, ⟨.some 32, .none, .load false 1 (.t 31)⟩, false, 7, 7⟩, ⟨4, ⟨.some 
  2, .none, .mv (.c .nilp)⟩, false, 0, 0⟩, ⟨5, ⟨.some 3, .none, .mv (.t 30)⟩, false, 0, 0⟩, ⟨6, ⟨.some 4, .none, .mv (.t 32)⟩, false, 0, 0⟩]) (.keep [2, 3, 4] .ret)) .skip)) (.keep 
  [0, 2, 5, 6, 7] (.seq (.dreg [⟨0, ⟨.some 33, .none, .mv (.t 2)⟩, false, 0, 0⟩, ⟨1, ⟨.some 34, .none, .mv (.t 2)⟩, false, 0, 0⟩, ⟨2, ⟨.some 35, .none, .nilck (.t 34)⟩, false, 0, 0⟩, 
  ⟨3, ⟨.some 36, .none, .faddr 1 (.t 35)⟩, false, 0, 0⟩, ⟨4, ⟨.some 37, .none, .load false 1 (.t 36)⟩, false, 7, 7⟩, ⟨5, ⟨.some 38, .none, .load true 7 (.t 6)⟩, false, 7, 7⟩, ⟨6, ⟨.some 
  39, .none, .bslice (.agg [.int .i64 0, .int .u64 0, .int .u64 0, .int .u64 0, .int .u64 0, .bool false, .int .u8 0]) 7 1 [(0, .t 38)]⟩, false, 0, 0⟩, ⟨7, ⟨.some 40, .none, .append 
  7 48 (.t 37) (.t 39)⟩, true, 0, 0⟩, ⟨8, ⟨.some 41, .none, .nilck (.t 33)⟩, false, 0, 0⟩, ⟨9, ⟨.some 42, .none, .faddr 1 (.t 41)⟩, false, 0, 0⟩, ⟨10, ⟨.none, .none, .store 1 (.t 42) 
  (.t 40)⟩, true, 0, 0⟩]) (.keep [0, 2, 5, 7] (.reg [⟨.some 43, .none, .mv (.t 5)⟩, ⟨.some 44, .none, .mv (.t 7)⟩, ⟨.some 45, .none, .bin .add (.t 43) (.t 44)⟩, ⟨.some 5, .none, .mv 
  (.t 45)⟩]))))))))))))) (.keep [2] (.seq (.reg [⟨.some 46, .none, .mv (.t 2)⟩, ⟨.some 2, .none, .mv (.t 46)⟩, ⟨.some 3, .none, .mv (.c (.int .i64 0))⟩, ⟨.some 4, .none, .mv (.c (.int 
  .i64 0))⟩]) (.keep [2, 3, 4] .ret)))))))), [.tmp 2, .tmp 3, .tmp 4], false⟩
theorem ok23 : chkFn Go.Proofs.Tryd.prog Go.Proofs.Tryd.f23 fe23 = true := by kernel_rfl
/- "limnograph/label.Check" -/
def fe24 : FE :=
  ⟨2, .seq (.reg [⟨.some 4, .none, .mv (.c (.int .i64 0))⟩]) (.seq (.seq (.reg [⟨.some 7, .none, .mv (.t 0)⟩, ⟨.some 8, .none, .call (.c (.fn 34 [])) [.t 7]⟩, ⟨.some 9, .none, .un .not 
  (.t 8)⟩]) (.cond (.t 9) (.seq (.reg [⟨.some 4, .none, .mv (.c (.int .i64 3))⟩]) .ret) .skip)) (.keep [1] (.seq (.seq (.reg [⟨.some 10, .none, .mv (.t 1)⟩, ⟨.some 11, .none, .len .l 
  (.t 10)⟩, ⟨.some 12, .none, .bin .gtr (.t 11) (.c (.int .i64 4))⟩]) (.cond (.t 12) (.seq (.reg [⟨.some 4, .none, .mv (.c (.int .i64 4))⟩]) .ret) .skip)) (.keep [1] (.seq (.seq (.reg 
  [⟨.some 13, .none, .mv (.t 1)⟩, ⟨.some 14, .none, .len .l (.t 13)⟩, ⟨.some 15, .none, .mv (.c (.int .i64 0))⟩]) (.block 0 (.loop [1, 13, 14, 15] (.seq (.reg [⟨.some 16, .none, .bin 
  .lss (.t 15) (.t 14)⟩]) (.seq (.cond (.t 16) .skip (.exit 0)) (.keep [1, 13, 14, 15] (.seq (.block 1 (.seq (.reg [⟨.some 17, .none, .mv (.t 15)⟩, ⟨.some 18, .none, .iaddr 2 (.t 13) 
  (.t 15)⟩, ⟨.some 19, .none, .load true 2 (.t 18)⟩, ⟨.some 6, .none, .alloc [.str [], .str []]⟩, ⟨.some 5, .none, .mv (.t 17)⟩, ⟨.none, .none, .store 2 (.t 6) (.t 19)⟩]) (.keep [1, 
  5, 6, 13, 14, 15] (.seq (.seq (.reg [⟨.some 20, .none, .faddr 0 (.t 6)⟩, ⟨.some 21, .none, .load false 1 (.t 20)⟩, ⟨.some 22, .none, .call (.c (.fn 34 [])) [.t 21]⟩, ⟨.some 23, .none, 
  .un .not (.t 22)⟩, ⟨.some 24, .none, .mv (.t 23)⟩, ⟨.some 25, .some (24, false), .faddr 1 (.t 6)⟩, ⟨.some 26, .some (24, false), .load false 1 (.t 25)⟩, ⟨.some 27, .some (24, false), 
  .call (.c (.fn 35 [])) [.t 26]⟩, ⟨.some 28, .some (24, false), .un .not (.t 27)⟩, ⟨.some 29, .none, .pick (.t 24) (.c (.bool true)) (.t 28)⟩]) (.keep [1, 5, 6, 13, 14, 15, 29] (.cond 
  (.t 29) (.seq (.reg [⟨.some 4, .none, .mv (.c (.int .i64 3))⟩]) .ret) .skip))) (.keep [1, 5, 6, 13, 14, 15] (.seq (.reg [⟨.some 30, .none, .mv (.t 1)⟩, ⟨.some 31, .none, .mv (.t 5)⟩, 
  ⟨.some 32, .none, .slslc 2 (.t 30) .none (.some (.t 31))⟩, ⟨.some 33, .none, .mkfn 37 [.t 6]⟩, ⟨.some 34, .none, .call (.c (.fn 36 [])) [.t 32, .t 33]⟩]) (.keep [1, 13, 14, 15, 34] 
  (.cond (.t 34) (.seq (.reg [⟨.some 4, .none, .mv (.c (.int .i64 8))⟩]) .ret) .skip)))))))) (.keep [1, 13, 14, 15] (.reg [⟨.some 35, .none, .bin .add (.t 15) (.c (.int .i64 1))⟩, ⟨.some 
  15, .none, .mv (.t 35)⟩]))))))))) (.keep [] (.seq (.reg [⟨.some 4, .none, .mv (.c (.int .i64 0))⟩]) .ret))))))), [.tmp 4], false⟩
theorem ok24 : chkFn Go.Proofs.Tryd.prog Go.Proofs.Tryd.f24 fe24 = true := by kernel_rfl
/- "(*limnograph/index.Index).all" -/
def fe25 : FE :=
  ⟨1, .seq (.reg [⟨.some 2, .none, .mv (.c (.slc .nil []))⟩]) (.seq (.reg [⟨.some 5, .none, .mv (.t 0)⟩, ⟨.some 6, .none, .nilck (.t 5)⟩, ⟨.some 7, .none, .faddr 0 (.t 6)⟩, ⟨.some 8, 
  .none, .load false 1 (.t 7)⟩, ⟨.some 9, .none, .len .l (.t 8)⟩, ⟨.some 10, .none, .mkslice (.int .i64 0) 1 8 (.t 9) (.t 9)⟩, ⟨.some 3, .none, .mv (.t 10)⟩]) (.keep [3] (.seq (.seq 
  (.reg [⟨.some 11, .none, .mv (.t 3)⟩, ⟨.some 12, .none, .len .l (.t 11)⟩, ⟨.some 13, .none, .mv (.c (.int .i64 0))⟩]) (.block 0 (.loop [3, 12, 13] (.seq (.reg [⟨.some 14, .none, .bin 
  .lss (.t 13) (.t 12)⟩]) (.seq (.cond (.t 14) .skip (.exit 0)) (.keep [3, 12, 13] (.seq (.block 1 (.seq (.reg [⟨.some 15, .none, .mv (.t 13)⟩, ⟨.some 4, .none, .mv (.t 15)⟩]) (.reg 
  [⟨.some 16, .none, .mv (.t 3)⟩, ⟨.some 17, .none, .mv (.t 4)⟩, ⟨.some 18, .none, .mv (.t 4)⟩, ⟨.some 19, .none, .iaddr 1 (.t 16) (.t 17)⟩, ⟨.none, .none, .store 1 (.t 19) (.t 18)⟩]))) 
  (.keep [3, 12, 13] (.reg [⟨.some 20, .none, .bin .add (.t 13) (.c (.int .i64 1))⟩, ⟨.some 13, .none, .mv (.t 20)⟩]))))))))) (.keep [3] (.seq (.reg [⟨.some 21, .none, .mv (.t 3)⟩, 
  ⟨.some 2, .none, .mv (.t 21)⟩]) .ret))))), [.tmp 2], false⟩
theorem ok25 : chkFn Go.Proofs.Tryd.prog Go.Proofs.Tryd.f25 fe25 = true := by kernel_rfl
/- "(*limnograph/index.Index).ask" -/
def fe26 : FE :=
  ⟨3, .seq (.reg [⟨.some 4, .none, .box (.t 1)⟩, ⟨.some 6, .none, .mv (.c (.slc .nil []))⟩]) (.seq (.reg [⟨.some 7, .none, .mv (.c (.slc .nil []))⟩, ⟨.some 8, .none, .mv (.c (.slc .nil 
  []))⟩]) (.seq (.seq (.reg [⟨.some 12, .none, .mv (.t 0)⟩, ⟨.some 13, .none, .faddr 0 (.t 4)⟩, ⟨.some 14, .none, .load false 1 (.t 13)⟩, ⟨.some 15, .none, .call (.c (.fn 38 [])) [.t 
  12, .t 14]⟩, ⟨.some 16, .none, .len .l (.t 15)⟩, ⟨.some 17, .none, .mv (.c (.int .i64 0))⟩]) (.keep [0, 2, 4, 7, 8, 15, 16, 17] (.block 0 (.loop [0, 2, 4, 7, 8, 15, 16, 17] (.seq 
  (.reg [⟨.some 18, .none, .bin .lss (.t 17) (.t 16)⟩]) (.seq (.cond (.t 18) .skip (.exit 0)) (.keep [0, 2, 4, 7, 8, 15, 16, 17] (.seq (.block 1 (.seq (.reg [⟨.some 19, .none, .iaddr 
  1 (.t 15) (.t 17)⟩, ⟨.some 20, .none, .load false 1 (.t 19)⟩, ⟨.some 10, .none, .mv (.t 20)⟩]) (.seq (.dreg [⟨0, ⟨.some 21, .none, .mv (.t 0)⟩, false, 0, 0⟩, ⟨1, ⟨.some 22, .none, 
  .nilck (.t 21)⟩, false, 0, 0⟩, ⟨2, ⟨.some 23, .none, .faddr 1 (.t 22)⟩, false, 0, 0⟩, ⟨3, ⟨.some 24, .none, .load false 1 (.t 23)⟩, false, 10, 10⟩, ⟨4, ⟨.some 25, .none, .faddr 0 
  (.t 4)⟩, false, 0, 0⟩, ⟨5, ⟨.some 26, .none, .load false 1 (.t 25)⟩, false, 10, 10⟩, ⟨6, ⟨.some 27, .none, .mv (.t 10)⟩, false, 0, 0⟩, ⟨7, ⟨.some 28, .none, .build [.str [], .str 
  []] [(0, (1, .t 26)), (1, (1, .t 27))]⟩, false, 0, 0⟩, ⟨8, ⟨.some 29, .none, .lookup (.st [.str, .str]) (.slc .nil []) false (.t 24) (.t 28)⟩, false, 10, 10⟩, ⟨9, ⟨.some 11, .none, 
  .mv (.t 29)⟩, false, 0, 0⟩]) (.keep [0, 2, 4, 7, 8, 10, 11, 15, 16, 17] (.seq (.reg [⟨.some 30, .none, .mv (.t 8)⟩, ⟨.some 31, .none, .mv (.t 11)⟩, ⟨.some 32, .none, .call (.c (.fn 
  7 [])) [.t 30, .t 31]⟩, ⟨.some 8, .none, .mv (.t 32)⟩]) (.keep [0, 2, 4, 7, 8, 10, 11, 15, 16, 17] (.seq (.reg [⟨.some 33, .none, .mv (.t 2)⟩, ⟨.some 34, .none, .mv (.t 10)⟩, ⟨.some 
  35, .none, .call (.c (.fn 39 [])) [.t 33, .t 34]⟩]) (.cond (.t 35) (.reg [⟨.some 36, .none, .mv (.t 7)⟩, ⟨.some 37, .none, .mv (.t 11)⟩, ⟨.some 38, .none, .call (.c (.fn 7 [])) [.t 
  36, .t 37]⟩, ⟨.some 7, .none, .mv (.t 38)⟩]) .skip)))))))) (.keep [0, 2, 4, 7, 8, 15, 16, 17] (.reg [⟨.some 39, .none, .bin .add (.t 17) (.c (.int .i64 1))⟩, ⟨.some 17, .none, .mv 
  (.t 39)⟩])))))))))) (.keep [0, 2, 4, 7, 8] (.seq (.seq (.reg [⟨.some 40, .none, .mv (.t 2)⟩, ⟨.some 41, .none, .call (.c (.fn 39 [])) [.t 40, .c (.str [])]⟩]) (.cond (.t 41) (.reg 
  [⟨.some 42, .none, .mv (.t 7)⟩, ⟨.some 43, .none, .mv (.t 0)⟩, ⟨.some 44, .none, .call (.c (.fn 25 [])) [.t 43]⟩, ⟨.some 45, .none, .mv (.t 8)⟩, ⟨.some 46, .none, .call (.c (.fn 8 
  [])) [.t 44, .t 45]⟩, ⟨.some 47, .none, .call (.c (.fn 7 [])) [.t 42, .t 46]⟩, ⟨.some 7, .none, .mv (.t 47)⟩]) .skip)) (.keep [0, 4, 7] (.seq (.seq (.reg [⟨.some 48, .none, .faddr 
  2 (.t 4)⟩, ⟨.some 49, .none, .load false 1 (.t 48)⟩]) (.cond (.t 49) (.seq (.reg [⟨.some 50, .none, .mv (.t 0)⟩, ⟨.some 51, .none, .call (.c (.fn 25 [])) [.t 50]⟩, ⟨.some 52, .none, 
  .mv (.t 7)⟩, ⟨.some 53, .none, .call (.c (.fn 8 [])) [.t 51, .t 52]⟩, ⟨.some 6, .none, .mv (.t 53)⟩]) (.keep [6] .ret)) .skip)) (.keep [7] (.seq (.reg [⟨.some 54, .none, .mv (.t 7)⟩, 
  ⟨.some 6, .none, .mv (.t 54)⟩]) .ret)))))))), [.tmp 6], false⟩
theorem ok26 : chkFn Go.Proofs.Tryd.prog Go.Proofs.Tryd.f26 fe26 = true := by kernel_rfl
/- "limnograph/pack.NewWriter" -/
def fe27 : FE :=
  ⟨0, .seq (.reg [⟨.some 0, .none, .mv (.c .nilp)⟩]) (.seq (.reg [⟨.some 1, .none, .build [.slc .nil []] []⟩, ⟨.some 2, .none, .box (.t 1)⟩, ⟨.some 0, .none, .mv (.t 2)⟩]) .ret), [.tmp 
  0], false⟩
theorem ok27 : chkFn Go.Proofs.Tryd.prog Go.Proofs.Tryd.f27 fe27 = true := by kernel_rfl
/- "(*limnograph/pack.Writer).Num" -/
def fe28 : FE :=
  ⟨2, .seq (.reg [⟨.some 6, .none, .mv (.t 1)⟩, ⟨.some 7, .none, .call (.c (.fn 40 [])) [.t 6]⟩, ⟨.some 4, .none, .mv (.t 7)⟩]) (.seq (.reg [⟨.some 8, .none, .mv (.t 4)⟩, ⟨.some 9, .none, 
  .bin .sub (.c (.int .i64 8)) (.t 8)⟩, ⟨.some 10, .none, .i2i .u64 (.t 9)⟩, ⟨.some 11, .none, .bin .shl (.c (.int .u8 255)) (.t 10)⟩, ⟨.some 5, .none, .mv (.t 11)⟩]) (.keep [0, 1, 
  4, 5] (.seq (.seq (.reg [⟨.some 12, .none, .mv (.t 4)⟩, ⟨.some 13, .none, .bin .lss (.t 12) (.c (.int .i64 8))⟩]) (.cond (.t 13) (.reg [⟨.some 14, .none, .mv (.t 5)⟩, ⟨.some 15, .none, 
  .mv (.t 1)⟩, ⟨.some 16, .none, .mv (.t 4)⟩, ⟨.some 17, .none, .bin .mul (.c (.int .i64 8)) (.t 16)⟩, ⟨.some 18, .none, .i2i .u64 (.t 17)⟩, ⟨.some 19, .none, .bin .shr (.t 15) (.t 
  18)⟩, ⟨.some 20, .none, .i2i .u8 (.t 19)⟩, ⟨.some 21, .none, .bin .or (.t 14) (.t 20)⟩, ⟨.some 5, .none, .mv (.t 21)⟩]) .skip)) (.keep [0, 1, 4, 5] (.seq (.reg [⟨.some 22, .none, 
  .mv (.t 0)⟩, ⟨.some 23, .none, .mv (.t 0)⟩, ⟨.some 24, .none, .nilck (.t 23)⟩, ⟨.some 25, .none, .faddr 0 (.t 24)⟩, ⟨.some 26, .none, .load false 1 (.t 25)⟩, ⟨.some 27, .none, .mv 
  (.t 5)⟩, ⟨.some 28, .none, .bslice (.int .u8 0) 1 1 [(0, .t 27)]⟩, ⟨.some 29, .none, .append 1 1 (.t 26) (.t 28)⟩, ⟨.some 30, .none, .nilck (.t 22)⟩, ⟨.some 31, .none, .faddr 0 (.t 
  30)⟩, ⟨.none, .none, .store 1 (.t 31) (.t 29)⟩]) (.keep [0, 1, 4] (.block 0 (.loop [0, 1, 4] (.seq (.seq (.reg [⟨.some 32, .none, .mv (.t 4)⟩, ⟨.some 33, .none, .bin .gtr (.t 32) 
  (.c (.int .i64 0))⟩]) (.cond (.t 33) .skip (.exit 0))) (.keep [0, 1, 4] (.seq (.block 1 (.reg [⟨.some 36, .none, .mv (.t 0)⟩, ⟨.some 37, .none, .mv (.t 0)⟩, ⟨.some 38, .none, .nilck 
  (.t 37)⟩, ⟨.some 39, .none, .faddr 0 (.t 38)⟩, ⟨.some 40, .none, .load false 1 (.t 39)⟩, ⟨.some 41, .none, .mv (.t 1)⟩, ⟨.some 42, .none, .mv (.t 4)⟩, ⟨.some 43, .none, .bin .mul 
  (.c (.int .i64 8)) (.t 42)⟩, ⟨.some 44, .none, .bin .sub (.t 43) (.c (.int .i64 8))⟩, ⟨.some 45, .none, .i2i .u64 (.t 44)⟩, ⟨.some 46, .none, .bin .shr (.t 41) (.t 45)⟩, ⟨.some 47, 
  .none, .i2i .u8 (.t 46)⟩, ⟨.some 48, .none, .bslice (.int .u8 0) 1 1 [(0, .t 47)]⟩, ⟨.some 49, .none, .append 1 1 (.t 40) (.t 48)⟩, ⟨.some 50, .none, .nilck (.t 36)⟩, ⟨.some 51, .none, 
  .faddr 0 (.t 50)⟩, ⟨.none, .none, .store 1 (.t 51) (.t 49)⟩])) (.keep [0, 1, 4] (.reg [⟨.some 34, .none, .mv (.t 4)⟩, ⟨.some 35, .none, .bin .sub (.t 34) (.c (.int .i64 1))⟩, ⟨.some 
  4, .none, .mv (.t 35)⟩]))))))))))))), [], false⟩
theorem ok28 : chkFn Go.Proofs.Tryd.prog Go.Proofs.Tryd.f28 fe28 = true := by kernel_rfl
/- "(*limnograph/pack.Writer).Bytes" -/
def fe29 : FE :=
  ⟨1, .seq (.reg [⟨.some 2, .none, .mv (.c (.slc .nil []))⟩]) (.seq (.reg [⟨.some 3, .none, .mv (.t 0)⟩, ⟨.some 4, .none, .nilck (.t 3)⟩, ⟨.some 5, .none, .faddr 0 (.t 4)⟩, ⟨.some 6, 
  .none, .load false 1 (.t 5)⟩, ⟨.some 7, .none, .call (.c (.fn 41 [])) [.t 6]⟩, ⟨.some 2, .none, .mv (.t 7)⟩]) (.keep [2] .ret)), [.tmp 2], false⟩
theorem ok29 : chkFn Go.Proofs.Tryd.prog Go.Proofs.Tryd.f29 fe29 = true := by kernel_rfl
/- "strings.Cut" -/
def fe30 : FE :=
  ⟨2, .seq (.reg [⟨.some 4, .none, .mv (.c (.str []))⟩, ⟨.some 5, .none, .mv (.c (.str []))⟩, ⟨.some 6, .none, .mv (.c (.bool false))⟩]) (.seq (.reg [⟨.some 7, .none, .mv (.t 0)⟩, ⟨.some 
  8, .none, .mv (.t 1)⟩, ⟨.some 9, .none, .call (.c (.fn 42 [])) [.t 7, .t 8]⟩, ⟨.some 10, .none, .extract 0 (.t 9)⟩, ⟨.some 11, .none, .extract 1 (.t 9)⟩, ⟨.some 12, .none, .extract 
  2 (.t 9)⟩, ⟨.some 4, .none, .mv (.t 10)⟩, ⟨.some 5, .none, .mv (.t 11)⟩, ⟨.some 6, .none, .mv (.t 12)⟩]) (.keep [4, 5, 6] .ret)), [.tmp 4, .tmp 5, .tmp 6], false⟩
theorem ok30 : chkFn Go.Proofs.Tryd.prog Go.Proofs.Tryd.f30 fe30 = true := by kernel_rfl
/- "limnograph/label.Parse" -/
def fe31 : FE :=
  ⟨1, .seq (.reg [⟨.some 2, .none, .mv (.c (.str []))⟩, ⟨.some 3, .none, .mv (.c (.slc .nil []))⟩, ⟨.some 4, .none, .mv (.c (.int .i64 0))⟩, ⟨.some 5, .none, .mv (.c (.int .i64 0))⟩]) 
  (.keep [0, 3] (.seq (.reg [⟨.some 12, .none, .mv (.t 0)⟩, ⟨.some 13, .none, .call (.c (.fn 30 [])) [.t 12, .c (.str [59])]⟩, ⟨.some 11, .none, .mv (.t 13)⟩, ⟨.some 14, .none, .extract 
  0 (.t 11)⟩, ⟨.some 15, .none, .extract 1 (.t 11)⟩, ⟨.some 16, .none, .extract 2 (.t 11)⟩, ⟨.some 2, .none, .mv (.t 14)⟩, ⟨.some 6, .none, .mv (.t 15)⟩, ⟨.some 7, .none, .mv (.t 16)⟩]) 
  (.keep [2, 3, 6, 7] (.seq (.seq (.reg [⟨.some 17, .none, .mv (.t 2)⟩, ⟨.some 18, .none, .call (.c (.fn 34 [])) [.t 17]⟩, ⟨.some 19, .none, .un .not (.t 18)⟩]) (.cond (.t 19) (.seq 
  (.reg [⟨.some 2, .none, .mv (.c (.str []))⟩, ⟨.some 3, .none, .mv (.c (.slc .nil []))⟩, ⟨.some 4, .none, .mv (.c (.int .i64 0))⟩, ⟨.some 5, .none, .mv (.c (.int .i64 3))⟩]) (.keep 
  [2, 3, 4, 5] .ret)) .skip)) (.keep [2, 3, 6, 7] (.seq (.seq (.reg [⟨.some 20, .none, .mv (.t 2)⟩, ⟨.some 21, .none, .len .s (.t 20)⟩, ⟨.some 22, .none, .bin .add (.t 21) (.c (.int 
  .i64 1))⟩, ⟨.some 4, .none, .mv (.t 22)⟩]) (.keep [2, 3, 4, 6, 7] (.block 0 (.loop [2, 3, 4, 6, 7] (.seq (.seq (.reg [⟨.some 23, .none, .mv (.t 7)⟩]) (.cond (.t 23) .skip (.exit 0))) 
  (.keep [2, 3, 4, 6] (.block 1 (.seq (.reg [⟨.some 8, .none, .mv (.c (.str []))⟩]) (.seq (.reg [⟨.some 25, .none, .mv (.t 6)⟩, ⟨.some 26, .none, .call (.c (.fn 30 [])) [.t 25, .c (.str 
  [59])]⟩, ⟨.some 24, .none, .mv (.t 26)⟩, ⟨.some 27, .none, .extract 0 (.t 24)⟩, ⟨.some 28, .none, .extract 1 (.t 24)⟩, ⟨.some 29, .none, .extract 2 (.t 24)⟩, ⟨.some 8, .none, .mv 
  (.t 27)⟩, ⟨.some 6, .none, .mv (.t 28)⟩, ⟨.some 7, .none, .mv (.t 29)⟩]) (.keep [2, 3, 4, 6, 7, 8] (.seq (.reg [⟨.some 31, .none, .mv (.t 8)⟩, ⟨.some 32, .none, .call (.c (.fn 43 
  [])) [.t 31]⟩, ⟨.some 30, .none, .mv (.t 32)⟩, ⟨.some 33, .none, .extract 0 (.t 30)⟩, ⟨.some 34, .none, .extract 1 (.t 30)⟩, ⟨.some 9, .none, .alloc [.str [], .str []]⟩, ⟨.none, .none, 
  .store 2 (.t 9) (.t 33)⟩, ⟨.some 10, .none, .mv (.t 34)⟩]) (.keep [2, 3, 4, 6, 7, 8, 9, 10] (.seq (.seq (.reg [⟨.some 35, .none, .mv (.t 3)⟩, ⟨.some 36, .none, .len .l (.t 35)⟩, ⟨.some 
  37, .none, .bin .eql (.t 36) (.c (.int .i64 4))⟩]) (.cond (.t 37) (.reg [⟨.some 10, .none, .mv (.c (.int .i64 4))⟩]) .skip)) (.keep [2, 3, 4, 6, 7, 8, 9, 10] (.seq (.seq (.reg [⟨.some 
  38, .none, .mv (.t 10)⟩, ⟨.some 39, .none, .bin .eql (.t 38) (.c (.int .i64 0))⟩, ⟨.some 40, .none, .mv (.t 39)⟩, ⟨.some 41, .some (40, true), .mv (.t 3)⟩, ⟨.some 42, .some (40, true), 
  .len .l (.t 41)⟩, ⟨.some 43, .some (40, true), .bin .gtr (.t 42) (.c (.int .i64 0))⟩, ⟨.some 44, .none, .pick (.t 40) (.t 43) (.c (.bool false))⟩]) (.keep [2, 3, 4, 6, 7, 8, 9, 10, 
  44] (.cond (.t 44) (.reg [⟨.some 45, .none, .mv (.t 3)⟩, ⟨.some 46, .none, .faddr 0 (.t 9)⟩, ⟨.some 47, .none, .load false 1 (.t 46)⟩, ⟨.some 48, .none, .call (.c (.fn 44 [])) [.t 
  45, .t 47]⟩, ⟨.some 10, .none, .mv (.t 48)⟩]) .skip))) (.keep [2, 3, 4, 6, 7, 8, 9, 10] (.seq (.seq (.reg [⟨.some 49, .none, .mv (.t 10)⟩, ⟨.some 50, .none, .bin .neq (.t 49) (.c 
  (.int .i64 0))⟩]) (.cond (.t 50) (.seq (.reg [⟨.some 51, .none, .mv (.t 4)⟩, ⟨.some 52, .none, .mv (.t 10)⟩, ⟨.some 2, .none, .mv (.c (.str []))⟩, ⟨.some 3, .none, .mv (.c (.slc .nil 
  []))⟩, ⟨.some 4, .none, .mv (.t 51)⟩, ⟨.some 5, .none, .mv (.t 52)⟩]) (.keep [2, 3, 4, 5] .ret)) .skip)) (.keep [2, 3, 4, 6, 7, 8, 9] (.seq (.reg [⟨.some 53, .none, .mv (.t 3)⟩, ⟨.some 
  54, .none, .load true 2 (.t 9)⟩, ⟨.some 55, .none, .bslice (.agg [.str [], .str []]) 2 1 [(0, .t 54)]⟩, ⟨.some 56, .none, .append 2 32 (.t 53) (.t 55)⟩, ⟨.some 3, .none, .mv (.t 56)⟩]) 
  (.keep [2, 3, 4, 6, 7, 8] (.reg [⟨.some 57, .none, .mv (.t 4)⟩, ⟨.some 58, .none, .mv (.t 8)⟩, ⟨.some 59, .none, .len .s (.t 58)⟩, ⟨.some 60, .none, .bin .add (.t 59) (.c (.int .i64 
  1))⟩, ⟨.some 61, .none, .bin .add (.t 57) (.t 60)⟩, ⟨.some 4, .none, .mv (.t 61)⟩]))))))))))))))))))))) (.keep [2, 3] (.seq (.reg [⟨.some 62, .none, .mv (.t 2)⟩, ⟨.some 63, .none, 
  .mv (.t 3)⟩, ⟨.some 2, .none, .mv (.t 62)⟩, ⟨.some 3, .none, .mv (.t 63)⟩, ⟨.some 4, .none, .mv (.c (.int .i64 0))⟩, ⟨.some 5, .none, .mv (.c (.int .i64 0))⟩]) (.keep [2, 3, 4, 5] 
  .ret))))))))), [.tmp 2, .tmp 3, .tmp 4, .tmp 5], true⟩
theorem ok31 : chkFn Go.Proofs.Tryd.prog Go.Proofs.Tryd.f31 fe31 = true := by kernel_rfl
/- "limnograph/point.Check" -/
def fe32 : FE :=
  ⟨1, .seq (.reg [⟨.some 1, .none, .box (.t 0)⟩, ⟨.some 2, .none, .mv (.c (.int .i64 0))⟩]) (.seq (.seq (.reg [⟨.some 4, .none, .faddr 0 (.t 1)⟩, ⟨.some 5, .none, .load false 1 (.t 4)⟩, 
  ⟨.some 6, .none, .faddr 1 (.t 1)⟩, ⟨.some 7, .none, .load false 1 (.t 6)⟩, ⟨.some 8, .none, .call (.c (.fn 24 [])) [.t 5, .t 7]⟩, ⟨.some 3, .none, .mv (.t 8)⟩]) (.keep [1, 3] (.seq 
  (.reg [⟨.some 9, .none, .mv (.t 3)⟩, ⟨.some 10, .none, .bin .neq (.t 9) (.c (.int .i64 0))⟩]) (.cond (.t 10) (.seq (.reg [⟨.some 11, .none, .mv (.t 3)⟩, ⟨.some 2, .none, .mv (.t 11)⟩]) 
  .ret) .skip)))) (.keep [1] (.seq (.block 0 (.seq (.reg [⟨.some 13, .none, .load true 17 (.t 1)⟩, ⟨.some 14, .none, .call (.c (.fn 45 [])) [.t 13]⟩, ⟨.some 15, .none, .un .not (.t 
  14)⟩, ⟨.some 12, .none, .mv (.t 15)⟩]) (.keep [1, 12] (.cond (.t 12) (.seq (.reg [⟨.some 2, .none, .mv (.c (.int .i64 14))⟩]) .ret) (.seq (.seq (.reg [⟨.some 17, .none, .faddr 4 (.t 
  1)⟩, ⟨.some 18, .none, .load false 1 (.t 17)⟩, ⟨.some 19, .none, .mv (.t 18)⟩, ⟨.some 20, .some (19, true), .load true 17 (.t 1)⟩, ⟨.some 21, .some (19, true), .call (.c (.fn 46 [])) 
  [.t 20]⟩, ⟨.some 22, .some (19, true), .un .not (.t 21)⟩, ⟨.some 23, .none, .pick (.t 19) (.t 22) (.c (.bool false))⟩, ⟨.some 16, .none, .mv (.t 23)⟩]) (.keep [1, 16] (.cond (.t 16) 
  .skip (.reg [⟨.some 24, .none, .load true 17 (.t 1)⟩, ⟨.some 25, .none, .call (.c (.fn 47 [])) [.t 24]⟩, ⟨.some 26, .none, .un .not (.t 25)⟩, ⟨.some 16, .none, .mv (.t 26)⟩])))) (.keep 
  [1, 16] (.cond (.t 16) (.seq (.reg [⟨.some 2, .none, .mv (.c (.int .i64 1))⟩]) .ret) (.seq (.reg [⟨.some 28, .none, .load true 17 (.t 1)⟩, ⟨.some 29, .none, .call (.c (.fn 48 [])) 
  [.t 28]⟩, ⟨.some 30, .none, .un .not (.t 29)⟩, ⟨.some 27, .none, .mv (.t 30)⟩]) (.keep [1, 27] (.cond (.t 27) (.seq (.reg [⟨.some 2, .none, .mv (.c (.int .i64 3))⟩]) .ret) (.seq (.reg 
  [⟨.some 32, .none, .faddr 4 (.t 1)⟩, ⟨.some 33, .none, .load false 1 (.t 32)⟩, ⟨.some 34, .none, .mv (.t 33)⟩, ⟨.some 35, .some (34, true), .faddr 2 (.t 1)⟩, ⟨.some 36, .some (34, 
  true), .load false 1 (.t 35)⟩, ⟨.some 37, .some (34, true), .bin .eql (.t 36) (.c (.int .i64 2))⟩, ⟨.some 38, .none, .pick (.t 34) (.t 37) (.c (.bool false))⟩, ⟨.some 39, .none, .mv 
  (.t 38)⟩, ⟨.some 40, .some (39, true), .faddr 8 (.t 1)⟩, ⟨.some 41, .some (39, true), .load false 1 (.t 40)⟩, ⟨.some 42, .some (39, true), .call (.c (.fn 49 [])) [.t 41]⟩, ⟨.some 
  43, .some (39, true), .un .not (.t 42)⟩, ⟨.some 44, .none, .pick (.t 39) (.t 43) (.c (.bool false))⟩, ⟨.some 31, .none, .mv (.t 44)⟩]) (.keep [1, 31] (.cond (.t 31) (.seq (.reg [⟨.some 
  2, .none, .mv (.c (.int .i64 11))⟩]) .ret) (.seq (.reg [⟨.some 46, .none, .faddr 4 (.t 1)⟩, ⟨.some 47, .none, .load false 1 (.t 46)⟩, ⟨.some 48, .none, .mv (.t 47)⟩, ⟨.some 49, .some 
  (48, true), .faddr 7 (.t 1)⟩, ⟨.some 50, .some (48, true), .load false 1 (.t 49)⟩, ⟨.some 51, .some (48, true), .bin .lss (.t 50) (.c (.int .i64 0))⟩, ⟨.some 52, .some (48, true), 
  .mv (.t 51)⟩, ⟨.some 53, .some (52, false), .faddr 8 (.t 1)⟩, ⟨.some 54, .some (52, false), .load false 1 (.t 53)⟩, ⟨.some 55, .some (52, false), .call (.c (.fn 50 [])) [.t 54, .c 
  (.int .u64 0)]⟩, ⟨.some 56, .some (48, true), .pick (.t 52) (.c (.bool true)) (.t 55)⟩, ⟨.some 57, .none, .pick (.t 48) (.t 56) (.c (.bool false))⟩, ⟨.some 45, .none, .mv (.t 57)⟩]) 
  (.keep [1, 45] (.cond (.t 45) (.seq (.reg [⟨.some 2, .none, .mv (.c (.int .i64 1))⟩]) .ret) (.seq (.reg [⟨.some 59, .none, .faddr 2 (.t 1)⟩, ⟨.some 60, .none, .load false 1 (.t 59)⟩, 
  ⟨.some 61, .none, .bin .eql (.t 60) (.c (.int .i64 4))⟩, ⟨.some 58, .none, .mv (.t 61)⟩]) (.keep [1, 58] (.cond (.t 58) (.seq (.reg [⟨.some 62, .none, .faddr 10 (.t 1)⟩, ⟨.some 63, 
  .none, .load true 6 (.t 62)⟩, ⟨.some 64, .none, .call (.c (.fn 51 [])) [.t 63]⟩, ⟨.some 2, .none, .mv (.t 64)⟩]) (.keep [2] .ret)) .skip))))))))))))))))))) (.keep [] (.seq (.reg [⟨.some 
  2, .none, .mv (.c (.int .i64 0))⟩]) .ret))))), [.tmp 2], false⟩
theorem ok32 : chkFn Go.Proofs.Tryd.prog Go.Proofs.Tryd.f32 fe32 = true := by kernel_rfl
/- "limnograph/glob.next" -/
def fe33 : FE :=
  ⟨2, .seq (.reg [⟨.some 4, .none, .alloc [.int .i64 0, .int .u64 0, .int .u64 0, .int .u64 0, .int .u64 0, .bool false, .int .u8 0]⟩, ⟨.some 5, .none, .mv (.c (.int .i64 0))⟩, ⟨.some 
  6, .none, .alloc [.int .i64 0, .int .i64 0]⟩]) (.seq (.seq (.reg [⟨.some 8, .none, .mv (.t 0)⟩, ⟨.some 9, .none, .mv (.t 1)⟩, ⟨.some 10, .none, .idxs (.t 8) (.t 9)⟩]) (.block 0 (.seq 
  (.reg [⟨.some 12, .none, .bin .eql (.t 10) (.c (.int .u8 42))⟩, ⟨.some 11, .none, .mv (.t 12)⟩]) (.cond (.t 11) (.seq (.dreg [⟨0, ⟨.some 13, .none, .build [.int .i64 0, .int .u64 
  0, .int .u64 0, .int .u64 0, .int .u64 0, .bool false, .int .u8 0] [(0, (1, .c (.int .i64 1)))]⟩, false, 0, 0⟩, ⟨1, ⟨.some 14, .none, .load true 2 (.g 0)⟩, false, 2, 4⟩, ⟨2, ⟨.none, 
  .none, .store 7 (.t 4) (.t 13)⟩, true, 0, 0⟩, ⟨3, ⟨.some 5, .none, .mv (.c (.int .i64 1))⟩, false, 0, 0⟩, ⟨4, ⟨.none, .none, .store 2 (.t 6) (.t 14)⟩, true, 0, 0⟩]) (.keep [4, 5, 
  6] .ret)) (.seq (.reg [⟨.some 16, .none, .bin .eql (.t 10) (.c (.int .u8 63))⟩, ⟨.some 15, .none, .mv (.t 16)⟩]) (.cond (.t 15) (.seq (.reg [⟨.some 7, .none, .alloc [.int .i64 0, 
  .int .u64 0, .int .u64 0, .int .u64 0, .int .u64 0, .bool false, .int .u8 0]⟩]) (.seq (.reg [⟨.some 17, .none, .faddr 1 (.t 7)⟩, ⟨.some 18, .none, .call (.c (.fn 52 [])) [.t 17, .c 
  (.int .u8 0), .c (.int .u8 255)]⟩]) (.seq (.dreg [⟨0, ⟨.some 19, .none, .load true 7 (.t 7)⟩, false, 2, 2⟩, ⟨1, ⟨.some 20, .none, .load true 2 (.g 0)⟩, false, 2, 4⟩, ⟨2, ⟨.none, .none, 
  .store 7 (.t 4) (.t 19)⟩, true, 0, 0⟩, ⟨3, ⟨.some 5, .none, .mv (.c (.int .i64 1))⟩, false, 0, 0⟩, ⟨4, ⟨.none, .none, .store 2 (.t 6) (.t 20)⟩, true, 0, 0⟩]) (.keep [4, 5, 6] .ret)))) 
  (.seq (.reg [⟨.some 22, .none, .bin .eql (.t 10) (.c (.int .u8 91))⟩, ⟨.some 21, .none, .mv (.t 22)⟩]) (.cond (.t 21) (.seq (.reg [⟨.some 23, .none, .mv (.t 0)⟩, ⟨.some 24, .none, 
  .mv (.t 1)⟩, ⟨.some 25, .none, .call (.c (.fn 53 [])) [.t 23, .t 24]⟩, ⟨.some 26, .none, .extract 0 (.t 25)⟩, ⟨.some 27, .none, .extract 1 (.t 25)⟩, ⟨.some 28, .none, .extract 2 (.t 
  25)⟩, ⟨.none, .none, .store 7 (.t 4) (.t 26)⟩, ⟨.some 5, .none, .mv (.t 27)⟩, ⟨.none, .none, .store 2 (.t 6) (.t 28)⟩]) (.keep [4, 5, 6] .ret)) (.seq (.reg [⟨.some 30, .none, .bin 
  .eql (.t 10) (.c (.int .u8 92))⟩, ⟨.some 29, .none, .mv (.t 30)⟩]) (.cond (.t 29) (.seq (.seq (.reg [⟨.some 31, .none, .mv (.t 1)⟩, ⟨.some 32, .none, .bin .add (.t 31) (.c (.int .i64 
  1))⟩, ⟨.some 33, .none, .mv (.t 0)⟩, ⟨.some 34, .none, .len .s (.t 33)⟩, ⟨.some 35, .none, .bin .eql (.t 32) (.t 34)⟩]) (.keep [0, 1, 4, 6, 35] (.cond (.t 35) (.seq (.reg [⟨.some 
  36, .none, .build [.int .i64 0, .int .u64 0, .int .u64 0, .int .u64 0, .int .u64 0, .bool false, .int .u8 0] []⟩, ⟨.some 37, .none, .mv (.t 1)⟩, ⟨.some 38, .none, .build [.int .i64 
  0, .int .i64 0] [(0, (1, .t 37)), (1, (1, .c (.int .i64 2)))]⟩, ⟨.none, .none, .store 7 (.t 4) (.t 36)⟩, ⟨.some 5, .none, .mv (.c (.int .i64 0))⟩, ⟨.none, .none, .store 2 (.t 6) (.t 
  38)⟩]) (.keep [4, 5, 6] .ret)) .skip))) (.keep [0, 1, 4, 6] (.seq (.dreg [⟨0, ⟨.some 39, .none, .mv (.t 0)⟩, false, 0, 0⟩, ⟨1, ⟨.some 40, .none, .mv (.t 1)⟩, false, 0, 0⟩, ⟨2, ⟨.some 
  41, .none, .bin .add (.t 40) (.c (.int .i64 1))⟩, false, 0, 0⟩, ⟨3, ⟨.some 42, .none, .idxs (.t 39) (.t 41)⟩, false, 0, 0⟩, ⟨5, ⟨.some 44, .none, .load true 2 (.g 0)⟩, false, 5, 8⟩, 
  ⟨4, ⟨.some 43, .none, .call (.c (.fn 54 [])) [.t 42]⟩, true, 0, 0⟩, ⟨6, ⟨.none, .none, .store 7 (.t 4) (.t 43)⟩, true, 0, 0⟩, ⟨7, ⟨.some 5, .none, .mv (.c (.int .i64 2))⟩, false, 
  0, 0⟩, ⟨8, ⟨.none, .none, .store 2 (.t 6) (.t 44)⟩, true, 0, 0⟩]) (.keep [4, 5, 6] .ret)))) .skip)))))))))) (.keep [0, 1, 4, 6] (.seq (.dreg [⟨0, ⟨.some 45, .none, .mv (.t 0)⟩, false, 
  0, 0⟩, ⟨1, ⟨.some 46, .none, .mv (.t 1)⟩, false, 0, 0⟩, ⟨2, ⟨.some 47, .none, .idxs (.t 45) (.t 46)⟩, false, 0, 0⟩, ⟨4, ⟨.some 49, .none, .load true 2 (.g 0)⟩, false, 4, 7⟩, ⟨3, ⟨.some 
  48, .none, .call (.c (.fn 54 [])) [.t 47]⟩, true, 0, 0⟩, ⟨5, ⟨.none, .none, .store 7 (.t 4) (.t 48)⟩, true, 0, 0⟩, ⟨6, ⟨.some 5, .none, .mv (.c (.int .i64 1))⟩, false, 0, 0⟩, ⟨7, 
  ⟨.none, .none, .store 2 (.t 6) (.t 49)⟩, true, 0, 0⟩]) (.keep [4, 5, 6] .ret)))), [.cell 4 7 true, .tmp 5, .cell 6 2 true], false⟩
theorem ok33 : chkFn Go.Proofs.Tryd.prog Go.Proofs.Tryd.f33 fe33 = true := by kernel_rfl
/- "limnograph/label.isName" -/
def fe34 : FE :=
  ⟨1, .seq (.reg [⟨.some 2, .none, .mv (.c (.bool false))⟩]) (.seq (.seq (.reg [⟨.some 5, .none, .mv (.t 0)⟩, ⟨.some 6, .none, .bin .eql (.t 5) (.c (.str []))⟩, ⟨.some 7, .none, .mv (.t 
  6)⟩, ⟨.some 8, .some (7, false), .mv (.t 0)⟩, ⟨.some 9, .some (7, false), .len .s (.t 8)⟩, ⟨.some 10, .some (7, false), .bin .gtr (.t 9) (.c (.int .i64 32))⟩, ⟨.some 11, .none, .pick 
  (.t 7) (.c (.bool true)) (.t 10)⟩, ⟨.some 12, .none, .mv (.t 11)⟩, ⟨.some 13, .some (12, false), .mv (.t 0)⟩, ⟨.some 14, .some (12, false), .idxs (.t 13) (.c (.int .i64 0))⟩, ⟨.some 
  15, .some (12, false), .call (.c (.fn 55 [])) [.t 14]⟩, ⟨.some 16, .some (12, false), .un .not (.t 15)⟩, ⟨.some 17, .none, .pick (.t 12) (.c (.bool true)) (.t 16)⟩]) (.keep [0, 17] 
  (.cond (.t 17) (.seq (.reg [⟨.some 2, .none, .mv (.c (.bool false))⟩]) .ret) .skip))) (.keep [0] (.seq (.seq (.reg [⟨.some 18, .none, .mv (.t 0)⟩, ⟨.some 19, .none, .s2b (.t 18)⟩, 
  ⟨.some 20, .none, .len .l (.t 19)⟩, ⟨.some 21, .none, .mv (.c (.int .i64 0))⟩]) (.keep [19, 20, 21] (.block 0 (.loop [19, 20, 21] (.seq (.reg [⟨.some 22, .none, .bin .lss (.t 21) 
  (.t 20)⟩]) (.seq (.cond (.t 22) .skip (.exit 0)) (.keep [19, 20, 21] (.seq (.block 1 (.seq (.reg [⟨.some 23, .none, .iaddr 1 (.t 19) (.t 21)⟩, ⟨.some 24, .none, .load false 1 (.t 
  23)⟩, ⟨.some 4, .none, .mv (.t 24)⟩]) (.seq (.reg [⟨.some 25, .none, .mv (.t 4)⟩, ⟨.some 26, .none, .call (.c (.fn 55 [])) [.t 25]⟩, ⟨.some 27, .none, .un .not (.t 26)⟩, ⟨.some 28, 
  .none, .mv (.t 27)⟩, ⟨.some 29, .some (28, true), .mv (.t 4)⟩, ⟨.some 30, .some (28, true), .bin .lss (.t 29) (.c (.int .u8 48))⟩, ⟨.some 31, .some (28, true), .mv (.t 30)⟩, ⟨.some 
  32, .some (31, false), .mv (.t 4)⟩, ⟨.some 33, .some (31, false), .bin .gtr (.t 32) (.c (.int .u8 57))⟩, ⟨.some 34, .some (28, true), .pick (.t 31) (.c (.bool true)) (.t 33)⟩, ⟨.some 
  35, .none, .pick (.t 28) (.t 34) (.c (.bool false))⟩, ⟨.some 36, .none, .mv (.t 35)⟩, ⟨.some 37, .some (36, true), .mv (.t 4)⟩, ⟨.some 38, .some (36, true), .bin .neq (.t 37) (.c 
  (.int .u8 95))⟩, ⟨.some 39, .none, .pick (.t 36) (.t 38) (.c (.bool false))⟩, ⟨.some 40, .none, .mv (.t 39)⟩, ⟨.some 41, .some (40, true), .mv (.t 4)⟩, ⟨.some 42, .some (40, true), 
  .bin .neq (.t 41) (.c (.int .u8 46))⟩, ⟨.some 43, .none, .pick (.t 40) (.t 42) (.c (.bool false))⟩]) (.keep [19, 20, 21, 43] (.cond (.t 43) (.seq (.reg [⟨.some 2, .none, .mv (.c (.bool 
  false))⟩]) .ret) .skip))))) (.keep [19, 20, 21] (.reg [⟨.some 44, .none, .bin .add (.t 21) (.c (.int .i64 1))⟩, ⟨.some 21, .none, .mv (.t 44)⟩])))))))))) (.keep [] (.seq (.reg [⟨.some 
  2, .none, .mv (.c (.bool true))⟩]) .ret))))), [.tmp 2], false⟩
theorem ok34 : chkFn Go.Proofs.Tryd.prog Go.Proofs.Tryd.f34 fe34 = true := by kernel_rfl
/- "limnograph/label.isValue" -/
def fe35 : FE :=
  ⟨1, .seq (.reg [⟨.some 2, .none, .mv (.c (.bool false))⟩]) (.seq (.seq (.reg [⟨.some 5, .none, .mv (.t 0)⟩, ⟨.some 6, .none, .bin .eql (.t 5) (.c (.str []))⟩, ⟨.some 7, .none, .mv (.t 
  6)⟩, ⟨.some 8, .some (7, false), .mv (.t 0)⟩, ⟨.some 9, .some (7, false), .len .s (.t 8)⟩, ⟨.some 10, .some (7, false), .bin .gtr (.t 9) (.c (.int .i64 32))⟩, ⟨.some 11, .none, .pick 
  (.t 7) (.c (.bool true)) (.t 10)⟩]) (.keep [0, 11] (.cond (.t 11) (.seq (.reg [⟨.some 2, .none, .mv (.c (.bool false))⟩]) .ret) .skip))) (.keep [0] (.seq (.seq (.reg [⟨.some 12, .none, 
  .mv (.t 0)⟩, ⟨.some 13, .none, .s2b (.t 12)⟩, ⟨.some 14, .none, .len .l (.t 13)⟩, ⟨.some 15, .none, .mv (.c (.int .i64 0))⟩]) (.keep [13, 14, 15] (.block 0 (.loop [13, 14, 15] (.seq 
  (.reg [⟨.some 16, .none, .bin .lss (.t 15) (.t 14)⟩]) (.seq (.cond (.t 16) .skip (.exit 0)) (.keep [13, 14, 15] (.seq (.block 1 (.seq (.reg [⟨.some 17, .none, .iaddr 1 (.t 13) (.t 
  15)⟩, ⟨.some 18, .none, .load false 1 (.t 17)⟩, ⟨.some 4, .none, .mv (.t 18)⟩]) (.block 2 (.seq (.seq (.reg [⟨.some 20, .none, .mv (.t 4)⟩, ⟨.some 21, .none, .bin .lss (.t 20) (.c 
  (.int .u8 33))⟩, ⟨.some 19, .none, .mv (.t 21)⟩]) (.cond (.t 19) .skip (.seq (.reg [⟨.some 22, .none, .mv (.t 4)⟩, ⟨.some 23, .none, .bin .gtr (.t 22) (.c (.int .u8 126))⟩, ⟨.some 
  19, .none, .mv (.t 23)⟩]) (.cond (.t 19) .skip (.seq (.reg [⟨.some 24, .none, .mv (.t 4)⟩, ⟨.some 25, .none, .bin .eql (.t 24) (.c (.int .u8 61))⟩, ⟨.some 19, .none, .mv (.t 25)⟩]) 
  (.cond (.t 19) .skip (.seq (.reg [⟨.some 26, .none, .mv (.t 4)⟩, ⟨.some 27, .none, .bin .eql (.t 26) (.c (.int .u8 59))⟩, ⟨.some 19, .none, .mv (.t 27)⟩]) (.cond (.t 19) .skip (.reg 
  [⟨.some 28, .none, .mv (.t 4)⟩, ⟨.some 29, .none, .bin .eql (.t 28) (.c (.int .u8 44))⟩, ⟨.some 19, .none, .mv (.t 29)⟩]))))))))) (.keep [13, 14, 15, 19] (.cond (.t 19) (.seq (.reg 
  [⟨.some 2, .none, .mv (.c (.bool false))⟩]) .ret) .skip)))))) (.keep [13, 14, 15] (.reg [⟨.some 30, .none, .bin .add (.t 15) (.c (.int .i64 1))⟩, ⟨.some 15, .none, .mv (.t 30)⟩])))))))))) 
  (.keep [] (.seq (.reg [⟨.some 2, .none, .mv (.c (.bool true))⟩]) .ret))))), [.tmp 2], false⟩
theorem ok35 : chkFn Go.Proofs.Tryd.prog Go.Proofs.Tryd.f35 fe35 = true := by kernel_rfl
/- "slices.ContainsFunc[[]limnograph/api.Pair,limnograph/api.Pair]" -/
def fe36 : FE :=
  ⟨2, .seq (.reg [⟨.some 4, .none, .mv (.c (.bool false))⟩]) (.seq (.reg [⟨.some 5, .none, .mv (.t 0)⟩, ⟨.some 6, .none, .mv (.t 1)⟩, ⟨.some 7, .none, .call (.c (.fn 56 [])) [.t 5, .t 
  6]⟩, ⟨.some 8, .none, .bin .geq (.t 7) (.c (.int .i64 0))⟩, ⟨.some 4, .none, .mv (.t 8)⟩]) (.keep [4] .ret)), [.tmp 4], false⟩
theorem ok36 : chkFn Go.Proofs.Tryd.prog Go.Proofs.Tryd.f36 fe36 = true := by kernel_rfl
/- "limnograph/label.Check$1" -/
def fe37 : FE :=
  ⟨2, .seq (.reg [⟨.some 2, .none, .box (.t 0)⟩, ⟨.some 3, .none, .mv (.c (.bool false))⟩]) (.seq (.reg [⟨.some 4, .none, .faddr 0 (.t 2)⟩, ⟨.some 5, .none, .load false 1 (.t 4)⟩, ⟨.some 
  6, .none, .faddr 0 (.t 1)⟩, ⟨.some 7, .none, .load false 1 (.t 6)⟩, ⟨.some 8, .none, .bin .eql (.t 5) (.t 7)⟩, ⟨.some 3, .none, .mv (.t 8)⟩]) (.keep [3] .ret)), [.tmp 3], false⟩
theorem ok37 : chkFn Go.Proofs.Tryd.prog Go.Proofs.Tryd.f37 fe37 = true := by kernel_rfl
/- "(*limnograph/glob.Glob).Match" -/
def fe39 : FE :=
  ⟨2, .seq (.reg [⟨.some 4, .none, .mv (.c (.bool false))⟩]) (.scope 0 [0, 1, 5, 6, 7, 8] (.seq (.reg [⟨.some 5, .none, .mv (.c (.int .i64 0))⟩, ⟨.some 6, .none, .mv (.c (.int .i64 0))⟩]) 
  (.seq (.reg [⟨.some 7, .none, .mv (.c (.int .i64 (-1)))⟩, ⟨.some 8, .none, .mv (.c (.int .i64 0))⟩]) (.seq .skip (.seq (.block 0 (.seq (.reg [⟨.some 10, .none, .mv (.t 6)⟩, ⟨.some 
  11, .none, .mv (.t 0)⟩, ⟨.some 12, .none, .nilck (.t 11)⟩, ⟨.some 13, .none, .faddr 1 (.t 12)⟩, ⟨.some 14, .none, .load false 1 (.t 13)⟩, ⟨.some 15, .none, .len .l (.t 14)⟩, ⟨.some 
  16, .none, .bin .lss (.t 10) (.t 15)⟩, ⟨.some 17, .none, .mv (.t 16)⟩, ⟨.some 18, .some (17, true), .mv (.t 0)⟩, ⟨.some 19, .some (17, true), .nilck (.t 18)⟩, ⟨.some 20, .some (17, 
  true), .faddr 1 (.t 19)⟩, ⟨.some 21, .some (17, true), .load false 1 (.t 20)⟩, ⟨.some 22, .some (17, true), .mv (.t 6)⟩, ⟨.some 23, .some (17, true), .iaddr 7 (.t 21) (.t 22)⟩, ⟨.some 
  24, .some (17, true), .faddr 0 (.t 23)⟩, ⟨.some 25, .some (17, true), .load false 1 (.t 24)⟩, ⟨.some 26, .some (17, true), .bin .eql (.t 25) (.c (.int .i64 1))⟩, ⟨.some 27, .none, 
  .pick (.t 17) (.t 26) (.c (.bool false))⟩, ⟨.some 9, .none, .mv (.t 27)⟩]) (.keep [0, 1, 5, 6, 7, 8, 9] (.cond (.t 9) (.seq (.reg [⟨.some 28, .none, .mv (.t 6)⟩, ⟨.some 29, .none, 
  .mv (.t 5)⟩, ⟨.some 7, .none, .mv (.t 28)⟩, ⟨.some 8, .none, .mv (.t 29)⟩]) (.keep [0, 1, 5, 6, 7, 8] (.seq (.reg [⟨.some 30, .none, .mv (.t 6)⟩, ⟨.some 31, .none, .bin .add (.t 30) 
  (.c (.int .i64 1))⟩, ⟨.some 6, .none, .mv (.t 31)⟩]) (.goto 0)))) (.seq (.dreg [⟨0, ⟨.some 33, .none, .mv (.t 6)⟩, false, 0, 0⟩, ⟨1, ⟨.some 34, .none, .mv (.t 0)⟩, false, 0, 0⟩, ⟨2, 
  ⟨.some 35, .none, .nilck (.t 34)⟩, false, 0, 0⟩, ⟨3, ⟨.some 36, .none, .faddr 1 (.t 35)⟩, false, 0, 0⟩, ⟨4, ⟨.some 37, .none, .load false 1 (.t 36)⟩, false, 24, 24⟩, ⟨5, ⟨.some 38, 
  .none, .len .l (.t 37)⟩, false, 24, 24⟩, ⟨6, ⟨.some 39, .none, .bin .lss (.t 33) (.t 38)⟩, false, 0, 0⟩, ⟨7, ⟨.some 40, .none, .mv (.t 39)⟩, false, 0, 0⟩, ⟨8, ⟨.some 41, .some (40, 
  true), .mv (.t 5)⟩, false, 0, 0⟩, ⟨9, ⟨.some 42, .some (40, true), .mv (.t 1)⟩, false, 0, 0⟩, ⟨10, ⟨.some 43, .some (40, true), .len .s (.t 42)⟩, false, 24, 24⟩, ⟨11, ⟨.some 44, .some 
  (40, true), .bin .lss (.t 41) (.t 43)⟩, false, 0, 0⟩, ⟨12, ⟨.some 45, .none, .pick (.t 40) (.t 44) (.c (.bool false))⟩, false, 0, 0⟩, ⟨13, ⟨.some 46, .none, .mv (.t 45)⟩, false, 0, 
  0⟩, ⟨14, ⟨.some 47, .some (46, true), .mv (.t 0)⟩, false, 0, 0⟩, ⟨15, ⟨.some 48, .some (46, true), .nilck (.t 47)⟩, false, 0, 0⟩, ⟨16, ⟨.some 49, .some (46, true), .faddr 1 (.t 48)⟩, 
  false, 0, 0⟩, ⟨17, ⟨.some 50, .some (46, true), .load false 1 (.t 49)⟩, false, 24, 24⟩, ⟨18, ⟨.some 51, .some (46, true), .mv (.t 6)⟩, false, 0, 0⟩, ⟨19, ⟨.some 52, .some (46, true), 
  .iaddr 7 (.t 50) (.t 51)⟩, false, 0, 0⟩, ⟨20, ⟨.some 53, .some (46, true), .faddr 1 (.t 52)⟩, false, 0, 0⟩, ⟨21, ⟨.some 54, .some (46, true), .mv (.t 1)⟩, false, 0, 0⟩, ⟨22, ⟨.some 
  55, .some (46, true), .mv (.t 5)⟩, false, 0, 0⟩, ⟨23, ⟨.some 56, .some (46, true), .idxs (.t 54) (.t 55)⟩, false, 0, 0⟩, ⟨24, ⟨.some 57, .some (46, true), .call (.c (.fn 59 [])) [.t 
  53, .t 56]⟩, true, 0, 0⟩, ⟨25, ⟨.some 58, .none, .pick (.t 46) (.t 57) (.c (.bool false))⟩, false, 0, 0⟩, ⟨26, ⟨.some 32, .none, .mv (.t 58)⟩, false, 0, 0⟩]) (.keep [0, 1, 5, 6, 7, 
  8, 32] (.cond (.t 32) (.seq (.reg [⟨.some 59, .none, .mv (.t 6)⟩, ⟨.some 60, .none, .bin .add (.t 59) (.c (.int .i64 1))⟩, ⟨.some 6, .none, .mv (.t 60)⟩]) (.seq (.reg [⟨.some 61, 
  .none, .mv (.t 5)⟩, ⟨.some 62, .none, .bin .add (.t 61) (.c (.int .i64 1))⟩, ⟨.some 5, .none, .mv (.t 62)⟩]) (.goto 0))) (.seq (.reg [⟨.some 64, .none, .mv (.t 6)⟩, ⟨.some 65, .none, 
  .mv (.t 0)⟩, ⟨.some 66, .none, .nilck (.t 65)⟩, ⟨.some 67, .none, .faddr 1 (.t 66)⟩, ⟨.some 68, .none, .load false 1 (.t 67)⟩, ⟨.some 69, .none, .len .l (.t 68)⟩, ⟨.some 70, .none, 
  .bin .eql (.t 64) (.t 69)⟩, ⟨.some 71, .none, .mv (.t 70)⟩, ⟨.some 72, .some (71, true), .mv (.t 5)⟩, ⟨.some 73, .some (71, true), .mv (.t 1)⟩, ⟨.some 74, .some (71, true), .len .s 
  (.t 73)⟩, ⟨.some 75, .some (71, true), .bin .eql (.t 72) (.t 74)⟩, ⟨.some 76, .none, .pick (.t 71) (.t 75) (.c (.bool false))⟩, ⟨.some 63, .none, .mv (.t 76)⟩]) (.keep [0, 1, 7, 8, 
  63] (.cond (.t 63) (.seq (.reg [⟨.some 4, .none, .mv (.c (.bool true))⟩]) .ret) (.seq (.reg [⟨.some 78, .none, .mv (.t 7)⟩, ⟨.some 79, .none, .bin .geq (.t 78) (.c (.int .i64 0))⟩, 
  ⟨.some 80, .none, .mv (.t 79)⟩, ⟨.some 81, .some (80, true), .mv (.t 8)⟩, ⟨.some 82, .some (80, true), .mv (.t 1)⟩, ⟨.some 83, .some (80, true), .len .s (.t 82)⟩, ⟨.some 84, .some 
  (80, true), .bin .lss (.t 81) (.t 83)⟩, ⟨.some 85, .none, .pick (.t 80) (.t 84) (.c (.bool false))⟩, ⟨.some 77, .none, .mv (.t 85)⟩]) (.keep [0, 1, 7, 8, 77] (.cond (.t 77) (.seq 
  (.reg [⟨.some 86, .none, .mv (.t 8)⟩, ⟨.some 87, .none, .bin .add (.t 86) (.c (.int .i64 1))⟩, ⟨.some 8, .none, .mv (.t 87)⟩]) (.seq (.reg [⟨.some 88, .none, .mv (.t 7)⟩, ⟨.some 89, 
  .none, .bin .add (.t 88) (.c (.int .i64 1))⟩, ⟨.some 90, .none, .mv (.t 8)⟩, ⟨.some 6, .none, .mv (.t 89)⟩, ⟨.some 5, .none, .mv (.t 90)⟩]) (.keep [0, 1, 5, 6, 7, 8] (.goto 0)))) 
  .skip))))))))))))) (.keep [] (.seq (.reg [⟨.some 4, .none, .mv (.c (.bool false))⟩]) .ret)))))) (.seq .skip (.seq (.block 0 (.seq (.reg [⟨.some 10, .none, .mv (.t 6)⟩, ⟨.some 11, 
  .none, .mv (.t 0)⟩, ⟨.some 12, .none, .nilck (.t 11)⟩, ⟨.some 13, .none, .faddr 1 (.t 12)⟩, ⟨.some 14, .none, .load false 1 (.t 13)⟩, ⟨.some 15, .none, .len .l (.t 14)⟩, ⟨.some 16, 
  .none, .bin .lss (.t 10) (.t 15)⟩, ⟨.some 17, .none, .mv (.t 16)⟩, ⟨.some 18, .some (17, true), .mv (.t 0)⟩, ⟨.some 19, .some (17, true), .nilck (.t 18)⟩, ⟨.some 20, .some (17, true), 
  .faddr 1 (.t 19)⟩, ⟨.some 21, .some (17, true), .load false 1 (.t 20)⟩, ⟨.some 22, .some (17, true), .mv (.t 6)⟩, ⟨.some 23, .some (17, true), .iaddr 7 (.t 21) (.t 22)⟩, ⟨.some 24, 
  .some (17, true), .faddr 0 (.t 23)⟩, ⟨.some 25, .some (17, true), .load false 1 (.t 24)⟩, ⟨.some 26, .some (17, true), .bin .eql (.t 25) (.c (.int .i64 1))⟩, ⟨.some 27, .none, .pick 
  (.t 17) (.t 26) (.c (.bool false))⟩, ⟨.some 9, .none, .mv (.t 27)⟩]) (.keep [0, 1, 5, 6, 7, 8, 9] (.cond (.t 9) (.seq (.reg [⟨.some 28, .none, .mv (.t 6)⟩, ⟨.some 29, .none, .mv (.t 
  5)⟩, ⟨.some 7, .none, .mv (.t 28)⟩, ⟨.some 8, .none, .mv (.t 29)⟩]) (.keep [0, 1, 5, 6, 7, 8] (.seq (.reg [⟨.some 30, .none, .mv (.t 6)⟩, ⟨.some 31, .none, .bin .add (.t 30) (.c (.int 
  .i64 1))⟩, ⟨.some 6, .none, .mv (.t 31)⟩]) (.goto 0)))) (.seq (.dreg [⟨0, ⟨.some 33, .none, .mv (.t 6)⟩, false, 0, 0⟩, ⟨1, ⟨.some 34, .none, .mv (.t 0)⟩, false, 0, 0⟩, ⟨2, ⟨.some 
  35, .none, .nilck (.t 34)⟩, false, 0, 0⟩, ⟨3, ⟨.some 36, .none, .faddr 1 (.t 35)⟩, false, 0, 0⟩, ⟨4, ⟨.some 37, .none, .load false 1 (.t 36)⟩, false, 24, 24⟩, ⟨5, ⟨.some 38, .none, 
  .len .l (.t 37)⟩, false, 24, 24⟩, ⟨6, ⟨.some 39, .none, .bin .lss (.t 33) (.t 38)⟩, false, 0, 0⟩, ⟨7, ⟨.some 40, .none, .mv (.t 39)⟩, false, 0, 0⟩, ⟨8, ⟨.some 41, .some (40, true), 
  .mv (.t 5)⟩, false, 0, 0⟩, ⟨9, ⟨.some 42, .some (40, true), .mv (.t 1)⟩, false, 0, 0⟩, ⟨10, ⟨.some 43, .some (40, true), .len .s (.t 42)⟩, false, 24, 24⟩, ⟨11, ⟨.some 44, .some (40, 
  true), .bin .lss (.t 41) (.t 43)⟩, false, 0, 0⟩, ⟨12, ⟨.some 45, .none, .pick (.t 40) (.t 44) (.c (.bool false))⟩, false, 0, 0⟩, ⟨13, ⟨.some 46, .none, .mv (.t 45)⟩, false, 0, 0⟩, 
  ⟨14, ⟨.some 47, .some (46, true), .mv (.t 0)⟩, false, 0, 0⟩, ⟨15, ⟨.some 48, .some (46, true), .nilck (.t 47)⟩, false, 0, 0⟩, ⟨16, ⟨.some 49, .some (46, true), .faddr 1 (.t 48)⟩, 
  false, 0, 0⟩, ⟨17, ⟨.some 50, .some (46, true), .load false 1 (.t 49)⟩, false, 24, 24⟩, ⟨18, ⟨.some 51, .some (46, true), .mv (.t 6)⟩, false, 0, 0⟩, ⟨19, ⟨.some 52, .some (46, true), 
  .iaddr 7 (.t 50) (.t 51)⟩, false, 0, 0⟩, ⟨20, ⟨.some 53, .some (46, true), .faddr 1 (.t 52)⟩, false, 0, 0⟩, ⟨21, ⟨.some 54, .some (46, true), .mv (.t 1)⟩, false, 0, 0⟩, ⟨22, ⟨.some 
  55, .some (46, true), .mv (.t 5)⟩, false, 0, 0⟩, ⟨23, ⟨.some 56, .some (46, true), .idxs (.t 54) (.t 55)⟩, false, 0, 0⟩, ⟨24, ⟨.some 57, .some (46, true), .call (.c (.fn 59 [])) [.t 
  53, .t 56]⟩, true, 0, 0⟩, ⟨25, ⟨.some 58, .none, .pick (.t 46) (.t 57) (.c (.bool false))⟩, false, 0, 0⟩, ⟨26, ⟨.some 32, .none, .mv (.t 58)⟩, false, 0, 0⟩]) (.keep [0, 1, 5, 6, 7, 
  8, 32] (.cond (.t 32) (.seq (.reg [⟨.some 59, .none, .mv (.t 6)⟩, ⟨.some 60, .none, .bin .add (.t 59) (.c (.int .i64 1))⟩, ⟨.some 6, .none, .mv (.t 60)⟩]) (.seq (.reg [⟨.some 61, 
  .none, .mv (.t 5)⟩, ⟨.some 62, .none, .bin .add (.t 61) (.c (.int .i64 1))⟩, ⟨.some 5, .none, .mv (.t 62)⟩]) (.goto 0))) (.seq (.reg [⟨.some 64, .none, .mv (.t 6)⟩, ⟨.some 65, .none, 
  .mv (.t 0)⟩, ⟨.some 66, .none, .nilck (.t 65)⟩, ⟨.some 67, .none, .faddr 1 (.t 66)⟩, ⟨.some 68, .none, .load false 1 (.t 67)⟩, ⟨.some 69, .none, .len .l (.t 68)⟩, ⟨.some 70, .none, 
  .bin .eql (.t 64) (.t 69)⟩, ⟨.some 71, .none, .mv (.t 70)⟩, ⟨.some 72, .some (71, true), .mv (.t 5)⟩, ⟨.some 73, .some (71, true), .mv (.t 1)⟩, ⟨.some 74, .some (71, true), .len .s 
  (.t 73)⟩, ⟨.some 75, .some (71, true), .bin .eql (.t 72) (.t 74)⟩, ⟨.some 76, .none, .pick (.t 71) (.t 75) (.c (.bool false))⟩, ⟨.some 63, .none, .mv (.t 76)⟩]) (.keep [0, 1, 7, 8, 
  63] (.cond (.t 63) (.seq (.reg [⟨.some 4, .none, .mv (.c (.bool true))⟩]) .ret) (.seq (.reg [⟨.some 78, .none, .mv (.t 7)⟩, ⟨.some 79, .none, .bin .geq (.t 78) (.c (.int .i64 0))⟩, 
  ⟨.some 80, .none, .mv (.t 79)⟩, ⟨.some 81, .some (80, true), .mv (.t 8)⟩, ⟨.some 82, .some (80, true), .mv (.t 1)⟩, ⟨.some 83, .some (80, true), .len .s (.t 82)⟩, ⟨.some 84, .some 
  (80, true), .bin .lss (.t 81) (.t 83)⟩, ⟨.some 85, .none, .pick (.t 80) (.t 84) (.c (.bool false))⟩, ⟨.some 77, .none, .mv (.t 85)⟩]) (.keep [0, 1, 7, 8, 77] (.cond (.t 77) (.seq 
  (.reg [⟨.some 86, .none, .mv (.t 8)⟩, ⟨.some 87, .none, .bin .add (.t 86) (.c (.int .i64 1))⟩, ⟨.some 8, .none, .mv (.t 87)⟩]) (.seq (.reg [⟨.some 88, .none, .mv (.t 7)⟩, ⟨.some 89, 
  .none, .bin .add (.t 88) (.c (.int .i64 1))⟩, ⟨.some 90, .none, .mv (.t 8)⟩, ⟨.some 6, .none, .mv (.t 89)⟩, ⟨.some 5, .none, .mv (.t 90)⟩]) (.keep [0, 1, 5, 6, 7, 8] (.goto 0)))) 
  .skip))))))))))))) (.keep [] (.seq (.reg [⟨.some 4, .none, .mv (.c (.bool false))⟩]) .ret))))), [.tmp 4], false⟩
theorem ok39 : chkFn Go.Proofs.Tryd.prog Go.Proofs.Tryd.f39 fe39 = true := by kernel_rfl
/- "limnograph/pack.others" -/
def fe40 : FE :=
  ⟨1, .seq (.reg [⟨.some 2, .none, .mv (.c (.int .i64 0))⟩]) (.seq (.reg [⟨.some 4, .none, .mv (.t 0)⟩, ⟨.some 5, .none, .call (.c (.fn 60 [])) [.t 4]⟩, ⟨.some 3, .none, .mv (.t 5)⟩]) 
  (.seq (.seq (.reg [⟨.some 6, .none, .mv (.t 3)⟩, ⟨.some 7, .none, .bin .gtr (.t 6) (.c (.int .i64 56))⟩]) (.cond (.t 7) (.seq (.reg [⟨.some 2, .none, .mv (.c (.int .i64 8))⟩]) .ret) 
  .skip)) (.keep [3] (.seq (.reg [⟨.some 8, .none, .mv (.t 3)⟩, ⟨.some 9, .none, .bin .sub (.t 8) (.c (.int .i64 1))⟩, ⟨.some 10, .none, .mx false [.t 9, .c (.int .i64 0)]⟩, ⟨.some 
  11, .none, .bin .quo (.t 10) (.c (.int .i64 7))⟩, ⟨.some 2, .none, .mv (.t 11)⟩]) (.keep [2] .ret))))), [.tmp 2], false⟩
theorem ok40 : chkFn Go.Proofs.Tryd.prog Go.Proofs.Tryd.f40 fe40 = true := by kernel_rfl
/- "bytes.Clone" -/
def fe41 : FE :=
  ⟨1, .seq (.reg [⟨.some 2, .none, .mv (.c (.slc .nil []))⟩]) (.seq (.seq (.reg [⟨.some 3, .none, .mv (.t 0)⟩, ⟨.some 4, .none, .eqnil .s false (.t 3)⟩]) (.cond (.t 4) (.seq (.reg [⟨.some 
  2, .none, .mv (.c (.slc .nil []))⟩]) .ret) .skip)) (.keep [0] (.seq (.reg [⟨.some 5, .none, .bslice (.int .u8 0) 1 0 []⟩, ⟨.some 6, .none, .mv (.t 0)⟩, ⟨.some 7, .none, .append 1 
  1 (.t 5) (.t 6)⟩, ⟨.some 2, .none, .mv (.t 7)⟩]) (.keep [2] .ret)))), [.tmp 2], false⟩
theorem ok41 : chkFn Go.Proofs.Tryd.prog Go.Proofs.Tryd.f41 fe41 = true := by kernel_rfl
/- "internal/stringslite.Cut" -/
def fe42 : FE :=
  ⟨2, .seq (.reg [⟨.some 4, .none, .mv (.c (.str []))⟩, ⟨.some 5, .none, .mv (.c (.str []))⟩, ⟨.some 6, .none, .mv (.c (.bool false))⟩]) (.seq (.seq (.reg [⟨.some 8, .none, .mv (.t 0)⟩, 
  ⟨.some 9, .none, .mv (.t 1)⟩, ⟨.some 10, .none, .call (.c (.fn 61 [])) [.t 8, .t 9]⟩, ⟨.some 7, .none, .mv (.t 10)⟩]) (.keep [0, 1, 7] (.seq (.reg [⟨.some 11, .none, .mv (.t 7)⟩, 
  ⟨.some 12, .none, .bin .geq (.t 11) (.c (.int .i64 0))⟩]) (.cond (.t 12) (.seq (.dreg [⟨0, ⟨.some 13, .none, .mv (.t 0)⟩, false, 0, 0⟩, ⟨1, ⟨.some 14, .none, .mv (.t 7)⟩, false, 0, 
  0⟩, ⟨2, ⟨.some 15, .none, .slstr (.t 13) .none (.some (.t 14))⟩, false, 0, 0⟩, ⟨3, ⟨.some 16, .none, .mv (.t 0)⟩, false, 0, 0⟩, ⟨4, ⟨.some 17, .none, .mv (.t 7)⟩, false, 0, 0⟩, ⟨5, 
  ⟨.some 18, .none, .mv (.t 1)⟩, false, 0, 0⟩, ⟨6, ⟨.some 19, .none, .len .s (.t 18)⟩, false, 12, 12⟩, ⟨7, ⟨.some 20, .none, .bin .add (.t 17) (.t 19)⟩, false, 0, 0⟩, ⟨8, ⟨.some 21, 
  .none, .slstr (.t 16) (.some (.t 20)) .none⟩, false, 0, 0⟩, ⟨9, ⟨.some 4, .none, .mv (.t 15)⟩, false, 0, 0⟩, ⟨10, ⟨.some 5, .none, .mv (.t 21)⟩, false, 0, 0⟩, ⟨11, ⟨.some 6, .none, 
  .mv (.c (.bool true))⟩, false, 0, 0⟩]) (.keep [4, 5, 6] .ret)) .skip)))) (.keep [0] (.seq (.reg [⟨.some 22, .none, .mv (.t 0)⟩, ⟨.some 4, .none, .mv (.t 22)⟩, ⟨.some 5, .none, .mv 
  (.c (.str []))⟩, ⟨.some 6, .none, .mv (.c (.bool false))⟩]) (.keep [4, 5, 6] .ret)))), [.tmp 4, .tmp 5, .tmp 6], false⟩
theorem ok42 : chkFn Go.Proofs.Tryd.prog Go.Proofs.Tryd.f42 fe42 = true := by kernel_rfl
/- "limnograph/label.pair" -/
def fe43 : FE :=
  ⟨1, .seq (.reg [⟨.some 2, .none, .alloc [.str [], .str []]⟩, ⟨.some 3, .none, .mv (.c (.int .i64 0))⟩]) (.seq (.reg [⟨.some 8, .none, .mv (.t 0)⟩, ⟨.some 9, .none, .call (.c (.fn 30 
  [])) [.t 8, .c (.str [61])]⟩, ⟨.some 7, .none, .mv (.t 9)⟩, ⟨.some 10, .none, .extract 0 (.t 7)⟩, ⟨.some 11, .none, .extract 1 (.t 7)⟩, ⟨.some 12, .none, .extract 2 (.t 7)⟩, ⟨.some 
  4, .none, .mv (.t 10)⟩, ⟨.some 5, .none, .mv (.t 11)⟩, ⟨.some 6, .none, .mv (.t 12)⟩]) (.keep [2, 4, 5, 6] (.seq (.seq (.reg [⟨.some 13, .none, .mv (.t 6)⟩, ⟨.some 14, .none, .un 
  .not (.t 13)⟩, ⟨.some 15, .none, .mv (.t 14)⟩, ⟨.some 16, .some (15, false), .mv (.t 4)⟩, ⟨.some 17, .some (15, false), .call (.c (.fn 34 [])) [.t 16]⟩, ⟨.some 18, .some (15, false), 
  .un .not (.t 17)⟩, ⟨.some 19, .none, .pick (.t 15) (.c (.bool true)) (.t 18)⟩, ⟨.some 20, .none, .mv (.t 19)⟩, ⟨.some 21, .some (20, false), .mv (.t 5)⟩, ⟨.some 22, .some (20, false), 
  .call (.c (.fn 35 [])) [.t 21]⟩, ⟨.some 23, .some (20, false), .un .not (.t 22)⟩, ⟨.some 24, .none, .pick (.t 20) (.c (.bool true)) (.t 23)⟩]) (.keep [2, 4, 5, 24] (.cond (.t 24) 
  (.seq (.reg [⟨.some 25, .none, .build [.str [], .str []] []⟩, ⟨.none, .none, .store 2 (.t 2) (.t 25)⟩, ⟨.some 3, .none, .mv (.c (.int .i64 3))⟩]) .ret) .skip))) (.keep [2, 4, 5] (.seq 
  (.reg [⟨.some 26, .none, .mv (.t 4)⟩, ⟨.some 27, .none, .mv (.t 5)⟩, ⟨.some 28, .none, .build [.str [], .str []] [(0, (1, .t 26)), (1, (1, .t 27))]⟩, ⟨.none, .none, .store 2 (.t 2) 
  (.t 28)⟩, ⟨.some 3, .none, .mv (.c (.int .i64 0))⟩]) (.keep [2, 3] .ret)))))), [.cell 2 2 true, .tmp 3], false⟩
theorem ok43 : chkFn Go.Proofs.Tryd.prog Go.Proofs.Tryd.f43 fe43 = true := by kernel_rfl
/- "limnograph/label.follows" -/
def fe44 : FE :=
  ⟨2, .seq (.reg [⟨.some 4, .none, .mv (.c (.int .i64 0))⟩]) (.seq (.seq (.reg [⟨.some 7, .none, .mv (.t 0)⟩, ⟨.some 8, .none, .len .l (.t 7)⟩, ⟨.some 9, .none, .mv (.c (.int .i64 0))⟩]) 
  (.block 0 (.loop [0, 1, 7, 8, 9] (.seq (.reg [⟨.some 10, .none, .bin .lss (.t 9) (.t 8)⟩]) (.seq (.cond (.t 10) .skip (.exit 0)) (.keep [0, 1, 7, 8, 9] (.seq (.block 1 (.seq (.reg 
  [⟨.some 11, .none, .iaddr 2 (.t 7) (.t 9)⟩, ⟨.some 12, .none, .load true 2 (.t 11)⟩, ⟨.some 6, .none, .alloc [.str [], .str []]⟩, ⟨.none, .none, .store 2 (.t 6) (.t 12)⟩]) (.keep 
  [0, 1, 6, 7, 8, 9] (.seq (.reg [⟨.some 13, .none, .faddr 0 (.t 6)⟩, ⟨.some 14, .none, .load false 1 (.t 13)⟩, ⟨.some 15, .none, .mv (.t 1)⟩, ⟨.some 16, .none, .bin .eql (.t 14) (.t 
  15)⟩]) (.keep [0, 1, 7, 8, 9, 16] (.cond (.t 16) (.seq (.reg [⟨.some 4, .none, .mv (.c (.int .i64 8))⟩]) .ret) .skip)))))) (.keep [0, 1, 7, 8, 9] (.reg [⟨.some 17, .none, .bin .add 
  (.t 9) (.c (.int .i64 1))⟩, ⟨.some 9, .none, .mv (.t 17)⟩]))))))))) (.keep [0, 1] (.seq (.seq (.reg [⟨.some 18, .none, .mv (.t 1)⟩, ⟨.some 19, .none, .mv (.t 0)⟩, ⟨.some 20, .none, 
  .mv (.t 0)⟩, ⟨.some 21, .none, .len .l (.t 20)⟩, ⟨.some 22, .none, .bin .sub (.t 21) (.c (.int .i64 1))⟩, ⟨.some 23, .none, .iaddr 2 (.t 19) (.t 22)⟩, ⟨.some 24, .none, .faddr 0 (.t 
  23)⟩, ⟨.some 25, .none, .load false 1 (.t 24)⟩, ⟨.some 26, .none, .bin .lss (.t 18) (.t 25)⟩]) (.keep [26] (.cond (.t 26) (.seq (.reg [⟨.some 4, .none, .mv (.c (.int .i64 9))⟩]) .ret) 
  .skip))) (.keep [] (.seq (.reg [⟨.some 4, .none, .mv (.c (.int .i64 0))⟩]) .ret))))), [.tmp 4], false⟩
theorem ok44 : chkFn Go.Proofs.Tryd.prog Go.Proofs.Tryd.f44 fe44 = true := by kernel_rfl
/- "limnograph/point.kinds" -/
def fe45 : FE :=
  ⟨1, .seq (.reg [⟨.some 1, .none, .box (.t 0)⟩, ⟨.some 2, .none, .mv (.c (.bool false))⟩]) (.seq (.seq (.reg [⟨.some 3, .none, .faddr 2 (.t 1)⟩, ⟨.some 4, .none, .load false 1 (.t 3)⟩]) 
  (.block 0 (.seq (.reg [⟨.some 6, .none, .bin .eql (.t 4) (.c (.int .i64 3))⟩, ⟨.some 5, .none, .mv (.t 6)⟩]) (.cond (.t 5) (.seq (.reg [⟨.some 7, .none, .faddr 3 (.t 1)⟩, ⟨.some 8, 
  .none, .load false 1 (.t 7)⟩, ⟨.some 9, .none, .bin .eql (.t 8) (.c (.int .i64 0))⟩, ⟨.some 2, .none, .mv (.t 9)⟩]) (.keep [2] .ret)) (.seq (.seq (.reg [⟨.some 11, .none, .bin .eql 
  (.t 4) (.c (.int .i64 1))⟩, ⟨.some 10, .none, .mv (.t 11)⟩]) (.cond (.t 10) .skip (.seq (.reg [⟨.some 12, .none, .bin .eql (.t 4) (.c (.int .i64 2))⟩, ⟨.some 10, .none, .mv (.t 12)⟩]) 
  (.cond (.t 10) .skip (.seq (.reg [⟨.some 13, .none, .bin .eql (.t 4) (.c (.int .i64 4))⟩, ⟨.some 10, .none, .mv (.t 13)⟩]) (.cond (.t 10) .skip (.reg [⟨.some 14, .none, .bin .eql 
  (.t 4) (.c (.int .i64 5))⟩, ⟨.some 10, .none, .mv (.t 14)⟩]))))))) (.keep [1, 10] (.cond (.t 10) (.seq (.reg [⟨.some 15, .none, .faddr 3 (.t 1)⟩, ⟨.some 16, .none, .load false 1 (.t 
  15)⟩, ⟨.some 17, .none, .bin .eql (.t 16) (.c (.int .i64 1))⟩, ⟨.some 18, .none, .mv (.t 17)⟩, ⟨.some 19, .some (18, false), .faddr 3 (.t 1)⟩, ⟨.some 20, .some (18, false), .load 
  false 1 (.t 19)⟩, ⟨.some 21, .some (18, false), .bin .eql (.t 20) (.c (.int .i64 2))⟩, ⟨.some 22, .none, .pick (.t 18) (.c (.bool true)) (.t 21)⟩, ⟨.some 2, .none, .mv (.t 22)⟩]) 
  (.keep [2] .ret)) .skip))))))) (.keep [] (.seq (.reg [⟨.some 2, .none, .mv (.c (.bool false))⟩]) .ret))), [.tmp 2], false⟩
theorem ok45 : chkFn Go.Proofs.Tryd.prog Go.Proofs.Tryd.f45 fe45 = true := by kernel_rfl
/- "limnograph/point.sum" -/
def fe46 : FE :=
  ⟨1, .seq (.reg [⟨.some 1, .none, .box (.t 0)⟩, ⟨.some 2, .none, .mv (.c (.bool false))⟩]) (.seq (.reg [⟨.some 3, .none, .faddr 2 (.t 1)⟩, ⟨.some 4, .none, .load false 1 (.t 3)⟩, ⟨.some 
  5, .none, .bin .eql (.t 4) (.c (.int .i64 1))⟩, ⟨.some 6, .none, .mv (.t 5)⟩, ⟨.some 7, .some (6, false), .faddr 2 (.t 1)⟩, ⟨.some 8, .some (6, false), .load false 1 (.t 7)⟩, ⟨.some 
  9, .some (6, false), .bin .eql (.t 8) (.c (.int .i64 2))⟩, ⟨.some 10, .none, .pick (.t 6) (.c (.bool true)) (.t 9)⟩, ⟨.some 2, .none, .mv (.t 10)⟩]) (.keep [2] .ret)), [.tmp 2], false⟩
theorem ok46 : chkFn Go.Proofs.Tryd.prog Go.Proofs.Tryd.f46 fe46 = true := by kernel_rfl
/- "limnograph/point.times" -/
def fe47 : FE :=
  ⟨1, .seq (.reg [⟨.some 1, .none, .box (.t 0)⟩, ⟨.some 2, .none, .mv (.c (.bool false))⟩]) (.seq (.seq (.reg [⟨.some 3, .none, .faddr 5 (.t 1)⟩, ⟨.some 4, .none, .load false 1 (.t 3)⟩, 
  ⟨.some 5, .none, .bin .lss (.t 4) (.c (.int .i64 0))⟩, ⟨.some 6, .none, .mv (.t 5)⟩, ⟨.some 7, .some (6, false), .faddr 6 (.t 1)⟩, ⟨.some 8, .some (6, false), .load false 1 (.t 7)⟩, 
  ⟨.some 9, .some (6, false), .bin .gtr (.t 8) (.c (.int .i64 4503599627370496))⟩, ⟨.some 10, .none, .pick (.t 6) (.c (.bool true)) (.t 9)⟩]) (.keep [1, 10] (.cond (.t 10) (.seq (.reg 
  [⟨.some 2, .none, .mv (.c (.bool false))⟩]) .ret) .skip))) (.keep [1] (.seq (.seq (.reg [⟨.some 11, .none, .faddr 2 (.t 1)⟩, ⟨.some 12, .none, .load false 1 (.t 11)⟩, ⟨.some 13, .none, 
  .bin .eql (.t 12) (.c (.int .i64 3))⟩]) (.cond (.t 13) (.seq (.reg [⟨.some 14, .none, .faddr 5 (.t 1)⟩, ⟨.some 15, .none, .load false 1 (.t 14)⟩, ⟨.some 16, .none, .faddr 6 (.t 1)⟩, 
  ⟨.some 17, .none, .load false 1 (.t 16)⟩, ⟨.some 18, .none, .bin .eql (.t 15) (.t 17)⟩, ⟨.some 2, .none, .mv (.t 18)⟩]) (.keep [2] .ret)) .skip)) (.keep [1] (.seq (.reg [⟨.some 19, 
  .none, .faddr 5 (.t 1)⟩, ⟨.some 20, .none, .load false 1 (.t 19)⟩, ⟨.some 21, .none, .faddr 6 (.t 1)⟩, ⟨.some 22, .none, .load false 1 (.t 21)⟩, ⟨.some 23, .none, .bin .lss (.t 20) 
  (.t 22)⟩, ⟨.some 2, .none, .mv (.t 23)⟩]) (.keep [2] .ret)))))), [.tmp 2], false⟩
theorem ok47 : chkFn Go.Proofs.Tryd.prog Go.Proofs.Tryd.f47 fe47 = true := by kernel_rfl
/- "limnograph/point.own" -/
def fe48 : FE :=
  ⟨1, .seq (.reg [⟨.some 1, .none, .box (.t 0)⟩, ⟨.some 2, .none, .mv (.c (.bool false))⟩]) (.seq (.reg [⟨.some 4, .none, .faddr 2 (.t 1)⟩, ⟨.some 5, .none, .load false 1 (.t 4)⟩, ⟨.some 
  6, .none, .bin .eql (.t 5) (.c (.int .i64 2))⟩, ⟨.some 7, .none, .mv (.t 6)⟩, ⟨.some 8, .some (7, false), .faddr 2 (.t 1)⟩, ⟨.some 9, .some (7, false), .load false 1 (.t 8)⟩, ⟨.some 
  10, .some (7, false), .bin .eql (.t 9) (.c (.int .i64 3))⟩, ⟨.some 11, .none, .pick (.t 7) (.c (.bool true)) (.t 10)⟩, ⟨.some 12, .none, .mv (.t 11)⟩, ⟨.some 13, .some (12, false), 
  .faddr 2 (.t 1)⟩, ⟨.some 14, .some (12, false), .load false 1 (.t 13)⟩, ⟨.some 15, .some (12, false), .bin .eql (.t 14) (.c (.int .i64 5))⟩, ⟨.some 16, .none, .pick (.t 12) (.c (.bool 
  true)) (.t 15)⟩, ⟨.some 3, .none, .mv (.t 16)⟩]) (.keep [1, 3] (.seq (.block 0 (.seq (.seq (.reg [⟨.some 18, .none, .faddr 2 (.t 1)⟩, ⟨.some 19, .none, .load false 1 (.t 18)⟩, ⟨.some 
  20, .none, .bin .neq (.t 19) (.c (.int .i64 1))⟩, ⟨.some 21, .none, .mv (.t 20)⟩, ⟨.some 22, .some (21, true), .faddr 7 (.t 1)⟩, ⟨.some 23, .some (21, true), .load false 1 (.t 22)⟩, 
  ⟨.some 24, .some (21, true), .bin .neq (.t 23) (.c (.int .i64 0))⟩, ⟨.some 25, .none, .pick (.t 21) (.t 24) (.c (.bool false))⟩, ⟨.some 17, .none, .mv (.t 25)⟩]) (.keep [1, 3, 17] 
  (.cond (.t 17) .skip (.seq (.reg [⟨.some 26, .none, .mv (.t 3)⟩, ⟨.some 27, .none, .un .not (.t 26)⟩, ⟨.some 28, .none, .mv (.t 27)⟩, ⟨.some 29, .some (28, true), .faddr 8 (.t 1)⟩, 
  ⟨.some 30, .some (28, true), .load false 1 (.t 29)⟩, ⟨.some 31, .some (28, true), .bin .neq (.t 30) (.c (.int .u64 0))⟩, ⟨.some 32, .none, .pick (.t 28) (.t 31) (.c (.bool false))⟩, 
  ⟨.some 17, .none, .mv (.t 32)⟩]) (.keep [1, 17] (.cond (.t 17) .skip (.seq (.reg [⟨.some 33, .none, .faddr 2 (.t 1)⟩, ⟨.some 34, .none, .load false 1 (.t 33)⟩, ⟨.some 35, .none, .bin 
  .neq (.t 34) (.c (.int .i64 5))⟩, ⟨.some 36, .none, .mv (.t 35)⟩, ⟨.some 37, .some (36, true), .faddr 9 (.t 1)⟩, ⟨.some 38, .some (36, true), .load false 1 (.t 37)⟩, ⟨.some 39, .some 
  (36, true), .bin .neq (.t 38) (.c (.int .u64 0))⟩, ⟨.some 40, .none, .pick (.t 36) (.t 39) (.c (.bool false))⟩, ⟨.some 17, .none, .mv (.t 40)⟩]) (.keep [1, 17] (.cond (.t 17) .skip 
  (.seq (.reg [⟨.some 41, .none, .faddr 2 (.t 1)⟩, ⟨.some 42, .none, .load false 1 (.t 41)⟩, ⟨.some 43, .none, .bin .neq (.t 42) (.c (.int .i64 4))⟩, ⟨.some 44, .none, .mv (.t 43)⟩, 
  ⟨.some 45, .some (44, true), .faddr 10 (.t 1)⟩, ⟨.some 46, .some (44, true), .load true 6 (.t 45)⟩, ⟨.some 47, .some (44, true), .call (.c (.fn 62 [])) [.t 46]⟩, ⟨.some 48, .some 
  (44, true), .un .not (.t 47)⟩, ⟨.some 49, .none, .pick (.t 44) (.t 48) (.c (.bool false))⟩, ⟨.some 17, .none, .mv (.t 49)⟩]) (.keep [1, 17] (.cond (.t 17) .skip (.reg [⟨.some 50, 
  .none, .faddr 16 (.t 1)⟩, ⟨.some 51, .none, .load false 1 (.t 50)⟩, ⟨.some 52, .none, .bin .lss (.t 51) (.c (.int .i64 0))⟩, ⟨.some 53, .none, .mv (.t 52)⟩, ⟨.some 54, .some (53, 
  false), .faddr 16 (.t 1)⟩, ⟨.some 55, .some (53, false), .load false 1 (.t 54)⟩, ⟨.some 56, .some (53, false), .bin .gtr (.t 55) (.c (.int .i64 31))⟩, ⟨.some 57, .none, .pick (.t 
  53) (.c (.bool true)) (.t 56)⟩, ⟨.some 17, .none, .mv (.t 57)⟩]))))))))))))) (.keep [17] (.cond (.t 17) (.seq (.reg [⟨.some 2, .none, .mv (.c (.bool false))⟩]) .ret) .skip)))) (.keep 
  [] (.seq (.reg [⟨.some 2, .none, .mv (.c (.bool true))⟩]) .ret))))), [.tmp 2], false⟩
theorem ok48 : chkFn Go.Proofs.Tryd.prog Go.Proofs.Tryd.f48 fe48 = true := by kernel_rfl
/- "limnograph/num.Finite" -/
def fe49 : FE :=
  ⟨1, .seq (.reg [⟨.some 2, .none, .mv (.c (.bool false))⟩]) (.seq (.reg [⟨.some 3, .none, .mv (.t 0)⟩, ⟨.some 4, .none, .bin .and (.t 3) (.c (.int .u64 9218868437227405312))⟩, ⟨.some 
  5, .none, .bin .neq (.t 4) (.c (.int .u64 9218868437227405312))⟩, ⟨.some 2, .none, .mv (.t 5)⟩]) (.keep [2] .ret)), [.tmp 2], false⟩
theorem ok49 : chkFn Go.Proofs.Tryd.prog Go.Proofs.Tryd.f49 fe49 = true := by kernel_rfl
/- "limnograph/num.Less" -/
def fe50 : FE :=
  ⟨2, .seq (.reg [⟨.some 4, .none, .mv (.c (.bool false))⟩]) (.seq (.reg [⟨.some 5, .none, .mv (.t 0)⟩, ⟨.some 6, .none, .call (.c (.fn 63 [])) [.t 5]⟩, ⟨.some 7, .none, .mv (.t 1)⟩, 
  ⟨.some 8, .none, .call (.c (.fn 63 [])) [.t 7]⟩, ⟨.some 9, .none, .bin .lss (.t 6) (.t 8)⟩, ⟨.some 4, .none, .mv (.t 9)⟩]) (.keep [4] .ret)), [.tmp 4], false⟩
theorem ok50 : chkFn Go.Proofs.Tryd.prog Go.Proofs.Tryd.f50 fe50 = true := by kernel_rfl
/- "limnograph/hist.Check" -/
def fe51 : FE :=
  ⟨1, .seq (.reg [⟨.some 1, .none, .box (.t 0)⟩, ⟨.some 2, .none, .mv (.c (.int .i64 0))⟩]) (.seq (.seq (.reg [⟨.some 8, .none, .faddr 0 (.t 1)⟩, ⟨.some 9, .none, .load false 1 (.t 8)⟩, 
  ⟨.some 10, .none, .bin .lss (.t 9) (.c (.int .i64 (-10)))⟩, ⟨.some 11, .none, .mv (.t 10)⟩, ⟨.some 12, .some (11, false), .faddr 0 (.t 1)⟩, ⟨.some 13, .some (11, false), .load false 
  1 (.t 12)⟩, ⟨.some 14, .some (11, false), .bin .gtr (.t 13) (.c (.int .i64 20))⟩, ⟨.some 15, .none, .pick (.t 11) (.c (.bool true)) (.t 14)⟩]) (.keep [1, 15] (.cond (.t 15) (.seq 
  (.reg [⟨.some 2, .none, .mv (.c (.int .i64 1))⟩]) .ret) .skip))) (.keep [1] (.seq (.seq (.reg [⟨.some 16, .none, .load true 6 (.t 1)⟩, ⟨.some 17, .none, .call (.c (.fn 64 [])) [.t 
  16]⟩, ⟨.some 18, .none, .mv (.c (.int .i64 0))⟩]) (.block 0 (.loop [1, 17, 18] (.seq (.reg [⟨.some 19, .none, .bin .lss (.t 18) (.c (.int .i64 2))⟩]) (.seq (.cond (.t 19) .skip (.exit 
  0)) (.keep [1, 17, 18] (.seq (.block 1 (.seq (.reg [⟨.some 20, .none, .idxa 2 2 true (.t 17) (.t 18)⟩, ⟨.some 4, .none, .alloc [.int .i64 0, .slc .nil []]⟩, ⟨.none, .none, .store 
  2 (.t 4) (.t 20)⟩]) (.seq (.reg [⟨.some 21, .none, .load true 2 (.t 4)⟩, ⟨.some 22, .none, .call (.c (.fn 65 [])) [.t 21]⟩, ⟨.some 5, .none, .mv (.t 22)⟩]) (.seq (.reg [⟨.some 23, 
  .none, .mv (.t 5)⟩, ⟨.some 24, .none, .bin .neq (.t 23) (.c (.int .i64 0))⟩]) (.cond (.t 24) (.seq (.reg [⟨.some 25, .none, .mv (.t 5)⟩, ⟨.some 2, .none, .mv (.t 25)⟩]) .ret) .skip))))) 
  (.keep [1, 17, 18] (.reg [⟨.some 26, .none, .bin .add (.t 18) (.c (.int .i64 1))⟩, ⟨.some 18, .none, .mv (.t 26)⟩]))))))))) (.keep [1] (.seq (.seq (.reg [⟨.some 28, .none, .load true 
  6 (.t 1)⟩, ⟨.some 29, .none, .call (.c (.fn 66 [])) [.t 28]⟩, ⟨.some 27, .none, .mv (.t 29)⟩, ⟨.some 30, .none, .extract 0 (.t 27)⟩, ⟨.some 31, .none, .extract 1 (.t 27)⟩, ⟨.some 
  6, .none, .mv (.t 30)⟩, ⟨.some 7, .none, .mv (.t 31)⟩]) (.keep [7] (.seq (.reg [⟨.some 32, .none, .mv (.t 7)⟩, ⟨.some 33, .none, .un .not (.t 32)⟩]) (.cond (.t 33) (.seq (.reg [⟨.some 
  2, .none, .mv (.c (.int .i64 4))⟩]) .ret) .skip)))) (.keep [] (.seq (.reg [⟨.some 2, .none, .mv (.c (.int .i64 0))⟩]) .ret))))))), [.tmp 2], false⟩
theorem ok51 : chkFn Go.Proofs.Tryd.prog Go.Proofs.Tryd.f51 fe51 = true := by kernel_rfl
/- "(*limnograph/glob.set).span" -/
def fe52 : FE :=
  ⟨3, .seq (.reg [⟨.some 7, .none, .mv (.t 1)⟩, ⟨.some 8, .none, .i2i .i64 (.t 7)⟩, ⟨.some 6, .none, .mv (.t 8)⟩]) (.block 0 (.loop [0, 2, 6] (.seq (.seq (.reg [⟨.some 9, .none, .mv (.t 
  6)⟩, ⟨.some 10, .none, .mv (.t 2)⟩, ⟨.some 11, .none, .i2i .i64 (.t 10)⟩, ⟨.some 12, .none, .bin .leq (.t 9) (.t 11)⟩]) (.keep [0, 2, 6, 12] (.cond (.t 12) .skip (.exit 0)))) (.keep 
  [0, 2, 6] (.seq (.block 1 (.reg [⟨.some 15, .none, .mv (.t 0)⟩, ⟨.some 16, .none, .mv (.t 6)⟩, ⟨.some 17, .none, .i2i .u8 (.t 16)⟩, ⟨.some 18, .none, .call (.c (.fn 67 [])) [.t 15, 
  .t 17]⟩])) (.keep [0, 2, 6] (.reg [⟨.some 13, .none, .mv (.t 6)⟩, ⟨.some 14, .none, .bin .add (.t 13) (.c (.int .i64 1))⟩, ⟨.some 6, .none, .mv (.t 14)⟩]))))))), [], false⟩
theorem ok52 : chkFn Go.Proofs.Tryd.prog Go.Proofs.Tryd.f52 fe52 = true := by kernel_rfl
/- "limnograph/glob.class" -/
def fe53 : FE :=
  ⟨2, .seq (.reg [⟨.some 4, .none, .alloc [.int .i64 0, .int .u64 0, .int .u64 0, .int .u64 0, .int .u64 0, .bool false, .int .u8 0]⟩, ⟨.some 5, .none, .mv (.c (.int .i64 0))⟩, ⟨.some 
  6, .none, .alloc [.int .i64 0, .int .i64 0]⟩]) (.seq (.reg [⟨.some 7, .none, .alloc [.int .i64 0, .int .u64 0, .int .u64 0, .int .u64 0, .int .u64 0, .bool false, .int .u8 0]⟩]) (.seq 
  (.reg [⟨.some 18, .none, .mv (.t 1)⟩, ⟨.some 19, .none, .bin .add (.t 18) (.c (.int .i64 1))⟩, ⟨.some 8, .none, .mv (.t 19)⟩]) (.seq (.reg [⟨.some 20, .none, .mv (.t 8)⟩, ⟨.some 21, 
  .none, .mv (.t 0)⟩, ⟨.some 22, .none, .len .s (.t 21)⟩, ⟨.some 23, .none, .bin .lss (.t 20) (.t 22)⟩, ⟨.some 24, .none, .mv (.t 23)⟩, ⟨.some 25, .some (24, true), .mv (.t 0)⟩, ⟨.some 
  26, .some (24, true), .mv (.t 8)⟩, ⟨.some 27, .some (24, true), .idxs (.t 25) (.t 26)⟩, ⟨.some 28, .some (24, true), .bin .eql (.t 27) (.c (.int .u8 33))⟩, ⟨.some 29, .none, .pick 
  (.t 24) (.t 28) (.c (.bool false))⟩, ⟨.some 9, .none, .mv (.t 29)⟩]) (.keep [0, 1, 4, 6, 7, 8, 9] (.seq (.seq (.reg [⟨.some 30, .none, .mv (.t 9)⟩]) (.cond (.t 30) (.reg [⟨.some 31, 
  .none, .mv (.t 8)⟩, ⟨.some 32, .none, .bin .add (.t 31) (.c (.int .i64 1))⟩, ⟨.some 8, .none, .mv (.t 32)⟩]) .skip)) (.keep [0, 1, 4, 6, 7, 8, 9] (.seq (.reg [⟨.some 33, .none, .mv 
  (.t 8)⟩, ⟨.some 10, .none, .mv (.t 33)⟩]) (.seq (.seq (.reg [⟨.some 34, .none, .mv (.t 0)⟩, ⟨.some 35, .none, .mv (.t 8)⟩, ⟨.some 36, .none, .call (.c (.fn 68 [])) [.t 34, .t 35]⟩, 
  ⟨.some 37, .none, .un .not (.t 36)⟩]) (.keep [0, 1, 4, 6, 7, 8, 9, 10, 37] (.cond (.t 37) (.seq (.reg [⟨.some 38, .none, .load true 7 (.t 7)⟩, ⟨.some 39, .none, .mv (.t 1)⟩, ⟨.some 
  40, .none, .build [.int .i64 0, .int .i64 0] [(0, (1, .t 39)), (1, (1, .c (.int .i64 2)))]⟩, ⟨.none, .none, .store 7 (.t 4) (.t 38)⟩, ⟨.some 5, .none, .mv (.c (.int .i64 0))⟩, ⟨.none, 
  .none, .store 2 (.t 6) (.t 40)⟩]) (.keep [4, 5, 6] .ret)) .skip))) (.keep [0, 1, 4, 6, 7, 8, 9, 10] (.seq (.block 0 (.loop [0, 1, 4, 6, 7, 8, 9, 10] (.seq (.seq (.reg [⟨.some 41, 
  .none, .mv (.t 0)⟩, ⟨.some 42, .none, .mv (.t 8)⟩, ⟨.some 43, .none, .idxs (.t 41) (.t 42)⟩, ⟨.some 44, .none, .bin .neq (.t 43) (.c (.int .u8 93))⟩]) (.keep [0, 1, 4, 6, 7, 8, 9, 
  10, 44] (.cond (.t 44) .skip (.exit 0)))) (.keep [0, 1, 4, 6, 7, 8, 9, 10] (.block 1 (.seq (.seq (.reg [⟨.some 45, .none, .mv (.t 0)⟩, ⟨.some 46, .none, .mv (.t 8)⟩, ⟨.some 47, .none, 
  .idxs (.t 45) (.t 46)⟩, ⟨.some 48, .none, .bin .eql (.t 47) (.c (.int .u8 45))⟩]) (.keep [0, 1, 4, 6, 7, 8, 9, 10, 48] (.cond (.t 48) (.seq (.seq (.reg [⟨.some 49, .none, .mv (.t 
  0)⟩, ⟨.some 50, .none, .mv (.t 8)⟩, ⟨.some 51, .none, .bin .add (.t 50) (.c (.int .i64 1))⟩, ⟨.some 52, .none, .idxs (.t 49) (.t 51)⟩, ⟨.some 53, .none, .bin .neq (.t 52) (.c (.int 
  .u8 93))⟩]) (.keep [0, 1, 4, 6, 7, 8, 9, 10, 53] (.cond (.t 53) (.seq (.reg [⟨.some 54, .none, .load true 7 (.t 7)⟩, ⟨.some 55, .none, .mv (.t 8)⟩, ⟨.some 56, .none, .build [.int 
  .i64 0, .int .i64 0] [(0, (1, .t 55)), (1, (1, .c (.int .i64 3)))]⟩, ⟨.none, .none, .store 7 (.t 4) (.t 54)⟩, ⟨.some 5, .none, .mv (.c (.int .i64 0))⟩, ⟨.none, .none, .store 2 (.t 
  6) (.t 56)⟩]) (.keep [4, 5, 6] .ret)) .skip))) (.keep [0, 1, 4, 6, 7, 8, 9, 10] (.seq (.reg [⟨.some 57, .none, .faddr 1 (.t 7)⟩, ⟨.some 58, .none, .call (.c (.fn 67 [])) [.t 57, .c 
  (.int .u8 45)]⟩]) (.seq (.reg [⟨.some 59, .none, .mv (.t 8)⟩, ⟨.some 60, .none, .bin .add (.t 59) (.c (.int .i64 1))⟩, ⟨.some 8, .none, .mv (.t 60)⟩]) (.exit 1))))) .skip))) (.keep 
  [0, 1, 4, 6, 7, 8, 9, 10] (.seq (.reg [⟨.some 62, .none, .mv (.t 0)⟩, ⟨.some 63, .none, .mv (.t 8)⟩, ⟨.some 64, .none, .call (.c (.fn 69 [])) [.t 62, .t 63]⟩, ⟨.some 61, .none, .mv 
  (.t 64)⟩, ⟨.some 65, .none, .extract 0 (.t 61)⟩, ⟨.some 66, .none, .extract 1 (.t 61)⟩, ⟨.some 11, .none, .mv (.t 65)⟩, ⟨.some 12, .none, .mv (.t 66)⟩]) (.keep [0, 1, 4, 6, 7, 8, 
  9, 10, 11, 12] (.seq (.reg [⟨.some 67, .none, .mv (.t 11)⟩, ⟨.some 13, .none, .mv (.t 67)⟩]) (.seq (.seq (.reg [⟨.some 68, .none, .mv (.t 8)⟩, ⟨.some 69, .none, .mv (.t 12)⟩, ⟨.some 
  70, .none, .bin .add (.t 68) (.t 69)⟩, ⟨.some 14, .none, .mv (.t 70)⟩]) (.keep [0, 1, 4, 6, 7, 8, 9, 10, 11, 12, 13, 14] (.seq (.reg [⟨.some 71, .none, .mv (.t 0)⟩, ⟨.some 72, .none, 
  .mv (.t 14)⟩, ⟨.some 73, .none, .idxs (.t 71) (.t 72)⟩, ⟨.some 74, .none, .bin .eql (.t 73) (.c (.int .u8 45))⟩, ⟨.some 75, .none, .mv (.t 74)⟩, ⟨.some 76, .some (75, true), .mv (.t 
  0)⟩, ⟨.some 77, .some (75, true), .mv (.t 14)⟩, ⟨.some 78, .some (75, true), .bin .add (.t 77) (.c (.int .i64 1))⟩, ⟨.some 79, .some (75, true), .idxs (.t 76) (.t 78)⟩, ⟨.some 80, 
  .some (75, true), .bin .neq (.t 79) (.c (.int .u8 93))⟩, ⟨.some 81, .none, .pick (.t 75) (.t 80) (.c (.bool false))⟩, ⟨.some 82, .none, .mv (.t 81)⟩, ⟨.some 83, .some (82, true), 
  .mv (.t 0)⟩, ⟨.some 84, .some (82, true), .mv (.t 14)⟩, ⟨.some 85, .some (82, true), .bin .add (.t 84) (.c (.int .i64 1))⟩, ⟨.some 86, .some (82, true), .idxs (.t 83) (.t 85)⟩, ⟨.some 
  87, .some (82, true), .bin .neq (.t 86) (.c (.int .u8 45))⟩, ⟨.some 88, .none, .pick (.t 82) (.t 87) (.c (.bool false))⟩]) (.keep [0, 1, 4, 6, 7, 8, 9, 10, 11, 12, 13, 14, 88] (.cond 
  (.t 88) (.seq (.reg [⟨.some 90, .none, .mv (.t 0)⟩, ⟨.some 91, .none, .mv (.t 14)⟩, ⟨.some 92, .none, .bin .add (.t 91) (.c (.int .i64 1))⟩, ⟨.some 93, .none, .call (.c (.fn 69 [])) 
  [.t 90, .t 92]⟩, ⟨.some 89, .none, .mv (.t 93)⟩, ⟨.some 94, .none, .extract 0 (.t 89)⟩, ⟨.some 95, .none, .extract 1 (.t 89)⟩, ⟨.some 15, .none, .mv (.t 94)⟩, ⟨.some 16, .none, .mv 
  (.t 95)⟩]) (.keep [0, 1, 4, 6, 7, 8, 9, 10, 11, 12, 15, 16] (.seq (.seq (.reg [⟨.some 96, .none, .mv (.t 15)⟩, ⟨.some 97, .none, .mv (.t 11)⟩, ⟨.some 98, .none, .bin .lss (.t 96) 
  (.t 97)⟩]) (.cond (.t 98) (.seq (.reg [⟨.some 99, .none, .load true 7 (.t 7)⟩, ⟨.some 100, .none, .mv (.t 8)⟩, ⟨.some 101, .none, .build [.int .i64 0, .int .i64 0] [(0, (1, .t 100)), 
  (1, (1, .c (.int .i64 3)))]⟩, ⟨.none, .none, .store 7 (.t 4) (.t 99)⟩, ⟨.some 5, .none, .mv (.c (.int .i64 0))⟩, ⟨.none, .none, .store 2 (.t 6) (.t 101)⟩]) (.keep [4, 5, 6] .ret)) 
  .skip)) (.keep [0, 1, 4, 6, 7, 8, 9, 10, 11, 12, 15, 16] (.reg [⟨.some 102, .none, .mv (.t 15)⟩, ⟨.some 103, .none, .mv (.t 12)⟩, ⟨.some 104, .none, .bin .add (.t 103) (.c (.int .i64 
  1))⟩, ⟨.some 105, .none, .mv (.t 16)⟩, ⟨.some 106, .none, .bin .add (.t 104) (.t 105)⟩, ⟨.some 13, .none, .mv (.t 102)⟩, ⟨.some 12, .none, .mv (.t 106)⟩]))))) .skip))))) (.keep [0, 
  1, 4, 6, 7, 8, 9, 10, 11, 12, 13] (.seq (.reg [⟨.some 107, .none, .faddr 1 (.t 7)⟩, ⟨.some 108, .none, .mv (.t 11)⟩, ⟨.some 109, .none, .mv (.t 13)⟩, ⟨.some 110, .none, .call (.c 
  (.fn 52 [])) [.t 107, .t 108, .t 109]⟩]) (.keep [0, 1, 4, 6, 7, 8, 9, 10, 12] (.reg [⟨.some 111, .none, .mv (.t 8)⟩, ⟨.some 112, .none, .mv (.t 12)⟩, ⟨.some 113, .none, .bin .add 
  (.t 111) (.t 112)⟩, ⟨.some 8, .none, .mv (.t 113)⟩]))))))))))))))) (.keep [1, 4, 6, 7, 8, 9, 10] (.seq (.seq (.reg [⟨.some 114, .none, .mv (.t 8)⟩, ⟨.some 115, .none, .mv (.t 10)⟩, 
  ⟨.some 116, .none, .bin .eql (.t 114) (.t 115)⟩]) (.cond (.t 116) (.seq (.reg [⟨.some 117, .none, .load true 7 (.t 7)⟩, ⟨.some 118, .none, .mv (.t 1)⟩, ⟨.some 119, .none, .build [.int 
  .i64 0, .int .i64 0] [(0, (1, .t 118)), (1, (1, .c (.int .i64 3)))]⟩, ⟨.none, .none, .store 7 (.t 4) (.t 117)⟩, ⟨.some 5, .none, .mv (.c (.int .i64 0))⟩, ⟨.none, .none, .store 2 (.t 
  6) (.t 119)⟩]) (.keep [4, 5, 6] .ret)) .skip)) (.keep [1, 4, 6, 7, 8, 9] (.seq (.seq (.reg [⟨.some 120, .none, .mv (.t 9)⟩]) (.cond (.t 120) (.seq (.reg [⟨.some 121, .none, .mv (.c 
  (.int .i64 0))⟩]) (.block 2 (.loop [1, 4, 6, 7, 8, 121] (.seq (.reg [⟨.some 122, .none, .bin .lss (.t 121) (.c (.int .i64 4))⟩]) (.seq (.cond (.t 122) .skip (.exit 2)) (.keep [1, 
  4, 6, 7, 8, 121] (.seq (.block 3 (.seq (.reg [⟨.some 123, .none, .mv (.t 121)⟩, ⟨.some 17, .none, .mv (.t 123)⟩]) (.reg [⟨.some 124, .none, .mv (.t 17)⟩, ⟨.some 125, .none, .mv (.t 
  17)⟩, ⟨.some 126, .none, .faddr 1 (.t 7)⟩, ⟨.some 127, .none, .iaddra 4 1 (.t 126) (.t 125)⟩, ⟨.some 128, .none, .load false 1 (.t 127)⟩, ⟨.some 129, .none, .un .xor (.t 128)⟩, ⟨.some 
  130, .none, .faddr 1 (.t 7)⟩, ⟨.some 131, .none, .iaddra 4 1 (.t 130) (.t 124)⟩, ⟨.none, .none, .store 1 (.t 131) (.t 129)⟩]))) (.keep [1, 4, 6, 7, 8, 121] (.reg [⟨.some 132, .none, 
  .bin .add (.t 121) (.c (.int .i64 1))⟩, ⟨.some 121, .none, .mv (.t 132)⟩]))))))))) .skip)) (.keep [1, 4, 6, 7, 8] (.seq (.dreg [⟨0, ⟨.some 133, .none, .load true 7 (.t 7)⟩, false, 
  6, 6⟩, ⟨1, ⟨.some 134, .none, .mv (.t 8)⟩, false, 0, 0⟩, ⟨2, ⟨.some 135, .none, .bin .add (.t 134) (.c (.int .i64 1))⟩, false, 0, 0⟩, ⟨3, ⟨.some 136, .none, .mv (.t 1)⟩, false, 0, 
  0⟩, ⟨4, ⟨.some 137, .none, .bin .sub (.t 135) (.t 136)⟩, false, 0, 0⟩, ⟨5, ⟨.some 138, .none, .load true 2 (.g 0)⟩, false, 6, 8⟩, ⟨6, ⟨.none, .none, .store 7 (.t 4) (.t 133)⟩, true, 
  0, 0⟩, ⟨7, ⟨.some 5, .none, .mv (.t 137)⟩, false, 0, 0⟩, ⟨8, ⟨.none, .none, .store 2 (.t 6) (.t 138)⟩, true, 0, 0⟩]) (.keep [4, 5, 6] .ret))))))))))))))))), [.cell 4 7 true, .tmp 
  5, .cell 6 2 true], false⟩
theorem ok53 : chkFn Go.Proofs.Tryd.prog Go.Proofs.Tryd.f53 fe53 = true := by kernel_rfl
/- "limnograph/glob.byteOf" -/
def fe54 : FE :=
  ⟨1, .seq (.reg [⟨.some 2, .none, .alloc [.int .i64 0, .int .u64 0, .int .u64 0, .int .u64 0, .int .u64 0, .bool false, .int .u8 0]⟩]) (.seq (.reg [⟨.some 4, .none, .mv (.t 0)⟩, ⟨.some 
  5, .none, .build [.int .i64 0, .int .u64 0, .int .u64 0, .int .u64 0, .int .u64 0, .bool false, .int .u8 0] [(5, (1, .c (.bool true))), (6, (1, .t 4))]⟩, ⟨.some 3, .none, .alloc [.int 
  .i64 0, .int .u64 0, .int .u64 0, .int .u64 0, .int .u64 0, .bool false, .int .u8 0]⟩, ⟨.none, .none, .store 7 (.t 3) (.t 5)⟩]) (.keep [0, 2, 3] (.seq (.reg [⟨.some 6, .none, .faddr 
  1 (.t 3)⟩, ⟨.some 7, .none, .mv (.t 0)⟩, ⟨.some 8, .none, .call (.c (.fn 67 [])) [.t 6, .t 7]⟩]) (.seq (.reg [⟨.some 9, .none, .load true 7 (.t 3)⟩, ⟨.none, .none, .store 7 (.t 2) 
  (.t 9)⟩]) .ret)))), [.cell 2 7 true], false⟩
theorem ok54 : chkFn Go.Proofs.Tryd.prog Go.Proofs.Tryd.f54 fe54 = true := by kernel_rfl
/- "limnograph/label.small" -/
def fe55 : FE :=
  ⟨1, .seq (.reg [⟨.some 2, .none, .mv (.c (.bool false))⟩]) (.seq (.reg [⟨.some 3, .none, .mv (.t 0)⟩, ⟨.some 4, .none, .bin .geq (.t 3) (.c (.int .u8 97))⟩, ⟨.some 5, .none, .mv (.t 
  4)⟩, ⟨.some 6, .some (5, true), .mv (.t 0)⟩, ⟨.some 7, .some (5, true), .bin .leq (.t 6) (.c (.int .u8 122))⟩, ⟨.some 8, .none, .pick (.t 5) (.t 7) (.c (.bool false))⟩, ⟨.some 2, 
  .none, .mv (.t 8)⟩]) (.keep [2] .ret)), [.tmp 2], false⟩
theorem ok55 : chkFn Go.Proofs.Tryd.prog Go.Proofs.Tryd.f55 fe55 = true := by kernel_rfl
/- "slices.IndexFunc[[]limnograph/api.Pair,limnograph/api.Pair]" -/
def fe56 : FE :=
  ⟨2, .seq (.reg [⟨.some 4, .none, .mv (.c (.int .i64 0))⟩]) (.seq (.seq (.reg [⟨.some 6, .none, .mv (.t 0)⟩, ⟨.some 7, .none, .len .l (.t 6)⟩, ⟨.some 8, .none, .mv (.c (.int .i64 0))⟩]) 
  (.block 0 (.loop [0, 1, 7, 8] (.seq (.reg [⟨.some 9, .none, .bin .lss (.t 8) (.t 7)⟩]) (.seq (.cond (.t 9) .skip (.exit 0)) (.keep [0, 1, 7, 8] (.seq (.block 1 (.seq (.reg [⟨.some 
  10, .none, .mv (.t 8)⟩, ⟨.some 5, .none, .mv (.t 10)⟩]) (.seq (.reg [⟨.some 11, .none, .mv (.t 1)⟩, ⟨.some 12, .none, .mv (.t 0)⟩, ⟨.some 13, .none, .mv (.t 5)⟩, ⟨.some 14, .none, 
  .iaddr 2 (.t 12) (.t 13)⟩, ⟨.some 15, .none, .load true 2 (.t 14)⟩, ⟨.some 16, .none, .call (.t 11) [.t 15]⟩]) (.keep [0, 1, 5, 7, 8, 16] (.cond (.t 16) (.seq (.reg [⟨.some 17, .none, 
  .mv (.t 5)⟩, ⟨.some 4, .none, .mv (.t 17)⟩]) .ret) .skip))))) (.keep [0, 1, 7, 8] (.reg [⟨.some 18, .none, .bin .add (.t 8) (.c (.int .i64 1))⟩, ⟨.some 8, .none, .mv (.t 18)⟩]))))))))) 
  (.keep [] (.seq (.reg [⟨.some 4, .none, .mv (.c (.int .i64 (-1)))⟩]) .ret))), [.tmp 4], false⟩
theorem ok56 : chkFn Go.Proofs.Tryd.prog Go.Proofs.Tryd.f56 fe56 = true := by kernel_rfl
/- "maps.Keys[map[limnograph/api.Pair][]int,limnograph/api.Pair,[]int]" -/
def fe57 : FE :=
  ⟨1, .seq (.reg [⟨.some 1, .none, .box (.t 0)⟩, ⟨.some 2, .none, .mv (.c .nilf)⟩]) (.seq (.reg [⟨.some 3, .none, .mkfn 70 [.t 1]⟩, ⟨.some 2, .none, .mv (.t 3)⟩]) .ret), [.tmp 2], false⟩
theorem ok57 : chkFn Go.Proofs.Tryd.prog Go.Proofs.Tryd.f57 fe57 = true := by kernel_rfl
/- "slices.Sort[[]string,string]" -/
def fe58 : FE :=
  ⟨1, .seq (.reg [⟨.some 3, .none, .mv (.t 0)⟩, ⟨.some 4, .none, .len .l (.t 3)⟩, ⟨.some 2, .none, .mv (.t 4)⟩]) (.reg [⟨.some 5, .none, .mv (.t 0)⟩, ⟨.some 6, .none, .mv (.t 2)⟩, ⟨.some 
  7, .none, .mv (.t 2)⟩, ⟨.some 8, .none, .i2i .u64 (.t 7)⟩, ⟨.some 9, .none, .call (.c (.fn 72 [])) [.t 8]⟩, ⟨.some 10, .none, .call (.c (.fn 71 [])) [.t 5, .c (.int .i64 0), .t 6, 
  .t 9]⟩]), [], false⟩
theorem ok58 : chkFn Go.Proofs.Tryd.prog Go.Proofs.Tryd.f58 fe58 = true := by kernel_rfl
/- "(*limnograph/glob.set).has" -/
def fe59 : FE :=
  ⟨2, .seq (.reg [⟨.some 4, .none, .mv (.c (.bool false))⟩]) (.seq (.reg [⟨.some 5, .none, .mv (.t 0)⟩, ⟨.some 6, .none, .mv (.t 1)⟩, ⟨.some 7, .none, .bin .quo (.t 6) (.c (.int .u8 64))⟩, 
  ⟨.some 8, .none, .nilck (.t 5)⟩, ⟨.some 9, .none, .iaddra 4 1 (.t 8) (.t 7)⟩, ⟨.some 10, .none, .load false 1 (.t 9)⟩, ⟨.some 11, .none, .mv (.t 1)⟩, ⟨.some 12, .none, .bin .rem (.t 
  11) (.c (.int .u8 64))⟩, ⟨.some 13, .none, .i2i .u64 (.t 12)⟩, ⟨.some 14, .none, .bin .shr (.t 10) (.t 13)⟩, ⟨.some 15, .none, .bin .and (.t 14) (.c (.int .u64 1))⟩, ⟨.some 16, .none, 
  .bin .eql (.t 15) (.c (.int .u64 1))⟩, ⟨.some 4, .none, .mv (.t 16)⟩]) (.keep [4] .ret)), [.tmp 4], false⟩
theorem ok59 : chkFn Go.Proofs.Tryd.prog Go.Proofs.Tryd.f59 fe59 = true := by kernel_rfl
/- "math/bits.Len64" -/
def fe60 : FE :=
  ⟨1, .seq (.reg [⟨.some 2, .none, .mv (.c (.int .i64 0))⟩]) (.seq (.seq (.reg [⟨.some 3, .none, .mv (.t 0)⟩, ⟨.some 4, .none, .bin .geq (.t 3) (.c (.int .u64 4294967296))⟩]) (.cond (.t 
  4) (.seq (.reg [⟨.some 5, .none, .mv (.t 0)⟩, ⟨.some 6, .none, .bin .shr (.t 5) (.c (.int .u64 32))⟩, ⟨.some 0, .none, .mv (.t 6)⟩]) (.reg [⟨.some 2, .none, .mv (.c (.int .i64 32))⟩])) 
  .skip)) (.keep [0, 2] (.seq (.seq (.reg [⟨.some 7, .none, .mv (.t 0)⟩, ⟨.some 8, .none, .bin .geq (.t 7) (.c (.int .u64 65536))⟩]) (.cond (.t 8) (.seq (.reg [⟨.some 9, .none, .mv 
  (.t 0)⟩, ⟨.some 10, .none, .bin .shr (.t 9) (.c (.int .u64 16))⟩, ⟨.some 0, .none, .mv (.t 10)⟩]) (.reg [⟨.some 11, .none, .mv (.t 2)⟩, ⟨.some 12, .none, .bin .add (.t 11) (.c (.int 
  .i64 16))⟩, ⟨.some 2, .none, .mv (.t 12)⟩])) .skip)) (.keep [0, 2] (.seq (.seq (.reg [⟨.some 13, .none, .mv (.t 0)⟩, ⟨.some 14, .none, .bin .geq (.t 13) (.c (.int .u64 256))⟩]) (.cond 
  (.t 14) (.seq (.reg [⟨.some 15, .none, .mv (.t 0)⟩, ⟨.some 16, .none, .bin .shr (.t 15) (.c (.int .u64 8))⟩, ⟨.some 0, .none, .mv (.t 16)⟩]) (.reg [⟨.some 17, .none, .mv (.t 2)⟩, 
  ⟨.some 18, .none, .bin .add (.t 17) (.c (.int .i64 8))⟩, ⟨.some 2, .none, .mv (.t 18)⟩])) .skip)) (.keep [0, 2] (.seq (.reg [⟨.some 19, .none, .mv (.t 2)⟩, ⟨.some 20, .none, .mv (.t 
  0)⟩, ⟨.some 21, .none, .i2i .u8 (.t 20)⟩, ⟨.some 22, .none, .idxs (.c (.str [0, 1, 2, 2, 3, 3, 3, 3, 4, 4, 4, 4, 4, 4, 4, 4, 5, 5, 5, 5, 5, 5, 5, 5, 5, 5, 5, 5, 5, 5, 5, 5, 6, 6, 
  6, 6, 6, 6, 6, 6, 6, 6, 6, 6, 6, 6, 6, 6, 6, 6, 6, 6, 6, 6, 6, 6, 6, 6, 6, 6, 6, 6, 6, 6, 7, 7, 7, 7, 7, 7, 7, 7, 7, 7, 7, 7, 7, 7, 7, 7, 7, 7, 7, 7, 7, 7, 7, 7, 7, 7, 7, 7, 7, 7, 
  7, 7, 7, 7, 7, 7, 7, 7, 7, 7, 7, 7, 7, 7, 7, 7, 7, 7, 7, 7, 7, 7, 7, 7, 7, 7, 7, 7, 7, 7, 7, 7, 7, 7, 8, 8, 8, 8, 8, 8, 8, 8, 8, 8, 8, 8, 8, 8, 8, 8, 8, 8, 8, 8, 8, 8, 8, 8, 8, 8, 
  8, 8, 8, 8, 8, 8, 8, 8, 8, 8, 8, 8, 8, 8, 8, 8, 8, 8, 8, 8, 8, 8, 8, 8, 8, 8, 8, 8, 8, 8, 8, 8, 8, 8, 8, 8, 8, 8, 8, 8, 8, 8, 8, 8, 8, 8, 8, 8, 8, 8, 8, 8, 8, 8, 8, 8, 8, 8, 8, 8, 
  8, 8, 8, 8, 8, 8, 8, 8, 8, 8, 8, 8, 8, 8, 8, 8, 8, 8, 8, 8, 8, 8, 8, 8, 8, 8, 8, 8, 8, 8, 8, 8, 8, 8, 8, 8, 8, 8, 8, 8, 8, 8])) (.t 21)⟩, ⟨.some 23, .none, .i2i .i64 (.t 22)⟩, ⟨.some 
  24, .none, .bin .add (.t 19) (.t 23)⟩, ⟨.some 2, .none, .mv (.t 24)⟩]) (.keep [2] .ret)))))))), [.tmp 2], false⟩
theorem ok60 : chkFn Go.Proofs.Tryd.prog Go.Proofs.Tryd.f60 fe60 = true := by kernel_rfl
/- "internal/stringslite.Index" -/
def fe61 : FE :=
  ⟨2, .seq (.reg [⟨.some 4, .none, .mv (.c (.int .i64 0))⟩]) (.seq (.reg [⟨.some 14, .none, .mv (.t 1)⟩, ⟨.some 15, .none, .len .s (.t 14)⟩, ⟨.some 5, .none, .mv (.t 15)⟩]) (.seq (.block 
  0 (.seq (.reg [⟨.some 17, .none, .mv (.t 5)⟩, ⟨.some 18, .none, .bin .eql (.t 17) (.c (.int .i64 0))⟩, ⟨.some 19, .none, .mv (.t 18)⟩, ⟨.some 20, .some (19, false), .mv (.t 1)⟩, ⟨.some 
  21, .some (19, false), .mv (.t 0)⟩, ⟨.some 22, .some (19, false), .bin .eql (.t 20) (.t 21)⟩, ⟨.some 23, .none, .pick (.t 19) (.c (.bool true)) (.t 22)⟩, ⟨.some 16, .none, .mv (.t 
  23)⟩]) (.keep [0, 1, 5, 16] (.cond (.t 16) (.seq (.reg [⟨.some 4, .none, .mv (.c (.int .i64 0))⟩]) .ret) (.seq (.reg [⟨.some 25, .none, .mv (.t 5)⟩, ⟨.some 26, .none, .bin .eql (.t 
  25) (.c (.int .i64 1))⟩, ⟨.some 24, .none, .mv (.t 26)⟩]) (.cond (.t 24) (.seq (.reg [⟨.some 27, .none, .mv (.t 0)⟩, ⟨.some 28, .none, .mv (.t 1)⟩, ⟨.some 29, .none, .idxs (.t 28) 
  (.c (.int .i64 0))⟩, ⟨.some 30, .none, .call (.c (.fn 73 [])) [.t 27, .t 29]⟩, ⟨.some 4, .none, .mv (.t 30)⟩]) (.keep [4] .ret)) (.seq (.reg [⟨.some 32, .none, .mv (.t 5)⟩, ⟨.some 
  33, .none, .mv (.t 0)⟩, ⟨.some 34, .none, .len .s (.t 33)⟩, ⟨.some 35, .none, .bin .geq (.t 32) (.t 34)⟩, ⟨.some 31, .none, .mv (.t 35)⟩]) (.keep [0, 1, 5, 31] (.cond (.t 31) (.seq 
  (.reg [⟨.some 4, .none, .mv (.c (.int .i64 (-1)))⟩]) .ret) (.seq (.reg [⟨.some 37, .none, .mv (.t 5)⟩, ⟨.some 38, .none, .load false 1 (.g 1)⟩, ⟨.some 39, .none, .bin .leq (.t 37) 
  (.t 38)⟩, ⟨.some 40, .none, .mv (.t 39)⟩, ⟨.some 41, .some (40, true), .mv (.t 0)⟩, ⟨.some 42, .some (40, true), .len .s (.t 41)⟩, ⟨.some 43, .some (40, true), .bin .leq (.t 42) (.c 
  (.int .i64 64))⟩, ⟨.some 44, .none, .pick (.t 40) (.t 43) (.c (.bool false))⟩, ⟨.some 36, .none, .mv (.t 44)⟩]) (.keep [0, 1, 5, 36] (.cond (.t 36) (.seq (.reg [⟨.some 45, .none, 
  .mv (.t 0)⟩, ⟨.some 46, .none, .mv (.t 1)⟩, ⟨.some 47, .none, .call (.c (.fn 74 [])) [.t 45, .t 46]⟩, ⟨.some 4, .none, .mv (.t 47)⟩]) (.keep [4] .ret)) .skip)))))))))))) (.keep [0, 
  1, 5] (.seq (.reg [⟨.some 48, .none, .mv (.t 1)⟩, ⟨.some 49, .none, .idxs (.t 48) (.c (.int .i64 0))⟩, ⟨.some 6, .none, .mv (.t 49)⟩]) (.seq (.reg [⟨.some 50, .none, .mv (.t 1)⟩, 
  ⟨.some 51, .none, .idxs (.t 50) (.c (.int .i64 1))⟩, ⟨.some 7, .none, .mv (.t 51)⟩]) (.seq (.reg [⟨.some 8, .none, .mv (.c (.int .i64 0))⟩]) (.seq (.reg [⟨.some 52, .none, .mv (.t 
  0)⟩, ⟨.some 53, .none, .len .s (.t 52)⟩, ⟨.some 54, .none, .mv (.t 5)⟩, ⟨.some 55, .none, .bin .sub (.t 53) (.t 54)⟩, ⟨.some 56, .none, .bin .add (.t 55) (.c (.int .i64 1))⟩, ⟨.some 
  9, .none, .mv (.t 56)⟩]) (.keep [0, 1, 5, 6, 7, 8, 9] (.seq (.reg [⟨.some 10, .none, .mv (.c (.int .i64 0))⟩]) (.seq (.block 1 (.loop [0, 1, 5, 6, 7, 8, 9, 10] (.seq (.seq (.reg [⟨.some 
  57, .none, .mv (.t 8)⟩, ⟨.some 58, .none, .mv (.t 9)⟩, ⟨.some 59, .none, .bin .lss (.t 57) (.t 58)⟩]) (.cond (.t 59) .skip (.exit 1))) (.keep [0, 1, 5, 6, 7, 8, 9, 10] (.block 2 (.seq 
  (.seq (.reg [⟨.some 60, .none, .mv (.t 0)⟩, ⟨.some 61, .none, .mv (.t 8)⟩, ⟨.some 62, .none, .idxs (.t 60) (.t 61)⟩, ⟨.some 63, .none, .mv (.t 6)⟩, ⟨.some 64, .none, .bin .neq (.t 
  62) (.t 63)⟩]) (.keep [0, 1, 5, 6, 7, 8, 9, 10, 64] (.cond (.t 64) (.seq (.reg [⟨.some 65, .none, .mv (.t 0)⟩, ⟨.some 66, .none, .mv (.t 8)⟩, ⟨.some 67, .none, .bin .add (.t 66) (.c 
  (.int .i64 1))⟩, ⟨.some 68, .none, .mv (.t 9)⟩, ⟨.some 69, .none, .slstr (.t 65) (.some (.t 67)) (.some (.t 68))⟩, ⟨.some 70, .none, .mv (.t 6)⟩, ⟨.some 71, .none, .call (.c (.fn 
  73 [])) [.t 69, .t 70]⟩, ⟨.some 11, .none, .mv (.t 71)⟩]) (.keep [0, 1, 5, 6, 7, 8, 9, 10, 11] (.seq (.seq (.reg [⟨.some 72, .none, .mv (.t 11)⟩, ⟨.some 73, .none, .bin .lss (.t 72) 
  (.c (.int .i64 0))⟩]) (.cond (.t 73) (.seq (.reg [⟨.some 4, .none, .mv (.c (.int .i64 (-1)))⟩]) .ret) .skip)) (.keep [0, 1, 5, 6, 7, 8, 9, 10, 11] (.reg [⟨.some 74, .none, .mv (.t 
  8)⟩, ⟨.some 75, .none, .mv (.t 11)⟩, ⟨.some 76, .none, .bin .add (.t 75) (.c (.int .i64 1))⟩, ⟨.some 77, .none, .bin .add (.t 74) (.t 76)⟩, ⟨.some 8, .none, .mv (.t 77)⟩]))))) .skip))) 
  (.keep [0, 1, 5, 6, 7, 8, 9, 10] (.seq (.seq (.reg [⟨.some 78, .none, .mv (.t 0)⟩, ⟨.some 79, .none, .mv (.t 8)⟩, ⟨.some 80, .none, .bin .add (.t 79) (.c (.int .i64 1))⟩, ⟨.some 81, 
  .none, .idxs (.t 78) (.t 80)⟩, ⟨.some 82, .none, .mv (.t 7)⟩, ⟨.some 83, .none, .bin .eql (.t 81) (.t 82)⟩, ⟨.some 84, .none, .mv (.t 83)⟩, ⟨.some 85, .some (84, true), .mv (.t 0)⟩, 
  ⟨.some 86, .some (84, true), .mv (.t 8)⟩, ⟨.some 87, .some (84, true), .mv (.t 8)⟩, ⟨.some 88, .some (84, true), .mv (.t 5)⟩, ⟨.some 89, .some (84, true), .bin .add (.t 87) (.t 88)⟩, 
  ⟨.some 90, .some (84, true), .slstr (.t 85) (.some (.t 86)) (.some (.t 89))⟩, ⟨.some 91, .some (84, true), .mv (.t 1)⟩, ⟨.some 92, .some (84, true), .bin .eql (.t 90) (.t 91)⟩, ⟨.some 
  93, .none, .pick (.t 84) (.t 92) (.c (.bool false))⟩]) (.keep [0, 1, 5, 6, 7, 8, 9, 10, 93] (.cond (.t 93) (.seq (.reg [⟨.some 94, .none, .mv (.t 8)⟩, ⟨.some 4, .none, .mv (.t 94)⟩]) 
  .ret) .skip))) (.keep [0, 1, 5, 6, 7, 8, 9, 10] (.seq (.reg [⟨.some 95, .none, .mv (.t 8)⟩, ⟨.some 96, .none, .bin .add (.t 95) (.c (.int .i64 1))⟩, ⟨.some 8, .none, .mv (.t 96)⟩]) 
  (.seq (.reg [⟨.some 97, .none, .mv (.t 10)⟩, ⟨.some 98, .none, .bin .add (.t 97) (.c (.int .i64 1))⟩, ⟨.some 10, .none, .mv (.t 98)⟩]) (.seq (.reg [⟨.some 99, .none, .mv (.t 5)⟩, 
  ⟨.some 100, .none, .load false 1 (.g 1)⟩, ⟨.some 101, .none, .bin .leq (.t 99) (.t 100)⟩, ⟨.some 102, .none, .mv (.t 101)⟩, ⟨.some 103, .some (102, true), .mv (.t 10)⟩, ⟨.some 104, 
  .some (102, true), .mv (.t 8)⟩, ⟨.some 105, .some (102, true), .call (.c (.fn 75 [])) [.t 104]⟩, ⟨.some 106, .some (102, true), .bin .gtr (.t 103) (.t 105)⟩, ⟨.some 107, .none, .pick 
  (.t 102) (.t 106) (.c (.bool false))⟩]) (.keep [0, 1, 5, 6, 7, 8, 9, 10, 107] (.cond (.t 107) (.seq (.reg [⟨.some 108, .none, .mv (.t 0)⟩, ⟨.some 109, .none, .mv (.t 8)⟩, ⟨.some 110, 
  .none, .slstr (.t 108) (.some (.t 109)) .none⟩, ⟨.some 111, .none, .mv (.t 1)⟩, ⟨.some 112, .none, .call (.c (.fn 74 [])) [.t 110, .t 111]⟩, ⟨.some 12, .none, .mv (.t 112)⟩]) (.keep 
  [8, 12] (.seq (.seq (.reg [⟨.some 113, .none, .mv (.t 12)⟩, ⟨.some 114, .none, .bin .geq (.t 113) (.c (.int .i64 0))⟩]) (.cond (.t 114) (.seq (.reg [⟨.some 115, .none, .mv (.t 12)⟩, 
  ⟨.some 116, .none, .mv (.t 8)⟩, ⟨.some 117, .none, .bin .add (.t 115) (.t 116)⟩, ⟨.some 4, .none, .mv (.t 117)⟩]) (.keep [4] .ret)) .skip)) (.keep [] (.seq (.reg [⟨.some 4, .none, 
  .mv (.c (.int .i64 (-1)))⟩]) .ret))))) (.seq (.reg [⟨.some 118, .none, .mv (.t 5)⟩, ⟨.some 119, .none, .load false 1 (.g 1)⟩, ⟨.some 120, .none, .bin .gtr (.t 118) (.t 119)⟩, ⟨.some 
  121, .none, .mv (.t 120)⟩, ⟨.some 122, .some (121, true), .mv (.t 10)⟩, ⟨.some 123, .some (121, true), .mv (.t 8)⟩, ⟨.some 124, .some (121, true), .bin .shr (.t 123) (.c (.int .u64 
  4))⟩, ⟨.some 125, .some (121, true), .bin .add (.c (.int .i64 4)) (.t 124)⟩, ⟨.some 126, .some (121, true), .bin .geq (.t 122) (.t 125)⟩, ⟨.some 127, .none, .pick (.t 121) (.t 126) 
  (.c (.bool false))⟩, ⟨.some 128, .none, .mv (.t 127)⟩, ⟨.some 129, .some (128, true), .mv (.t 8)⟩, ⟨.some 130, .some (128, true), .mv (.t 9)⟩, ⟨.some 131, .some (128, true), .bin 
  .lss (.t 129) (.t 130)⟩, ⟨.some 132, .none, .pick (.t 128) (.t 131) (.c (.bool false))⟩]) (.keep [0, 1, 5, 6, 7, 8, 9, 10, 132] (.cond (.t 132) (.seq (.reg [⟨.some 133, .none, .mv 
  (.t 0)⟩, ⟨.some 134, .none, .mv (.t 8)⟩, ⟨.some 135, .none, .slstr (.t 133) (.some (.t 134)) .none⟩, ⟨.some 136, .none, .mv (.t 1)⟩, ⟨.some 137, .none, .call (.c (.fn 76 [])) [.t 
  135, .t 136]⟩, ⟨.some 13, .none, .mv (.t 137)⟩]) (.keep [8, 13] (.seq (.seq (.reg [⟨.some 138, .none, .mv (.t 13)⟩, ⟨.some 139, .none, .bin .lss (.t 138) (.c (.int .i64 0))⟩]) (.cond 
  (.t 139) (.seq (.reg [⟨.some 4, .none, .mv (.c (.int .i64 (-1)))⟩]) .ret) .skip)) (.keep [8, 13] (.seq (.reg [⟨.some 140, .none, .mv (.t 8)⟩, ⟨.some 141, .none, .mv (.t 13)⟩, ⟨.some 
  142, .none, .bin .add (.t 140) (.t 141)⟩, ⟨.some 4, .none, .mv (.t 142)⟩]) (.keep [4] .ret)))))) .skip))))))))))))))))) (.keep [] (.seq (.reg [⟨.some 4, .none, .mv (.c (.int .i64 
  (-1)))⟩]) .ret)))))))))))), [.tmp 4], false⟩
theorem ok61 : chkFn Go.Proofs.Tryd.prog Go.Proofs.Tryd.f61 fe61 = true := by kernel_rfl
/- "limnograph/point.bare" -/
def fe62 : FE :=
  ⟨1, .seq (.reg [⟨.some 1, .none, .box (.t 0)⟩, ⟨.some 2, .none, .mv (.c (.bool false))⟩]) (.seq (.reg [⟨.some 3, .none, .faddr 0 (.t 1)⟩, ⟨.some 4, .none, .load false 1 (.t 3)⟩, ⟨.some 
  5, .none, .bin .eql (.t 4) (.c (.int .i64 0))⟩, ⟨.some 6, .none, .mv (.t 5)⟩, ⟨.some 7, .some (6, true), .faddr 1 (.t 1)⟩, ⟨.some 8, .some (6, true), .load false 1 (.t 7)⟩, ⟨.some 
  9, .some (6, true), .bin .eql (.t 8) (.c (.int .u64 0))⟩, ⟨.some 10, .none, .pick (.t 6) (.t 9) (.c (.bool false))⟩, ⟨.some 11, .none, .mv (.t 10)⟩, ⟨.some 12, .some (11, true), .faddr 
  2 (.t 1)⟩, ⟨.some 13, .some (11, true), .faddr 0 (.t 12)⟩, ⟨.some 14, .some (11, true), .load false 1 (.t 13)⟩, ⟨.some 15, .some (11, true), .bin .eql (.t 14) (.c (.int .i64 0))⟩, 
  ⟨.some 16, .none, .pick (.t 11) (.t 15) (.c (.bool false))⟩, ⟨.some 17, .none, .mv (.t 16)⟩, ⟨.some 18, .some (17, true), .faddr 4 (.t 1)⟩, ⟨.some 19, .some (17, true), .faddr 0 (.t 
  18)⟩, ⟨.some 20, .some (17, true), .load false 1 (.t 19)⟩, ⟨.some 21, .some (17, true), .bin .eql (.t 20) (.c (.int .i64 0))⟩, ⟨.some 22, .none, .pick (.t 17) (.t 21) (.c (.bool false))⟩, 
  ⟨.some 23, .none, .mv (.t 22)⟩, ⟨.some 24, .some (23, true), .faddr 2 (.t 1)⟩, ⟨.some 25, .some (23, true), .faddr 1 (.t 24)⟩, ⟨.some 26, .some (23, true), .load false 1 (.t 25)⟩, 
  ⟨.some 27, .some (23, true), .len .l (.t 26)⟩, ⟨.some 28, .some (23, true), .faddr 4 (.t 1)⟩, ⟨.some 29, .some (23, true), .faddr 1 (.t 28)⟩, ⟨.some 30, .some (23, true), .load false 
  1 (.t 29)⟩, ⟨.some 31, .some (23, true), .len .l (.t 30)⟩, ⟨.some 32, .some (23, true), .bin .add (.t 27) (.t 31)⟩, ⟨.some 33, .some (23, true), .bin .eql (.t 32) (.c (.int .i64 0))⟩, 
  ⟨.some 34, .none, .pick (.t 23) (.t 33) (.c (.bool false))⟩, ⟨.some 2, .none, .mv (.t 34)⟩]) (.keep [2] .ret)), [.tmp 2], false⟩
theorem ok62 : chkFn Go.Proofs.Tryd.prog Go.Proofs.Tryd.f62 fe62 = true := by kernel_rfl
/- "limnograph/num.of" -/
def fe63 : FE :=
  ⟨1, .seq (.reg [⟨.some 2, .none, .mv (.c (.flt .f64 (.some 0)))⟩]) (.seq (.reg [⟨.some 3, .none, .mv (.t 0)⟩, ⟨.some 4, .none, .call (.c (.fn 77 [])) [.t 3]⟩, ⟨.some 2, .none, .mv (.t 
  4)⟩]) .ret), [.tmp 2], false⟩
theorem ok63 : chkFn Go.Proofs.Tryd.prog Go.Proofs.Tryd.f63 fe63 = true := by kernel_rfl
/- "limnograph/hist.sides" -/
def fe64 : FE :=
  ⟨1, .seq (.reg [⟨.some 1, .none, .box (.t 0)⟩, ⟨.some 2, .none, .alloc [.int .i64 0, .slc .nil [], .int .i64 0, .slc .nil []]⟩]) (.seq (.reg [⟨.some 3, .none, .faddr 2 (.t 1)⟩, ⟨.some 
  4, .none, .load true 2 (.t 3)⟩, ⟨.some 5, .none, .faddr 4 (.t 1)⟩, ⟨.some 6, .none, .load true 2 (.t 5)⟩, ⟨.some 7, .none, .build [.int .i64 0, .slc .nil [], .int .i64 0, .slc .nil 
  []] [(0, (2, .t 4)), (2, (2, .t 6))]⟩, ⟨.none, .none, .store 4 (.t 2) (.t 7)⟩]) (.keep [2] .ret)), [.cell 2 4 true], false⟩
theorem ok64 : chkFn Go.Proofs.Tryd.prog Go.Proofs.Tryd.f64 fe64 = true := by kernel_rfl
/- "limnograph/hist.check" -/
def fe65 : FE :=
  ⟨1, .seq (.reg [⟨.some 1, .none, .box (.t 0)⟩, ⟨.some 2, .none, .mv (.c (.int .i64 0))⟩]) (.seq (.reg [⟨.some 4, .none, .faddr 1 (.t 1)⟩, ⟨.some 5, .none, .load false 1 (.t 4)⟩, ⟨.some 
  6, .none, .len .l (.t 5)⟩, ⟨.some 3, .none, .mv (.t 6)⟩]) (.keep [1, 3] (.seq (.block 0 (.seq (.reg [⟨.some 8, .none, .mv (.t 3)⟩, ⟨.some 9, .none, .bin .gtr (.t 8) (.c (.int .i64 
  160))⟩, ⟨.some 7, .none, .mv (.t 9)⟩]) (.cond (.t 7) (.seq (.reg [⟨.some 2, .none, .mv (.c (.int .i64 4))⟩]) .ret) (.seq (.reg [⟨.some 11, .none, .mv (.t 3)⟩, ⟨.some 12, .none, .bin 
  .eql (.t 11) (.c (.int .i64 0))⟩, ⟨.some 13, .none, .mv (.t 12)⟩, ⟨.some 14, .some (13, true), .faddr 0 (.t 1)⟩, ⟨.some 15, .some (13, true), .load false 1 (.t 14)⟩, ⟨.some 16, .some 
  (13, true), .bin .neq (.t 15) (.c (.int .i64 0))⟩, ⟨.some 17, .none, .pick (.t 13) (.t 16) (.c (.bool false))⟩, ⟨.some 10, .none, .mv (.t 17)⟩]) (.keep [1, 3, 10] (.cond (.t 10) (.seq 
  (.reg [⟨.some 2, .none, .mv (.c (.int .i64 3))⟩]) .ret) (.seq (.reg [⟨.some 19, .none, .mv (.t 3)⟩, ⟨.some 20, .none, .bin .eql (.t 19) (.c (.int .i64 0))⟩, ⟨.some 18, .none, .mv 
  (.t 20)⟩]) (.cond (.t 18) (.seq (.reg [⟨.some 2, .none, .mv (.c (.int .i64 0))⟩]) .ret) (.seq (.reg [⟨.some 22, .none, .faddr 1 (.t 1)⟩, ⟨.some 23, .none, .load false 1 (.t 22)⟩, 
  ⟨.some 24, .none, .iaddr 1 (.t 23) (.c (.int .i64 0))⟩, ⟨.some 25, .none, .load false 1 (.t 24)⟩, ⟨.some 26, .none, .bin .eql (.t 25) (.c (.int .u64 0))⟩, ⟨.some 27, .none, .mv (.t 
  26)⟩, ⟨.some 28, .some (27, false), .faddr 1 (.t 1)⟩, ⟨.some 29, .some (27, false), .load false 1 (.t 28)⟩, ⟨.some 30, .some (27, false), .mv (.t 3)⟩, ⟨.some 31, .some (27, false), 
  .bin .sub (.t 30) (.c (.int .i64 1))⟩, ⟨.some 32, .some (27, false), .iaddr 1 (.t 29) (.t 31)⟩, ⟨.some 33, .some (27, false), .load false 1 (.t 32)⟩, ⟨.some 34, .some (27, false), 
  .bin .eql (.t 33) (.c (.int .u64 0))⟩, ⟨.some 35, .none, .pick (.t 27) (.c (.bool true)) (.t 34)⟩, ⟨.some 21, .none, .mv (.t 35)⟩]) (.keep [1, 3, 21] (.cond (.t 21) (.seq (.reg [⟨.some 
  2, .none, .mv (.c (.int .i64 3))⟩]) .ret) (.seq (.reg [⟨.some 37, .none, .faddr 0 (.t 1)⟩, ⟨.some 38, .none, .load false 1 (.t 37)⟩, ⟨.some 39, .none, .bin .lss (.t 38) (.c (.int 
  .i64 (-1073741824)))⟩, ⟨.some 40, .none, .mv (.t 39)⟩, ⟨.some 41, .some (40, false), .faddr 0 (.t 1)⟩, ⟨.some 42, .some (40, false), .load false 1 (.t 41)⟩, ⟨.some 43, .some (40, 
  false), .mv (.t 3)⟩, ⟨.some 44, .some (40, false), .bin .sub (.t 43) (.c (.int .i64 1))⟩, ⟨.some 45, .some (40, false), .bin .sub (.c (.int .i64 1073741824)) (.t 44)⟩, ⟨.some 46, 
  .some (40, false), .bin .gtr (.t 42) (.t 45)⟩, ⟨.some 47, .none, .pick (.t 40) (.c (.bool true)) (.t 46)⟩, ⟨.some 36, .none, .mv (.t 47)⟩]) (.keep [36] (.cond (.t 36) (.seq (.reg 
  [⟨.some 2, .none, .mv (.c (.int .i64 1))⟩]) .ret) .skip)))))))))))))) (.keep [] (.seq (.reg [⟨.some 2, .none, .mv (.c (.int .i64 0))⟩]) .ret))))), [.tmp 2], false⟩
theorem ok65 : chkFn Go.Proofs.Tryd.prog Go.Proofs.Tryd.f65 fe65 = true := by kernel_rfl
/- "limnograph/hist.Total" -/
def fe66 : FE :=
  ⟨1, .seq (.reg [⟨.some 1, .none, .box (.t 0)⟩, ⟨.some 2, .none, .mv (.c (.int .u64 0))⟩, ⟨.some 3, .none, .mv (.c (.bool false))⟩]) (.seq (.reg [⟨.some 11, .none, .faddr 1 (.t 1)⟩, 
  ⟨.some 12, .none, .load false 1 (.t 11)⟩, ⟨.some 4, .none, .mv (.t 12)⟩, ⟨.some 5, .none, .mv (.c (.int .u64 0))⟩]) (.keep [1, 4, 5] (.seq (.seq (.reg [⟨.some 13, .none, .load true 
  6 (.t 1)⟩, ⟨.some 14, .none, .call (.c (.fn 64 [])) [.t 13]⟩, ⟨.some 15, .none, .mv (.c (.int .i64 0))⟩]) (.block 0 (.loop [4, 5, 14, 15] (.seq (.reg [⟨.some 16, .none, .bin .lss 
  (.t 15) (.c (.int .i64 2))⟩]) (.seq (.cond (.t 16) .skip (.exit 0)) (.keep [4, 5, 14, 15] (.seq (.block 1 (.seq (.reg [⟨.some 17, .none, .idxa 2 2 true (.t 14) (.t 15)⟩, ⟨.some 7, 
  .none, .alloc [.int .i64 0, .slc .nil []]⟩, ⟨.none, .none, .store 2 (.t 7) (.t 17)⟩]) (.seq (.reg [⟨.some 18, .none, .faddr 1 (.t 7)⟩, ⟨.some 19, .none, .load false 1 (.t 18)⟩, ⟨.some 
  20, .none, .len .l (.t 19)⟩, ⟨.some 21, .none, .mv (.c (.int .i64 0))⟩]) (.keep [4, 5, 14, 15, 19, 20, 21] (.block 2 (.loop [4, 5, 14, 15, 19, 20, 21] (.seq (.reg [⟨.some 22, .none, 
  .bin .lss (.t 21) (.t 20)⟩]) (.seq (.cond (.t 22) .skip (.exit 2)) (.keep [4, 5, 14, 15, 19, 20, 21] (.seq (.block 3 (.seq (.reg [⟨.some 23, .none, .iaddr 1 (.t 19) (.t 21)⟩, ⟨.some 
  24, .none, .load false 1 (.t 23)⟩, ⟨.some 9, .none, .mv (.t 24)⟩]) (.seq (.reg [⟨.some 10, .none, .mv (.c (.int .u64 0))⟩]) (.seq (.reg [⟨.some 26, .none, .mv (.t 4)⟩, ⟨.some 27, 
  .none, .mv (.t 9)⟩, ⟨.some 28, .none, .call (.c (.fn 78 [])) [.t 26, .t 27, .c (.int .u64 0)]⟩, ⟨.some 25, .none, .mv (.t 28)⟩, ⟨.some 29, .none, .extract 0 (.t 25)⟩, ⟨.some 30, .none, 
  .extract 1 (.t 25)⟩, ⟨.some 4, .none, .mv (.t 29)⟩, ⟨.some 10, .none, .mv (.t 30)⟩]) (.keep [4, 5, 10, 14, 15, 19, 20, 21] (.reg [⟨.some 31, .none, .mv (.t 5)⟩, ⟨.some 32, .none, 
  .mv (.t 10)⟩, ⟨.some 33, .none, .bin .or (.t 31) (.t 32)⟩, ⟨.some 5, .none, .mv (.t 33)⟩])))))) (.keep [4, 5, 14, 15, 19, 20, 21] (.reg [⟨.some 34, .none, .bin .add (.t 21) (.c (.int 
  .i64 1))⟩, ⟨.some 21, .none, .mv (.t 34)⟩])))))))))))) (.keep [4, 5, 14, 15] (.reg [⟨.some 35, .none, .bin .add (.t 15) (.c (.int .i64 1))⟩, ⟨.some 15, .none, .mv (.t 35)⟩]))))))))) 
  (.keep [4, 5] (.seq (.seq (.reg [⟨.some 36, .none, .mv (.t 5)⟩, ⟨.some 37, .none, .bin .neq (.t 36) (.c (.int .u64 0))⟩]) (.cond (.t 37) (.seq (.reg [⟨.some 2, .none, .mv (.c (.int 
  .u64 0))⟩, ⟨.some 3, .none, .mv (.c (.bool false))⟩]) .ret) .skip)) (.keep [4] (.seq (.reg [⟨.some 38, .none, .mv (.t 4)⟩, ⟨.some 2, .none, .mv (.t 38)⟩, ⟨.some 3, .none, .mv (.c 
  (.bool true))⟩]) .ret))))))), [.tmp 2, .tmp 3], false⟩
theorem ok66 : chkFn Go.Proofs.Tryd.prog Go.Proofs.Tryd.f66 fe66 = true := by kernel_rfl
/- "(*limnograph/glob.set).add" -/
def fe67 : FE :=
  ⟨2, .dreg [⟨0, ⟨.some 4, .none, .mv (.t 0)⟩, false, 0, 0⟩, ⟨1, ⟨.some 5, .none, .mv (.t 1)⟩, false, 0, 0⟩, ⟨2, ⟨.some 6, .none, .bin .quo (.t 5) (.c (.int .u8 64))⟩, false, 0, 0⟩, ⟨3, 
  ⟨.some 7, .none, .nilck (.t 4)⟩, false, 0, 0⟩, ⟨4, ⟨.some 8, .none, .iaddra 4 1 (.t 7) (.t 6)⟩, false, 0, 0⟩, ⟨5, ⟨.some 9, .none, .load false 1 (.t 8)⟩, false, 13, 13⟩, ⟨6, ⟨.some 
  10, .none, .mv (.t 1)⟩, false, 0, 0⟩, ⟨7, ⟨.some 11, .none, .bin .rem (.t 10) (.c (.int .u8 64))⟩, false, 0, 0⟩, ⟨8, ⟨.some 12, .none, .i2i .u64 (.t 11)⟩, false, 0, 0⟩, ⟨9, ⟨.some 
  13, .none, .bin .shl (.c (.int .u64 1)) (.t 12)⟩, false, 0, 0⟩, ⟨10, ⟨.some 14, .none, .bin .or (.t 9) (.t 13)⟩, false, 0, 0⟩, ⟨11, ⟨.some 15, .none, .nilck (.t 4)⟩, false, 0, 0⟩, 
  ⟨12, ⟨.some 16, .none, .iaddra 4 1 (.t 15) (.t 6)⟩, false, 0, 0⟩, ⟨13, ⟨.none, .none, .store 1 (.t 16) (.t 14)⟩, true, 0, 0⟩], [], false⟩
theorem ok67 : chkFn Go.Proofs.Tryd.prog Go.Proofs.Tryd.f67 fe67 = true := by kernel_rfl
/- "limnograph/glob.closed" -/
def fe68 : FE :=
  ⟨2, .seq (.reg [⟨.some 4, .none, .mv (.c (.bool false))⟩]) (.seq (.block 0 (.loop [0, 1] (.seq (.seq (.reg [⟨.some 5, .none, .mv (.t 1)⟩, ⟨.some 6, .none, .mv (.t 0)⟩, ⟨.some 7, .none, 
  .len .s (.t 6)⟩, ⟨.some 8, .none, .bin .lss (.t 5) (.t 7)⟩, ⟨.some 9, .none, .mv (.t 8)⟩, ⟨.some 10, .some (9, true), .mv (.t 0)⟩, ⟨.some 11, .some (9, true), .mv (.t 1)⟩, ⟨.some 
  12, .some (9, true), .idxs (.t 10) (.t 11)⟩, ⟨.some 13, .some (9, true), .bin .neq (.t 12) (.c (.int .u8 93))⟩, ⟨.some 14, .none, .pick (.t 9) (.t 13) (.c (.bool false))⟩]) (.keep 
  [0, 1, 14] (.cond (.t 14) .skip (.exit 0)))) (.keep [0, 1] (.block 1 (.seq (.seq (.reg [⟨.some 15, .none, .mv (.t 0)⟩, ⟨.some 16, .none, .mv (.t 1)⟩, ⟨.some 17, .none, .idxs (.t 15) 
  (.t 16)⟩, ⟨.some 18, .none, .bin .eql (.t 17) (.c (.int .u8 92))⟩]) (.keep [0, 1, 18] (.cond (.t 18) (.reg [⟨.some 19, .none, .mv (.t 1)⟩, ⟨.some 20, .none, .bin .add (.t 19) (.c 
  (.int .i64 1))⟩, ⟨.some 1, .none, .mv (.t 20)⟩]) .skip))) (.keep [0, 1] (.reg [⟨.some 21, .none, .mv (.t 1)⟩, ⟨.some 22, .none, .bin .add (.t 21) (.c (.int .i64 1))⟩, ⟨.some 1, .none, 
  .mv (.t 22)⟩])))))))) (.keep [0, 1] (.seq (.reg [⟨.some 23, .none, .mv (.t 1)⟩, ⟨.some 24, .none, .mv (.t 0)⟩, ⟨.some 25, .none, .len .s (.t 24)⟩, ⟨.some 26, .none, .bin .lss (.t 
  23) (.t 25)⟩, ⟨.some 4, .none, .mv (.t 26)⟩]) (.keep [4] .ret)))), [.tmp 4], false⟩
theorem ok68 : chkFn Go.Proofs.Tryd.prog Go.Proofs.Tryd.f68 fe68 = true := by kernel_rfl
/- "limnograph/glob.member" -/
def fe69 : FE :=
  ⟨2, .seq (.reg [⟨.some 4, .none, .mv (.c (.int .u8 0))⟩, ⟨.some 5, .none, .mv (.c (.int .i64 0))⟩]) (.seq (.seq (.reg [⟨.some 6, .none, .mv (.t 0)⟩, ⟨.some 7, .none, .mv (.t 1)⟩, ⟨.some 
  8, .none, .idxs (.t 6) (.t 7)⟩, ⟨.some 9, .none, .bin .eql (.t 8) (.c (.int .u8 92))⟩]) (.keep [0, 1, 9] (.cond (.t 9) (.seq (.reg [⟨.some 10, .none, .mv (.t 0)⟩, ⟨.some 11, .none, 
  .mv (.t 1)⟩, ⟨.some 12, .none, .bin .add (.t 11) (.c (.int .i64 1))⟩, ⟨.some 13, .none, .idxs (.t 10) (.t 12)⟩, ⟨.some 4, .none, .mv (.t 13)⟩, ⟨.some 5, .none, .mv (.c (.int .i64 
  2))⟩]) (.keep [4, 5] .ret)) .skip))) (.keep [0, 1] (.seq (.reg [⟨.some 14, .none, .mv (.t 0)⟩, ⟨.some 15, .none, .mv (.t 1)⟩, ⟨.some 16, .none, .idxs (.t 14) (.t 15)⟩, ⟨.some 4, .none, 
  .mv (.t 16)⟩, ⟨.some 5, .none, .mv (.c (.int .i64 1))⟩]) (.keep [4, 5] .ret)))), [.tmp 4, .tmp 5], false⟩
theorem ok69 : chkFn Go.Proofs.Tryd.prog Go.Proofs.Tryd.f69 fe69 = true := by kernel_rfl
/- "slices.pdqsortOrdered[string]" -/
def fe71 : FE :=
  ⟨4, .seq (.reg [⟨.some 8, .none, .mv (.c (.bool true))⟩]) (.seq (.reg [⟨.some 9, .none, .mv (.c (.bool true))⟩]) (.block 0 (.loop [0, 1, 2, 3, 8, 9] (.block 1 (.seq (.reg [⟨.some 19, 
  .none, .mv (.t 2)⟩, ⟨.some 20, .none, .mv (.t 1)⟩, ⟨.some 21, .none, .bin .sub (.t 19) (.t 20)⟩, ⟨.some 10, .none, .mv (.t 21)⟩]) (.keep [0, 1, 2, 3, 8, 9, 10] (.seq (.seq (.reg [⟨.some 
  22, .none, .mv (.t 10)⟩, ⟨.some 23, .none, .bin .leq (.t 22) (.c (.int .i64 12))⟩]) (.cond (.t 23) (.seq (.reg [⟨.some 24, .none, .mv (.t 0)⟩, ⟨.some 25, .none, .mv (.t 1)⟩, ⟨.some 
  26, .none, .mv (.t 2)⟩, ⟨.some 27, .none, .call (.c (.fn 79 [])) [.t 24, .t 25, .t 26]⟩]) (.keep [] .ret)) .skip)) (.keep [0, 1, 2, 3, 8, 9, 10] (.seq (.seq (.reg [⟨.some 28, .none, 
  .mv (.t 3)⟩, ⟨.some 29, .none, .bin .eql (.t 28) (.c (.int .i64 0))⟩]) (.cond (.t 29) (.seq (.reg [⟨.some 30, .none, .mv (.t 0)⟩, ⟨.some 31, .none, .mv (.t 1)⟩, ⟨.some 32, .none, 
  .mv (.t 2)⟩, ⟨.some 33, .none, .call (.c (.fn 80 [])) [.t 30, .t 31, .t 32]⟩]) (.keep [] .ret)) .skip)) (.keep [0, 1, 2, 3, 8, 9, 10] (.seq (.seq (.reg [⟨.some 34, .none, .mv (.t 
  8)⟩, ⟨.some 35, .none, .un .not (.t 34)⟩]) (.cond (.t 35) (.seq (.reg [⟨.some 36, .none, .mv (.t 0)⟩, ⟨.some 37, .none, .mv (.t 1)⟩, ⟨.some 38, .none, .mv (.t 2)⟩, ⟨.some 39, .none, 
  .call (.c (.fn 81 [])) [.t 36, .t 37, .t 38]⟩]) (.keep [0, 1, 2, 3, 8, 9, 10] (.reg [⟨.some 40, .none, .mv (.t 3)⟩, ⟨.some 41, .none, .bin .sub (.t 40) (.c (.int .i64 1))⟩, ⟨.some 
  3, .none, .mv (.t 41)⟩]))) .skip)) (.keep [0, 1, 2, 3, 8, 9, 10] (.seq (.reg [⟨.some 43, .none, .mv (.t 0)⟩, ⟨.some 44, .none, .mv (.t 1)⟩, ⟨.some 45, .none, .mv (.t 2)⟩, ⟨.some 46, 
  .none, .call (.c (.fn 82 [])) [.t 43, .t 44, .t 45]⟩, ⟨.some 42, .none, .mv (.t 46)⟩, ⟨.some 47, .none, .extract 0 (.t 42)⟩, ⟨.some 48, .none, .extract 1 (.t 42)⟩, ⟨.some 11, .none, 
  .mv (.t 47)⟩, ⟨.some 12, .none, .mv (.t 48)⟩]) (.keep [0, 1, 2, 3, 8, 9, 10, 11, 12] (.seq (.seq (.reg [⟨.some 49, .none, .mv (.t 12)⟩, ⟨.some 50, .none, .bin .eql (.t 49) (.c (.int 
  .i64 2))⟩]) (.cond (.t 50) (.seq (.reg [⟨.some 51, .none, .mv (.t 0)⟩, ⟨.some 52, .none, .mv (.t 1)⟩, ⟨.some 53, .none, .mv (.t 2)⟩, ⟨.some 54, .none, .call (.c (.fn 83 [])) [.t 51, 
  .t 52, .t 53]⟩]) (.keep [0, 1, 2, 3, 8, 9, 10, 11] (.seq (.reg [⟨.some 55, .none, .mv (.t 2)⟩, ⟨.some 56, .none, .bin .sub (.t 55) (.c (.int .i64 1))⟩, ⟨.some 57, .none, .mv (.t 11)⟩, 
  ⟨.some 58, .none, .mv (.t 1)⟩, ⟨.some 59, .none, .bin .sub (.t 57) (.t 58)⟩, ⟨.some 60, .none, .bin .sub (.t 56) (.t 59)⟩, ⟨.some 11, .none, .mv (.t 60)⟩]) (.keep [0, 1, 2, 3, 8, 
  9, 10, 11] (.reg [⟨.some 12, .none, .mv (.c (.int .i64 1))⟩]))))) .skip)) (.keep [0, 1, 2, 3, 8, 9, 10, 11, 12] (.seq (.seq (.reg [⟨.some 61, .none, .mv (.t 8)⟩, ⟨.some 62, .none, 
  .mv (.t 61)⟩, ⟨.some 63, .some (62, true), .mv (.t 9)⟩, ⟨.some 64, .none, .pick (.t 62) (.t 63) (.c (.bool false))⟩, ⟨.some 65, .none, .mv (.t 64)⟩, ⟨.some 66, .some (65, true), .mv 
  (.t 12)⟩, ⟨.some 67, .some (65, true), .bin .eql (.t 66) (.c (.int .i64 1))⟩, ⟨.some 68, .none, .pick (.t 65) (.t 67) (.c (.bool false))⟩]) (.keep [0, 1, 2, 3, 8, 9, 10, 11, 68] (.cond 
  (.t 68) (.seq (.reg [⟨.some 69, .none, .mv (.t 0)⟩, ⟨.some 70, .none, .mv (.t 1)⟩, ⟨.some 71, .none, .mv (.t 2)⟩, ⟨.some 72, .none, .call (.c (.fn 84 [])) [.t 69, .t 70, .t 71]⟩]) 
  (.keep [0, 1, 2, 3, 8, 9, 10, 11, 72] (.cond (.t 72) .ret .skip))) .skip))) (.keep [0, 1, 2, 3, 8, 9, 10, 11] (.seq (.seq (.dreg [⟨0, ⟨.some 73, .none, .mv (.t 1)⟩, false, 0, 0⟩, 
  ⟨1, ⟨.some 74, .none, .bin .gtr (.t 73) (.c (.int .i64 0))⟩, false, 0, 0⟩, ⟨2, ⟨.some 75, .none, .mv (.t 74)⟩, false, 0, 0⟩, ⟨3, ⟨.some 76, .some (75, true), .mv (.t 0)⟩, false, 0, 
  0⟩, ⟨4, ⟨.some 77, .some (75, true), .mv (.t 1)⟩, false, 0, 0⟩, ⟨5, ⟨.some 78, .some (75, true), .bin .sub (.t 77) (.c (.int .i64 1))⟩, false, 0, 0⟩, ⟨6, ⟨.some 79, .some (75, true), 
  .iaddr 1 (.t 76) (.t 78)⟩, false, 0, 0⟩, ⟨7, ⟨.some 80, .some (75, true), .load false 1 (.t 79)⟩, false, 12, 12⟩, ⟨8, ⟨.some 81, .some (75, true), .mv (.t 0)⟩, false, 0, 0⟩, ⟨9, ⟨.some 
  82, .some (75, true), .mv (.t 11)⟩, false, 0, 0⟩, ⟨10, ⟨.some 83, .some (75, true), .iaddr 1 (.t 81) (.t 82)⟩, false, 0, 0⟩, ⟨11, ⟨.some 84, .some (75, true), .load false 1 (.t 83)⟩, 
  false, 12, 12⟩, ⟨12, ⟨.some 85, .some (75, true), .call (.c (.fn 85 [])) [.t 80, .t 84]⟩, true, 0, 0⟩, ⟨13, ⟨.some 86, .some (75, true), .un .not (.t 85)⟩, false, 0, 0⟩, ⟨14, ⟨.some 
  87, .none, .pick (.t 75) (.t 86) (.c (.bool false))⟩, false, 0, 0⟩]) (.keep [0, 1, 2, 3, 8, 9, 10, 11, 87] (.cond (.t 87) (.seq (.reg [⟨.some 88, .none, .mv (.t 0)⟩, ⟨.some 89, .none, 
  .mv (.t 1)⟩, ⟨.some 90, .none, .mv (.t 2)⟩, ⟨.some 91, .none, .mv (.t 11)⟩, ⟨.some 92, .none, .call (.c (.fn 86 [])) [.t 88, .t 89, .t 90, .t 91]⟩, ⟨.some 13, .none, .mv (.t 92)⟩]) 
  (.keep [0, 2, 3, 8, 9, 13] (.seq (.reg [⟨.some 93, .none, .mv (.t 13)⟩, ⟨.some 1, .none, .mv (.t 93)⟩]) (.exit 1)))) .skip))) (.keep [0, 1, 2, 3, 10, 11] (.seq (.reg [⟨.some 95, .none, 
  .mv (.t 0)⟩, ⟨.some 96, .none, .mv (.t 1)⟩, ⟨.some 97, .none, .mv (.t 2)⟩, ⟨.some 98, .none, .mv (.t 11)⟩, ⟨.some 99, .none, .call (.c (.fn 87 [])) [.t 95, .t 96, .t 97, .t 98]⟩, 
  ⟨.some 94, .none, .mv (.t 99)⟩, ⟨.some 100, .none, .extract 0 (.t 94)⟩, ⟨.some 101, .none, .extract 1 (.t 94)⟩, ⟨.some 14, .none, .mv (.t 100)⟩, ⟨.some 15, .none, .mv (.t 101)⟩]) 
  (.keep [0, 1, 2, 3, 10, 14, 15] (.seq (.reg [⟨.some 102, .none, .mv (.t 15)⟩, ⟨.some 9, .none, .mv (.t 102)⟩]) (.seq (.reg [⟨.some 103, .none, .mv (.t 14)⟩, ⟨.some 104, .none, .mv 
  (.t 1)⟩, ⟨.some 105, .none, .bin .sub (.t 103) (.t 104)⟩, ⟨.some 106, .none, .mv (.t 2)⟩, ⟨.some 107, .none, .mv (.t 14)⟩, ⟨.some 108, .none, .bin .sub (.t 106) (.t 107)⟩, ⟨.some 
  16, .none, .mv (.t 105)⟩, ⟨.some 17, .none, .mv (.t 108)⟩]) (.keep [0, 1, 2, 3, 9, 10, 14, 16, 17] (.seq (.reg [⟨.some 109, .none, .mv (.t 10)⟩, ⟨.some 110, .none, .bin .quo (.t 109) 
  (.c (.int .i64 8))⟩, ⟨.some 18, .none, .mv (.t 110)⟩]) (.seq (.reg [⟨.some 111, .none, .mv (.t 16)⟩, ⟨.some 112, .none, .mv (.t 17)⟩, ⟨.some 113, .none, .bin .lss (.t 111) (.t 112)⟩]) 
  (.cond (.t 113) (.seq (.reg [⟨.some 114, .none, .mv (.t 16)⟩, ⟨.some 115, .none, .mv (.t 18)⟩, ⟨.some 116, .none, .bin .geq (.t 114) (.t 115)⟩, ⟨.some 8, .none, .mv (.t 116)⟩]) (.keep 
  [0, 1, 2, 3, 8, 9, 14] (.seq (.reg [⟨.some 117, .none, .mv (.t 0)⟩, ⟨.some 118, .none, .mv (.t 1)⟩, ⟨.some 119, .none, .mv (.t 14)⟩, ⟨.some 120, .none, .mv (.t 3)⟩, ⟨.some 121, .none, 
  .call (.c (.fn 71 [])) [.t 117, .t 118, .t 119, .t 120]⟩]) (.keep [0, 2, 3, 8, 9, 14] (.reg [⟨.some 122, .none, .mv (.t 14)⟩, ⟨.some 123, .none, .bin .add (.t 122) (.c (.int .i64 
  1))⟩, ⟨.some 1, .none, .mv (.t 123)⟩]))))) (.seq (.reg [⟨.some 124, .none, .mv (.t 17)⟩, ⟨.some 125, .none, .mv (.t 18)⟩, ⟨.some 126, .none, .bin .geq (.t 124) (.t 125)⟩, ⟨.some 8, 
  .none, .mv (.t 126)⟩]) (.keep [0, 1, 2, 3, 8, 9, 14] (.seq (.reg [⟨.some 127, .none, .mv (.t 0)⟩, ⟨.some 128, .none, .mv (.t 14)⟩, ⟨.some 129, .none, .bin .add (.t 128) (.c (.int 
  .i64 1))⟩, ⟨.some 130, .none, .mv (.t 2)⟩, ⟨.some 131, .none, .mv (.t 3)⟩, ⟨.some 132, .none, .call (.c (.fn 71 [])) [.t 127, .t 129, .t 130, .t 131]⟩]) (.keep [0, 1, 3, 8, 9, 14] 
  (.reg [⟨.some 133, .none, .mv (.t 14)⟩, ⟨.some 2, .none, .mv (.t 133)⟩]))))))))))))))))))))))))))))))))), [], false⟩
theorem ok71 : chkFn Go.Proofs.Tryd.prog Go.Proofs.Tryd.f71 fe71 = true := by kernel_rfl
/- "math/bits.Len" -/
def fe72 : FE :=
  ⟨1, .seq (.reg [⟨.some 2, .none, .mv (.c (.int .i64 0))⟩]) (.seq (.cond (.c (.bool false)) (.seq (.reg [⟨.some 3, .none, .mv (.t 0)⟩, ⟨.some 4, .none, .i2i .u32 (.t 3)⟩, ⟨.some 5, .none, 
  .call (.c (.fn 88 [])) [.t 4]⟩, ⟨.some 2, .none, .mv (.t 5)⟩]) (.keep [2] .ret)) .skip) (.keep [0] (.seq (.reg [⟨.some 6, .none, .mv (.t 0)⟩, ⟨.some 7, .none, .call (.c (.fn 60 [])) 
  [.t 6]⟩, ⟨.some 2, .none, .mv (.t 7)⟩]) .ret))), [.tmp 2], false⟩
theorem ok72 : chkFn Go.Proofs.Tryd.prog Go.Proofs.Tryd.f72 fe72 = true := by kernel_rfl
/- "internal/stringslite.IndexByte" -/
def fe73 : FE :=
  ⟨2, .seq (.reg [⟨.some 4, .none, .mv (.c (.int .i64 0))⟩]) (.seq (.reg [⟨.some 5, .none, .mv (.t 0)⟩, ⟨.some 6, .none, .mv (.t 1)⟩, ⟨.some 7, .none, .call (.c (.fn 89 [])) [.t 5, .t 
  6]⟩, ⟨.some 4, .none, .mv (.t 7)⟩]) (.keep [4] .ret)), [.tmp 4], false⟩
theorem ok73 : chkFn Go.Proofs.Tryd.prog Go.Proofs.Tryd.f73 fe73 = true := by kernel_rfl
/- "internal/bytealg.Cutover" -/
def fe75 : FE :=
  ⟨1, .seq (.reg [⟨.some 2, .none, .mv (.c (.int .i64 0))⟩]) (.seq (.reg [⟨.some 3, .none, .mv (.t 0)⟩, ⟨.some 4, .none, .bin .add (.t 3) (.c (.int .i64 16))⟩, ⟨.some 5, .none, .bin .quo 
  (.t 4) (.c (.int .i64 8))⟩, ⟨.some 2, .none, .mv (.t 5)⟩]) (.keep [2] .ret)), [.tmp 2], false⟩
theorem ok75 : chkFn Go.Proofs.Tryd.prog Go.Proofs.Tryd.f75 fe75 = true := by kernel_rfl
/- "internal/bytealg.IndexRabinKarp[string]" -/
def fe76 : FE :=
  ⟨2, .seq (.reg [⟨.some 4, .none, .mv (.c (.int .i64 0))⟩]) (.seq (.reg [⟨.some 12, .none, .mv (.t 1)⟩, ⟨.some 13, .none, .call (.c (.fn 90 [])) [.t 12]⟩, ⟨.some 11, .none, .mv (.t 13)⟩, 
  ⟨.some 14, .none, .extract 0 (.t 11)⟩, ⟨.some 15, .none, .extract 1 (.t 11)⟩, ⟨.some 5, .none, .mv (.t 14)⟩, ⟨.some 6, .none, .mv (.t 15)⟩]) (.keep [0, 1, 5, 6] (.seq (.reg [⟨.some 
  16, .none, .mv (.t 1)⟩, ⟨.some 17, .none, .len .s (.t 16)⟩, ⟨.some 7, .none, .mv (.t 17)⟩]) (.seq (.reg [⟨.some 8, .none, .mv (.c (.int .u32 0))⟩]) (.seq (.seq (.reg [⟨.some 9, .none, 
  .mv (.c (.int .i64 0))⟩]) (.block 0 (.loop [0, 1, 5, 6, 7, 8, 9] (.seq (.seq (.reg [⟨.some 18, .none, .mv (.t 9)⟩, ⟨.some 19, .none, .mv (.t 7)⟩, ⟨.some 20, .none, .bin .lss (.t 18) 
  (.t 19)⟩]) (.cond (.t 20) .skip (.exit 0))) (.keep [0, 1, 5, 6, 7, 8, 9] (.seq (.block 1 (.reg [⟨.some 23, .none, .mv (.t 8)⟩, ⟨.some 24, .none, .bin .mul (.t 23) (.c (.int .u32 16777619))⟩, 
  ⟨.some 25, .none, .mv (.t 0)⟩, ⟨.some 26, .none, .mv (.t 9)⟩, ⟨.some 27, .none, .idxs (.t 25) (.t 26)⟩, ⟨.some 28, .none, .i2i .u32 (.t 27)⟩, ⟨.some 29, .none, .bin .add (.t 24) (.t 
  28)⟩, ⟨.some 8, .none, .mv (.t 29)⟩])) (.keep [0, 1, 5, 6, 7, 8, 9] (.reg [⟨.some 21, .none, .mv (.t 9)⟩, ⟨.some 22, .none, .bin .add (.t 21) (.c (.int .i64 1))⟩, ⟨.some 9, .none, 
  .mv (.t 22)⟩])))))))) (.keep [0, 1, 5, 6, 7, 8] (.seq (.seq (.reg [⟨.some 30, .none, .mv (.t 8)⟩, ⟨.some 31, .none, .mv (.t 5)⟩, ⟨.some 32, .none, .bin .eql (.t 30) (.t 31)⟩, ⟨.some 
  33, .none, .mv (.t 32)⟩, ⟨.some 34, .some (33, true), .mv (.t 0)⟩, ⟨.some 35, .some (33, true), .mv (.t 7)⟩, ⟨.some 36, .some (33, true), .slstr (.t 34) .none (.some (.t 35))⟩, ⟨.some 
  37, .some (33, true), .mv (.t 1)⟩, ⟨.some 38, .some (33, true), .bin .eql (.t 36) (.t 37)⟩, ⟨.some 39, .none, .pick (.t 33) (.t 38) (.c (.bool false))⟩]) (.keep [0, 1, 5, 6, 7, 8, 
  39] (.cond (.t 39) (.seq (.reg [⟨.some 4, .none, .mv (.c (.int .i64 0))⟩]) .ret) .skip))) (.keep [0, 1, 5, 6, 7, 8] (.seq (.seq (.reg [⟨.some 40, .none, .mv (.t 7)⟩, ⟨.some 10, .none, 
  .mv (.t 40)⟩]) (.block 2 (.loop [0, 1, 5, 6, 7, 8, 10] (.seq (.seq (.reg [⟨.some 41, .none, .mv (.t 10)⟩, ⟨.some 42, .none, .mv (.t 0)⟩, ⟨.some 43, .none, .len .s (.t 42)⟩, ⟨.some 
  44, .none, .bin .lss (.t 41) (.t 43)⟩]) (.keep [0, 1, 5, 6, 7, 8, 10, 44] (.cond (.t 44) .skip (.exit 2)))) (.keep [0, 1, 5, 6, 7, 8, 10] (.block 3 (.seq (.reg [⟨.some 45, .none, 
  .mv (.t 8)⟩, ⟨.some 46, .none, .bin .mul (.t 45) (.c (.int .u32 16777619))⟩, ⟨.some 8, .none, .mv (.t 46)⟩]) (.seq (.reg [⟨.some 47, .none, .mv (.t 8)⟩, ⟨.some 48, .none, .mv (.t 
  0)⟩, ⟨.some 49, .none, .mv (.t 10)⟩, ⟨.some 50, .none, .idxs (.t 48) (.t 49)⟩, ⟨.some 51, .none, .i2i .u32 (.t 50)⟩, ⟨.some 52, .none, .bin .add (.t 47) (.t 51)⟩, ⟨.some 8, .none, 
  .mv (.t 52)⟩]) (.keep [0, 1, 5, 6, 7, 8, 10] (.seq (.reg [⟨.some 53, .none, .mv (.t 8)⟩, ⟨.some 54, .none, .mv (.t 6)⟩, ⟨.some 55, .none, .mv (.t 0)⟩, ⟨.some 56, .none, .mv (.t 10)⟩, 
  ⟨.some 57, .none, .mv (.t 7)⟩, ⟨.some 58, .none, .bin .sub (.t 56) (.t 57)⟩, ⟨.some 59, .none, .idxs (.t 55) (.t 58)⟩, ⟨.some 60, .none, .i2i .u32 (.t 59)⟩, ⟨.some 61, .none, .bin 
  .mul (.t 54) (.t 60)⟩, ⟨.some 62, .none, .bin .sub (.t 53) (.t 61)⟩, ⟨.some 8, .none, .mv (.t 62)⟩]) (.keep [0, 1, 5, 6, 7, 8, 10] (.seq (.reg [⟨.some 63, .none, .mv (.t 10)⟩, ⟨.some 
  64, .none, .bin .add (.t 63) (.c (.int .i64 1))⟩, ⟨.some 10, .none, .mv (.t 64)⟩]) (.seq (.reg [⟨.some 65, .none, .mv (.t 8)⟩, ⟨.some 66, .none, .mv (.t 5)⟩, ⟨.some 67, .none, .bin 
  .eql (.t 65) (.t 66)⟩, ⟨.some 68, .none, .mv (.t 67)⟩, ⟨.some 69, .some (68, true), .mv (.t 0)⟩, ⟨.some 70, .some (68, true), .mv (.t 10)⟩, ⟨.some 71, .some (68, true), .mv (.t 7)⟩, 
  ⟨.some 72, .some (68, true), .bin .sub (.t 70) (.t 71)⟩, ⟨.some 73, .some (68, true), .mv (.t 10)⟩, ⟨.some 74, .some (68, true), .slstr (.t 69) (.some (.t 72)) (.some (.t 73))⟩, ⟨.some 
  75, .some (68, true), .mv (.t 1)⟩, ⟨.some 76, .some (68, true), .bin .eql (.t 74) (.t 75)⟩, ⟨.some 77, .none, .pick (.t 68) (.t 76) (.c (.bool false))⟩]) (.keep [0, 1, 5, 6, 7, 8, 
  10, 77] (.cond (.t 77) (.seq (.reg [⟨.some 78, .none, .mv (.t 10)⟩, ⟨.some 79, .none, .mv (.t 7)⟩, ⟨.some 80, .none, .bin .sub (.t 78) (.t 79)⟩, ⟨.some 4, .none, .mv (.t 80)⟩]) (.keep 
  [4] .ret)) .skip))))))))))))))) (.keep [] (.seq (.reg [⟨.some 4, .none, .mv (.c (.int .i64 (-1)))⟩]) .ret))))))))))), [.tmp 4], false⟩
theorem ok76 : chkFn Go.Proofs.Tryd.prog Go.Proofs.Tryd.f76 fe76 = true := by kernel_rfl
/- "slices.insertionSortOrdered[string]" -/
def fe79 : FE :=
  ⟨3, .seq (.reg [⟨.some 8, .none, .mv (.t 1)⟩, ⟨.some 9, .none, .bin .add (.t 8) (.c (.int .i64 1))⟩, ⟨.some 6, .none, .mv (.t 9)⟩]) (.block 0 (.loop [0, 1, 2, 6] (.seq (.seq (.reg [⟨.some 
  10, .none, .mv (.t 6)⟩, ⟨.some 11, .none, .mv (.t 2)⟩, ⟨.some 12, .none, .bin .lss (.t 10) (.t 11)⟩]) (.cond (.t 12) .skip (.exit 0))) (.keep [0, 1, 2, 6] (.seq (.block 1 (.seq (.reg 
  [⟨.some 15, .none, .mv (.t 6)⟩, ⟨.some 7, .none, .mv (.t 15)⟩]) (.block 2 (.loop [0, 1, 2, 6, 7] (.seq (.seq (.dreg [⟨0, ⟨.some 16, .none, .mv (.t 7)⟩, false, 0, 0⟩, ⟨1, ⟨.some 17, 
  .none, .mv (.t 1)⟩, false, 0, 0⟩, ⟨2, ⟨.some 18, .none, .bin .gtr (.t 16) (.t 17)⟩, false, 0, 0⟩, ⟨3, ⟨.some 19, .none, .mv (.t 18)⟩, false, 0, 0⟩, ⟨4, ⟨.some 20, .some (19, true), 
  .mv (.t 0)⟩, false, 0, 0⟩, ⟨5, ⟨.some 21, .some (19, true), .mv (.t 7)⟩, false, 0, 0⟩, ⟨6, ⟨.some 22, .some (19, true), .iaddr 1 (.t 20) (.t 21)⟩, false, 0, 0⟩, ⟨7, ⟨.some 23, .some 
  (19, true), .load false 1 (.t 22)⟩, false, 13, 13⟩, ⟨8, ⟨.some 24, .some (19, true), .mv (.t 0)⟩, false, 0, 0⟩, ⟨9, ⟨.some 25, .some (19, true), .mv (.t 7)⟩, false, 0, 0⟩, ⟨10, ⟨.some 
  26, .some (19, true), .bin .sub (.t 25) (.c (.int .i64 1))⟩, false, 0, 0⟩, ⟨11, ⟨.some 27, .some (19, true), .iaddr 1 (.t 24) (.t 26)⟩, false, 0, 0⟩, ⟨12, ⟨.some 28, .some (19, true), 
  .load false 1 (.t 27)⟩, false, 13, 13⟩, ⟨13, ⟨.some 29, .some (19, true), .call (.c (.fn 85 [])) [.t 23, .t 28]⟩, true, 0, 0⟩, ⟨14, ⟨.some 30, .none, .pick (.t 19) (.t 29) (.c (.bool 
  false))⟩, false, 0, 0⟩]) (.keep [0, 1, 2, 6, 7, 30] (.cond (.t 30) .skip (.exit 2)))) (.keep [0, 1, 2, 6, 7] (.seq (.block 3 (.dreg [⟨0, ⟨.some 33, .none, .mv (.t 0)⟩, false, 0, 0⟩, 
  ⟨1, ⟨.some 34, .none, .mv (.t 7)⟩, false, 0, 0⟩, ⟨2, ⟨.some 35, .none, .mv (.t 0)⟩, false, 0, 0⟩, ⟨3, ⟨.some 36, .none, .mv (.t 7)⟩, false, 0, 0⟩, ⟨4, ⟨.some 37, .none, .bin .sub 
  (.t 36) (.c (.int .i64 1))⟩, false, 0, 0⟩, ⟨5, ⟨.some 38, .none, .mv (.t 0)⟩, false, 0, 0⟩, ⟨6, ⟨.some 39, .none, .mv (.t 7)⟩, false, 0, 0⟩, ⟨7, ⟨.some 40, .none, .bin .sub (.t 39) 
  (.c (.int .i64 1))⟩, false, 0, 0⟩, ⟨8, ⟨.some 41, .none, .iaddr 1 (.t 38) (.t 40)⟩, false, 0, 0⟩, ⟨9, ⟨.some 42, .none, .load false 1 (.t 41)⟩, false, 15, 15⟩, ⟨10, ⟨.some 43, .none, 
  .mv (.t 0)⟩, false, 0, 0⟩, ⟨11, ⟨.some 44, .none, .mv (.t 7)⟩, false, 0, 0⟩, ⟨12, ⟨.some 45, .none, .iaddr 1 (.t 43) (.t 44)⟩, false, 0, 0⟩, ⟨13, ⟨.some 46, .none, .load false 1 (.t 
  45)⟩, false, 15, 15⟩, ⟨14, ⟨.some 47, .none, .iaddr 1 (.t 33) (.t 34)⟩, false, 0, 0⟩, ⟨15, ⟨.none, .none, .store 1 (.t 47) (.t 42)⟩, true, 0, 0⟩, ⟨16, ⟨.some 48, .none, .iaddr 1 (.t 
  35) (.t 37)⟩, false, 0, 0⟩, ⟨17, ⟨.none, .none, .store 1 (.t 48) (.t 46)⟩, true, 0, 0⟩])) (.keep [0, 1, 2, 6, 7] (.reg [⟨.some 31, .none, .mv (.t 7)⟩, ⟨.some 32, .none, .bin .sub 
  (.t 31) (.c (.int .i64 1))⟩, ⟨.some 7, .none, .mv (.t 32)⟩]))))))))) (.keep [0, 1, 2, 6] (.reg [⟨.some 13, .none, .mv (.t 6)⟩, ⟨.some 14, .none, .bin .add (.t 13) (.c (.int .i64 1))⟩, 
  ⟨.some 6, .none, .mv (.t 14)⟩]))))))), [], false⟩
theorem ok79 : chkFn Go.Proofs.Tryd.prog Go.Proofs.Tryd.f79 fe79 = true := by kernel_rfl
/- "slices.heapSortOrdered[string]" -/
def fe80 : FE :=
  ⟨3, .seq (.reg [⟨.some 11, .none, .mv (.t 1)⟩, ⟨.some 6, .none, .mv (.t 11)⟩]) (.seq (.reg [⟨.some 7, .none, .mv (.c (.int .i64 0))⟩]) (.seq (.reg [⟨.some 12, .none, .mv (.t 2)⟩, ⟨.some 
  13, .none, .mv (.t 1)⟩, ⟨.some 14, .none, .bin .sub (.t 12) (.t 13)⟩, ⟨.some 8, .none, .mv (.t 14)⟩]) (.keep [0, 6, 7, 8] (.seq (.seq (.reg [⟨.some 15, .none, .mv (.t 8)⟩, ⟨.some 
  16, .none, .bin .sub (.t 15) (.c (.int .i64 1))⟩, ⟨.some 17, .none, .bin .quo (.t 16) (.c (.int .i64 2))⟩, ⟨.some 9, .none, .mv (.t 17)⟩]) (.keep [0, 6, 7, 8, 9] (.block 0 (.loop 
  [0, 6, 7, 8, 9] (.seq (.seq (.reg [⟨.some 18, .none, .mv (.t 9)⟩, ⟨.some 19, .none, .bin .geq (.t 18) (.c (.int .i64 0))⟩]) (.cond (.t 19) .skip (.exit 0))) (.keep [0, 6, 7, 8, 9] 
  (.seq (.block 1 (.reg [⟨.some 22, .none, .mv (.t 0)⟩, ⟨.some 23, .none, .mv (.t 9)⟩, ⟨.some 24, .none, .mv (.t 8)⟩, ⟨.some 25, .none, .mv (.t 6)⟩, ⟨.some 26, .none, .call (.c (.fn 
  91 [])) [.t 22, .t 23, .t 24, .t 25]⟩])) (.keep [0, 6, 7, 8, 9] (.reg [⟨.some 20, .none, .mv (.t 9)⟩, ⟨.some 21, .none, .bin .sub (.t 20) (.c (.int .i64 1))⟩, ⟨.some 9, .none, .mv 
  (.t 21)⟩]))))))))) (.keep [0, 6, 7, 8] (.seq (.reg [⟨.some 27, .none, .mv (.t 8)⟩, ⟨.some 28, .none, .bin .sub (.t 27) (.c (.int .i64 1))⟩, ⟨.some 10, .none, .mv (.t 28)⟩]) (.block 
  2 (.loop [0, 6, 7, 10] (.seq (.seq (.reg [⟨.some 29, .none, .mv (.t 10)⟩, ⟨.some 30, .none, .bin .geq (.t 29) (.c (.int .i64 0))⟩]) (.cond (.t 30) .skip (.exit 2))) (.keep [0, 6, 
  7, 10] (.seq (.block 3 (.seq (.dreg [⟨0, ⟨.some 33, .none, .mv (.t 0)⟩, false, 0, 0⟩, ⟨1, ⟨.some 34, .none, .mv (.t 6)⟩, false, 0, 0⟩, ⟨2, ⟨.some 35, .none, .mv (.t 0)⟩, false, 0, 
  0⟩, ⟨3, ⟨.some 36, .none, .mv (.t 6)⟩, false, 0, 0⟩, ⟨4, ⟨.some 37, .none, .mv (.t 10)⟩, false, 0, 0⟩, ⟨5, ⟨.some 38, .none, .bin .add (.t 36) (.t 37)⟩, false, 0, 0⟩, ⟨6, ⟨.some 39, 
  .none, .mv (.t 0)⟩, false, 0, 0⟩, ⟨7, ⟨.some 40, .none, .mv (.t 6)⟩, false, 0, 0⟩, ⟨8, ⟨.some 41, .none, .mv (.t 10)⟩, false, 0, 0⟩, ⟨9, ⟨.some 42, .none, .bin .add (.t 40) (.t 41)⟩, 
  false, 0, 0⟩, ⟨10, ⟨.some 43, .none, .iaddr 1 (.t 39) (.t 42)⟩, false, 0, 0⟩, ⟨11, ⟨.some 44, .none, .load false 1 (.t 43)⟩, false, 17, 17⟩, ⟨12, ⟨.some 45, .none, .mv (.t 0)⟩, false, 
  0, 0⟩, ⟨13, ⟨.some 46, .none, .mv (.t 6)⟩, false, 0, 0⟩, ⟨14, ⟨.some 47, .none, .iaddr 1 (.t 45) (.t 46)⟩, false, 0, 0⟩, ⟨15, ⟨.some 48, .none, .load false 1 (.t 47)⟩, false, 17, 
  17⟩, ⟨16, ⟨.some 49, .none, .iaddr 1 (.t 33) (.t 34)⟩, false, 0, 0⟩, ⟨17, ⟨.none, .none, .store 1 (.t 49) (.t 44)⟩, true, 0, 0⟩, ⟨18, ⟨.some 50, .none, .iaddr 1 (.t 35) (.t 38)⟩, 
  false, 0, 0⟩, ⟨19, ⟨.none, .none, .store 1 (.t 50) (.t 48)⟩, true, 0, 0⟩]) (.keep [0, 6, 7, 10] (.reg [⟨.some 51, .none, .mv (.t 0)⟩, ⟨.some 52, .none, .mv (.t 7)⟩, ⟨.some 53, .none, 
  .mv (.t 10)⟩, ⟨.some 54, .none, .mv (.t 6)⟩, ⟨.some 55, .none, .call (.c (.fn 91 [])) [.t 51, .t 52, .t 53, .t 54]⟩])))) (.keep [0, 6, 7, 10] (.reg [⟨.some 31, .none, .mv (.t 10)⟩, 
  ⟨.some 32, .none, .bin .sub (.t 31) (.c (.int .i64 1))⟩, ⟨.some 10, .none, .mv (.t 32)⟩]))))))))))))), [], false⟩
theorem ok80 : chkFn Go.Proofs.Tryd.prog Go.Proofs.Tryd.f80 fe80 = true := by kernel_rfl
/- "slices.breakPatternsOrdered[string]" -/
def fe81 : FE :=
  ⟨3, .seq (.reg [⟨.some 11, .none, .mv (.t 2)⟩, ⟨.some 12, .none, .mv (.t 1)⟩, ⟨.some 13, .none, .bin .sub (.t 11) (.t 12)⟩, ⟨.some 6, .none, .mv (.t 13)⟩]) (.keep [0, 1, 6] (.seq (.reg 
  [⟨.some 14, .none, .mv (.t 6)⟩, ⟨.some 15, .none, .bin .geq (.t 14) (.c (.int .i64 8))⟩]) (.cond (.t 15) (.seq (.reg [⟨.some 16, .none, .mv (.t 6)⟩, ⟨.some 17, .none, .i2i .u64 (.t 
  16)⟩, ⟨.some 7, .none, .alloc [.int .u64 0]⟩, ⟨.none, .none, .store 1 (.t 7) (.t 17)⟩]) (.keep [0, 1, 6, 7] (.seq (.reg [⟨.some 18, .none, .mv (.t 6)⟩, ⟨.some 19, .none, .call (.c 
  (.fn 92 [])) [.t 18]⟩, ⟨.some 8, .none, .mv (.t 19)⟩]) (.seq (.reg [⟨.some 20, .none, .mv (.t 1)⟩, ⟨.some 21, .none, .mv (.t 6)⟩, ⟨.some 22, .none, .bin .quo (.t 21) (.c (.int .i64 
  4))⟩, ⟨.some 23, .none, .bin .mul (.t 22) (.c (.int .i64 2))⟩, ⟨.some 24, .none, .bin .add (.t 20) (.t 23)⟩, ⟨.some 25, .none, .bin .sub (.t 24) (.c (.int .i64 1))⟩, ⟨.some 9, .none, 
  .mv (.t 25)⟩]) (.keep [0, 1, 6, 7, 8, 9] (.block 0 (.loop [0, 1, 6, 7, 8, 9] (.seq (.seq (.reg [⟨.some 26, .none, .mv (.t 9)⟩, ⟨.some 27, .none, .mv (.t 1)⟩, ⟨.some 28, .none, .mv 
  (.t 6)⟩, ⟨.some 29, .none, .bin .quo (.t 28) (.c (.int .i64 4))⟩, ⟨.some 30, .none, .bin .mul (.t 29) (.c (.int .i64 2))⟩, ⟨.some 31, .none, .bin .add (.t 27) (.t 30)⟩, ⟨.some 32, 
  .none, .bin .add (.t 31) (.c (.int .i64 1))⟩, ⟨.some 33, .none, .bin .leq (.t 26) (.t 32)⟩]) (.keep [0, 1, 6, 7, 8, 9, 33] (.cond (.t 33) .skip (.exit 0)))) (.keep [0, 1, 6, 7, 8, 
  9] (.seq (.block 1 (.seq (.reg [⟨.some 36, .none, .call (.c (.fn 93 [])) [.t 7]⟩, ⟨.some 37, .none, .mv (.t 8)⟩, ⟨.some 38, .none, .bin .sub (.t 37) (.c (.int .u64 1))⟩, ⟨.some 39, 
  .none, .bin .and (.t 36) (.t 38)⟩, ⟨.some 40, .none, .i2i .i64 (.t 39)⟩, ⟨.some 10, .none, .mv (.t 40)⟩]) (.keep [0, 1, 6, 7, 8, 9, 10] (.seq (.seq (.reg [⟨.some 41, .none, .mv (.t 
  10)⟩, ⟨.some 42, .none, .mv (.t 6)⟩, ⟨.some 43, .none, .bin .geq (.t 41) (.t 42)⟩]) (.cond (.t 43) (.reg [⟨.some 44, .none, .mv (.t 10)⟩, ⟨.some 45, .none, .mv (.t 6)⟩, ⟨.some 46, 
  .none, .bin .sub (.t 44) (.t 45)⟩, ⟨.some 10, .none, .mv (.t 46)⟩]) .skip)) (.keep [0, 1, 6, 7, 8, 9, 10] (.dreg [⟨0, ⟨.some 47, .none, .mv (.t 0)⟩, false, 0, 0⟩, ⟨1, ⟨.some 48, .none, 
  .mv (.t 9)⟩, false, 0, 0⟩, ⟨2, ⟨.some 49, .none, .mv (.t 0)⟩, false, 0, 0⟩, ⟨3, ⟨.some 50, .none, .mv (.t 1)⟩, false, 0, 0⟩, ⟨4, ⟨.some 51, .none, .mv (.t 10)⟩, false, 0, 0⟩, ⟨5, 
  ⟨.some 52, .none, .bin .add (.t 50) (.t 51)⟩, false, 0, 0⟩, ⟨6, ⟨.some 53, .none, .mv (.t 0)⟩, false, 0, 0⟩, ⟨7, ⟨.some 54, .none, .mv (.t 1)⟩, false, 0, 0⟩, ⟨8, ⟨.some 55, .none, 
  .mv (.t 10)⟩, false, 0, 0⟩, ⟨9, ⟨.some 56, .none, .bin .add (.t 54) (.t 55)⟩, false, 0, 0⟩, ⟨10, ⟨.some 57, .none, .iaddr 1 (.t 53) (.t 56)⟩, false, 0, 0⟩, ⟨11, ⟨.some 58, .none, 
  .load false 1 (.t 57)⟩, false, 17, 17⟩, ⟨12, ⟨.some 59, .none, .mv (.t 0)⟩, false, 0, 0⟩, ⟨13, ⟨.some 60, .none, .mv (.t 9)⟩, false, 0, 0⟩, ⟨14, ⟨.some 61, .none, .iaddr 1 (.t 59) 
  (.t 60)⟩, false, 0, 0⟩, ⟨15, ⟨.some 62, .none, .load false 1 (.t 61)⟩, false, 17, 17⟩, ⟨16, ⟨.some 63, .none, .iaddr 1 (.t 47) (.t 48)⟩, false, 0, 0⟩, ⟨17, ⟨.none, .none, .store 1 
  (.t 63) (.t 58)⟩, true, 0, 0⟩, ⟨18, ⟨.some 64, .none, .iaddr 1 (.t 49) (.t 52)⟩, false, 0, 0⟩, ⟨19, ⟨.none, .none, .store 1 (.t 64) (.t 62)⟩, true, 0, 0⟩])))))) (.keep [0, 1, 6, 7, 
  8, 9] (.reg [⟨.some 34, .none, .mv (.t 9)⟩, ⟨.some 35, .none, .bin .add (.t 34) (.c (.int .i64 1))⟩, ⟨.some 9, .none, .mv (.t 35)⟩])))))))))))) .skip))), [], false⟩
theorem ok81 : chkFn Go.Proofs.Tryd.prog Go.Proofs.Tryd.f81 fe81 = true := by kernel_rfl
/- "slices.choosePivotOrdered[string]" -/
def fe82 : FE :=
  ⟨3, .seq (.reg [⟨.some 6, .none, .mv (.c (.int .i64 0))⟩, ⟨.some 7, .none, .mv (.c (.int .i64 0))⟩]) (.seq (.reg [⟨.some 13, .none, .mv (.t 2)⟩, ⟨.some 14, .none, .mv (.t 1)⟩, ⟨.some 
  15, .none, .bin .sub (.t 13) (.t 14)⟩, ⟨.some 8, .none, .mv (.t 15)⟩]) (.keep [0, 1, 8] (.seq (.reg [⟨.some 9, .none, .alloc [.int .i64 0]⟩]) (.seq (.reg [⟨.some 16, .none, .mv (.t 
  1)⟩, ⟨.some 17, .none, .mv (.t 8)⟩, ⟨.some 18, .none, .bin .quo (.t 17) (.c (.int .i64 4))⟩, ⟨.some 19, .none, .bin .mul (.t 18) (.c (.int .i64 1))⟩, ⟨.some 20, .none, .bin .add (.t 
  16) (.t 19)⟩, ⟨.some 10, .none, .mv (.t 20)⟩]) (.keep [0, 1, 8, 9, 10] (.seq (.reg [⟨.some 21, .none, .mv (.t 1)⟩, ⟨.some 22, .none, .mv (.t 8)⟩, ⟨.some 23, .none, .bin .quo (.t 22) 
  (.c (.int .i64 4))⟩, ⟨.some 24, .none, .bin .mul (.t 23) (.c (.int .i64 2))⟩, ⟨.some 25, .none, .bin .add (.t 21) (.t 24)⟩, ⟨.some 11, .none, .mv (.t 25)⟩]) (.keep [0, 1, 8, 9, 10, 
  11] (.seq (.reg [⟨.some 26, .none, .mv (.t 1)⟩, ⟨.some 27, .none, .mv (.t 8)⟩, ⟨.some 28, .none, .bin .quo (.t 27) (.c (.int .i64 4))⟩, ⟨.some 29, .none, .bin .mul (.t 28) (.c (.int 
  .i64 3))⟩, ⟨.some 30, .none, .bin .add (.t 26) (.t 29)⟩, ⟨.some 12, .none, .mv (.t 30)⟩]) (.keep [0, 8, 9, 10, 11, 12] (.seq (.seq (.reg [⟨.some 31, .none, .mv (.t 8)⟩, ⟨.some 32, 
  .none, .bin .geq (.t 31) (.c (.int .i64 8))⟩]) (.cond (.t 32) (.seq (.seq (.reg [⟨.some 33, .none, .mv (.t 8)⟩, ⟨.some 34, .none, .bin .geq (.t 33) (.c (.int .i64 50))⟩]) (.cond (.t 
  34) (.seq (.reg [⟨.some 35, .none, .mv (.t 0)⟩, ⟨.some 36, .none, .mv (.t 10)⟩, ⟨.some 37, .none, .call (.c (.fn 94 [])) [.t 35, .t 36, .t 9]⟩, ⟨.some 10, .none, .mv (.t 37)⟩]) (.keep 
  [0, 9, 10, 11, 12] (.seq (.reg [⟨.some 38, .none, .mv (.t 0)⟩, ⟨.some 39, .none, .mv (.t 11)⟩, ⟨.some 40, .none, .call (.c (.fn 94 [])) [.t 38, .t 39, .t 9]⟩, ⟨.some 11, .none, .mv 
  (.t 40)⟩]) (.keep [0, 9, 10, 11, 12] (.reg [⟨.some 41, .none, .mv (.t 0)⟩, ⟨.some 42, .none, .mv (.t 12)⟩, ⟨.some 43, .none, .call (.c (.fn 94 [])) [.t 41, .t 42, .t 9]⟩, ⟨.some 12, 
  .none, .mv (.t 43)⟩]))))) .skip)) (.keep [0, 9, 10, 11, 12] (.reg [⟨.some 44, .none, .mv (.t 0)⟩, ⟨.some 45, .none, .mv (.t 10)⟩, ⟨.some 46, .none, .mv (.t 11)⟩, ⟨.some 47, .none, 
  .mv (.t 12)⟩, ⟨.some 48, .none, .call (.c (.fn 95 [])) [.t 44, .t 45, .t 46, .t 47, .t 9]⟩, ⟨.some 11, .none, .mv (.t 48)⟩]))) .skip)) (.keep [9, 11] (.seq (.reg [⟨.some 49, .none, 
  .load false 1 (.t 9)⟩]) (.block 0 (.seq (.reg [⟨.some 52, .none, .bin .eql (.t 49) (.c (.int .i64 0))⟩, ⟨.some 51, .none, .mv (.t 52)⟩]) (.cond (.t 51) (.seq (.reg [⟨.some 53, .none, 
  .mv (.t 11)⟩, ⟨.some 6, .none, .mv (.t 53)⟩, ⟨.some 7, .none, .mv (.c (.int .i64 1))⟩]) .ret) (.seq (.reg [⟨.some 55, .none, .bin .eql (.t 49) (.c (.int .i64 12))⟩, ⟨.some 54, .none, 
  .mv (.t 55)⟩]) (.cond (.t 54) (.seq (.reg [⟨.some 56, .none, .mv (.t 11)⟩, ⟨.some 6, .none, .mv (.t 56)⟩, ⟨.some 7, .none, .mv (.c (.int .i64 2))⟩]) .ret) (.seq (.reg [⟨.some 50, 
  .none, .mv (.t 11)⟩, ⟨.some 6, .none, .mv (.t 50)⟩, ⟨.some 7, .none, .mv (.c (.int .i64 0))⟩]) .ret)))))))))))))))))), [.tmp 6, .tmp 7], false⟩
theorem ok82 : chkFn Go.Proofs.Tryd.prog Go.Proofs.Tryd.f82 fe82 = true := by kernel_rfl
/- "slices.reverseRangeOrdered[string]" -/
def fe83 : FE :=
  ⟨3, .seq (.reg [⟨.some 8, .none, .mv (.t 1)⟩, ⟨.some 6, .none, .mv (.t 8)⟩]) (.seq (.reg [⟨.some 9, .none, .mv (.t 2)⟩, ⟨.some 10, .none, .bin .sub (.t 9) (.c (.int .i64 1))⟩, ⟨.some 
  7, .none, .mv (.t 10)⟩]) (.block 0 (.loop [0, 6, 7] (.seq (.seq (.reg [⟨.some 11, .none, .mv (.t 6)⟩, ⟨.some 12, .none, .mv (.t 7)⟩, ⟨.some 13, .none, .bin .lss (.t 11) (.t 12)⟩]) 
  (.cond (.t 13) .skip (.exit 0))) (.keep [0, 6, 7] (.block 1 (.seq (.dreg [⟨0, ⟨.some 14, .none, .mv (.t 0)⟩, false, 0, 0⟩, ⟨1, ⟨.some 15, .none, .mv (.t 6)⟩, false, 0, 0⟩, ⟨2, ⟨.some 
  16, .none, .mv (.t 0)⟩, false, 0, 0⟩, ⟨3, ⟨.some 17, .none, .mv (.t 7)⟩, false, 0, 0⟩, ⟨4, ⟨.some 18, .none, .mv (.t 0)⟩, false, 0, 0⟩, ⟨5, ⟨.some 19, .none, .mv (.t 7)⟩, false, 0, 
  0⟩, ⟨6, ⟨.some 20, .none, .iaddr 1 (.t 18) (.t 19)⟩, false, 0, 0⟩, ⟨7, ⟨.some 21, .none, .load false 1 (.t 20)⟩, false, 13, 13⟩, ⟨8, ⟨.some 22, .none, .mv (.t 0)⟩, false, 0, 0⟩, ⟨9, 
  ⟨.some 23, .none, .mv (.t 6)⟩, false, 0, 0⟩, ⟨10, ⟨.some 24, .none, .iaddr 1 (.t 22) (.t 23)⟩, false, 0, 0⟩, ⟨11, ⟨.some 25, .none, .load false 1 (.t 24)⟩, false, 13, 13⟩, ⟨12, ⟨.some 
  26, .none, .iaddr 1 (.t 14) (.t 15)⟩, false, 0, 0⟩, ⟨13, ⟨.none, .none, .store 1 (.t 26) (.t 21)⟩, true, 0, 0⟩, ⟨14, ⟨.some 27, .none, .iaddr 1 (.t 16) (.t 17)⟩, false, 0, 0⟩, ⟨15, 
  ⟨.none, .none, .store 1 (.t 27) (.t 25)⟩, true, 0, 0⟩]) (.keep [0, 6, 7] (.seq (.reg [⟨.some 28, .none, .mv (.t 6)⟩, ⟨.some 29, .none, .bin .add (.t 28) (.c (.int .i64 1))⟩, ⟨.some 
  6, .none, .mv (.t 29)⟩]) (.reg [⟨.some 30, .none, .mv (.t 7)⟩, ⟨.some 31, .none, .bin .sub (.t 30) (.c (.int .i64 1))⟩, ⟨.some 7, .none, .mv (.t 31)⟩])))))))))), [], false⟩
theorem ok83 : chkFn Go.Proofs.Tryd.prog Go.Proofs.Tryd.f83 fe83 = true := by kernel_rfl
/- "slices.partialInsertionSortOrdered[string]" -/
def fe84 : FE :=
  ⟨3, .seq (.reg [⟨.some 6, .none, .mv (.c (.bool false))⟩]) (.seq (.reg [⟨.some 11, .none, .mv (.t 1)⟩, ⟨.some 12, .none, .bin .add (.t 11) (.c (.int .i64 1))⟩, ⟨.some 7, .none, .mv 
  (.t 12)⟩]) (.seq (.seq (.reg [⟨.some 8, .none, .mv (.c (.int .i64 0))⟩]) (.block 0 (.loop [0, 1, 2, 7, 8] (.seq (.seq (.reg [⟨.some 13, .none, .mv (.t 8)⟩, ⟨.some 14, .none, .bin 
  .lss (.t 13) (.c (.int .i64 5))⟩]) (.cond (.t 14) .skip (.exit 0))) (.keep [0, 1, 2, 7, 8] (.seq (.block 1 (.seq (.block 2 (.loop [0, 1, 2, 7, 8] (.seq (.seq (.dreg [⟨0, ⟨.some 17, 
  .none, .mv (.t 7)⟩, false, 0, 0⟩, ⟨1, ⟨.some 18, .none, .mv (.t 2)⟩, false, 0, 0⟩, ⟨2, ⟨.some 19, .none, .bin .lss (.t 17) (.t 18)⟩, false, 0, 0⟩, ⟨3, ⟨.some 20, .none, .mv (.t 19)⟩, 
  false, 0, 0⟩, ⟨4, ⟨.some 21, .some (20, true), .mv (.t 0)⟩, false, 0, 0⟩, ⟨5, ⟨.some 22, .some (20, true), .mv (.t 7)⟩, false, 0, 0⟩, ⟨6, ⟨.some 23, .some (20, true), .iaddr 1 (.t 
  21) (.t 22)⟩, false, 0, 0⟩, ⟨7, ⟨.some 24, .some (20, true), .load false 1 (.t 23)⟩, false, 13, 13⟩, ⟨8, ⟨.some 25, .some (20, true), .mv (.t 0)⟩, false, 0, 0⟩, ⟨9, ⟨.some 26, .some 
  (20, true), .mv (.t 7)⟩, false, 0, 0⟩, ⟨10, ⟨.some 27, .some (20, true), .bin .sub (.t 26) (.c (.int .i64 1))⟩, false, 0, 0⟩, ⟨11, ⟨.some 28, .some (20, true), .iaddr 1 (.t 25) (.t 
  27)⟩, false, 0, 0⟩, ⟨12, ⟨.some 29, .some (20, true), .load false 1 (.t 28)⟩, false, 13, 13⟩, ⟨13, ⟨.some 30, .some (20, true), .call (.c (.fn 85 [])) [.t 24, .t 29]⟩, true, 0, 0⟩, 
  ⟨14, ⟨.some 31, .some (20, true), .un .not (.t 30)⟩, false, 0, 0⟩, ⟨15, ⟨.some 32, .none, .pick (.t 20) (.t 31) (.c (.bool false))⟩, false, 0, 0⟩]) (.keep [0, 1, 2, 7, 8, 32] (.cond 
  (.t 32) .skip (.exit 2)))) (.keep [0, 1, 2, 7, 8] (.block 3 (.reg [⟨.some 33, .none, .mv (.t 7)⟩, ⟨.some 34, .none, .bin .add (.t 33) (.c (.int .i64 1))⟩, ⟨.some 7, .none, .mv (.t 
  34)⟩])))))) (.keep [0, 1, 2, 7, 8] (.seq (.seq (.reg [⟨.some 35, .none, .mv (.t 7)⟩, ⟨.some 36, .none, .mv (.t 2)⟩, ⟨.some 37, .none, .bin .eql (.t 35) (.t 36)⟩]) (.cond (.t 37) (.seq 
  (.reg [⟨.some 6, .none, .mv (.c (.bool true))⟩]) .ret) .skip)) (.keep [0, 1, 2, 7, 8] (.seq (.seq (.reg [⟨.some 38, .none, .mv (.t 2)⟩, ⟨.some 39, .none, .mv (.t 1)⟩, ⟨.some 40, .none, 
  .bin .sub (.t 38) (.t 39)⟩, ⟨.some 41, .none, .bin .lss (.t 40) (.c (.int .i64 50))⟩]) (.keep [0, 1, 2, 7, 8, 41] (.cond (.t 41) (.seq (.reg [⟨.some 6, .none, .mv (.c (.bool false))⟩]) 
  .ret) .skip))) (.keep [0, 1, 2, 7, 8] (.seq (.dreg [⟨0, ⟨.some 42, .none, .mv (.t 0)⟩, false, 0, 0⟩, ⟨1, ⟨.some 43, .none, .mv (.t 7)⟩, false, 0, 0⟩, ⟨2, ⟨.some 44, .none, .mv (.t 
  0)⟩, false, 0, 0⟩, ⟨3, ⟨.some 45, .none, .mv (.t 7)⟩, false, 0, 0⟩, ⟨4, ⟨.some 46, .none, .bin .sub (.t 45) (.c (.int .i64 1))⟩, false, 0, 0⟩, ⟨5, ⟨.some 47, .none, .mv (.t 0)⟩, false, 
  0, 0⟩, ⟨6, ⟨.some 48, .none, .mv (.t 7)⟩, false, 0, 0⟩, ⟨7, ⟨.some 49, .none, .bin .sub (.t 48) (.c (.int .i64 1))⟩, false, 0, 0⟩, ⟨8, ⟨.some 50, .none, .iaddr 1 (.t 47) (.t 49)⟩, 
  false, 0, 0⟩, ⟨9, ⟨.some 51, .none, .load false 1 (.t 50)⟩, false, 15, 15⟩, ⟨10, ⟨.some 52, .none, .mv (.t 0)⟩, false, 0, 0⟩, ⟨11, ⟨.some 53, .none, .mv (.t 7)⟩, false, 0, 0⟩, ⟨12, 
  ⟨.some 54, .none, .iaddr 1 (.t 52) (.t 53)⟩, false, 0, 0⟩, ⟨13, ⟨.some 55, .none, .load false 1 (.t 54)⟩, false, 15, 15⟩, ⟨14, ⟨.some 56, .none, .iaddr 1 (.t 42) (.t 43)⟩, false, 
  0, 0⟩, ⟨15, ⟨.none, .none, .store 1 (.t 56) (.t 51)⟩, true, 0, 0⟩, ⟨16, ⟨.some 57, .none, .iaddr 1 (.t 44) (.t 46)⟩, false, 0, 0⟩, ⟨17, ⟨.none, .none, .store 1 (.t 57) (.t 55)⟩, true, 
  0, 0⟩]) (.keep [0, 1, 2, 7, 8] (.seq (.seq (.reg [⟨.some 58, .none, .mv (.t 7)⟩, ⟨.some 59, .none, .mv (.t 1)⟩, ⟨.some 60, .none, .bin .sub (.t 58) (.t 59)⟩, ⟨.some 61, .none, .bin 
  .geq (.t 60) (.c (.int .i64 2))⟩]) (.keep [0, 1, 2, 7, 8, 61] (.cond (.t 61) (.seq (.reg [⟨.some 62, .none, .mv (.t 7)⟩, ⟨.some 63, .none, .bin .sub (.t 62) (.c (.int .i64 1))⟩, ⟨.some 
  9, .none, .mv (.t 63)⟩]) (.block 4 (.loop [0, 1, 2, 7, 8, 9] (.seq (.seq (.reg [⟨.some 64, .none, .mv (.t 9)⟩, ⟨.some 65, .none, .bin .geq (.t 64) (.c (.int .i64 1))⟩]) (.cond (.t 
  65) .skip (.exit 4))) (.keep [0, 1, 2, 7, 8, 9] (.seq (.block 5 (.seq (.seq (.dreg [⟨0, ⟨.some 68, .none, .mv (.t 0)⟩, false, 0, 0⟩, ⟨1, ⟨.some 69, .none, .mv (.t 9)⟩, false, 0, 0⟩, 
  ⟨2, ⟨.some 70, .none, .iaddr 1 (.t 68) (.t 69)⟩, false, 0, 0⟩, ⟨3, ⟨.some 71, .none, .load false 1 (.t 70)⟩, false, 9, 9⟩, ⟨4, ⟨.some 72, .none, .mv (.t 0)⟩, false, 0, 0⟩, ⟨5, ⟨.some 
  73, .none, .mv (.t 9)⟩, false, 0, 0⟩, ⟨6, ⟨.some 74, .none, .bin .sub (.t 73) (.c (.int .i64 1))⟩, false, 0, 0⟩, ⟨7, ⟨.some 75, .none, .iaddr 1 (.t 72) (.t 74)⟩, false, 0, 0⟩, ⟨8, 
  ⟨.some 76, .none, .load false 1 (.t 75)⟩, false, 9, 9⟩, ⟨9, ⟨.some 77, .none, .call (.c (.fn 85 [])) [.t 71, .t 76]⟩, true, 0, 0⟩, ⟨10, ⟨.some 78, .none, .un .not (.t 77)⟩, false, 
  0, 0⟩]) (.keep [0, 1, 2, 7, 8, 9, 78] (.cond (.t 78) (.exit 4) .skip))) (.keep [0, 1, 2, 7, 8, 9] (.dreg [⟨0, ⟨.some 79, .none, .mv (.t 0)⟩, false, 0, 0⟩, ⟨1, ⟨.some 80, .none, .mv 
  (.t 9)⟩, false, 0, 0⟩, ⟨2, ⟨.some 81, .none, .mv (.t 0)⟩, false, 0, 0⟩, ⟨3, ⟨.some 82, .none, .mv (.t 9)⟩, false, 0, 0⟩, ⟨4, ⟨.some 83, .none, .bin .sub (.t 82) (.c (.int .i64 1))⟩, 
  false, 0, 0⟩, ⟨5, ⟨.some 84, .none, .mv (.t 0)⟩, false, 0, 0⟩, ⟨6, ⟨.some 85, .none, .mv (.t 9)⟩, false, 0, 0⟩, ⟨7, ⟨.some 86, .none, .bin .sub (.t 85) (.c (.int .i64 1))⟩, false, 
  0, 0⟩, ⟨8, ⟨.some 87, .none, .iaddr 1 (.t 84) (.t 86)⟩, false, 0, 0⟩, ⟨9, ⟨.some 88, .none, .load false 1 (.t 87)⟩, false, 15, 15⟩, ⟨10, ⟨.some 89, .none, .mv (.t 0)⟩, false, 0, 0⟩, 
  ⟨11, ⟨.some 90, .none, .mv (.t 9)⟩, false, 0, 0⟩, ⟨12, ⟨.some 91, .none, .iaddr 1 (.t 89) (.t 90)⟩, false, 0, 0⟩, ⟨13, ⟨.some 92, .none, .load false 1 (.t 91)⟩, false, 15, 15⟩, ⟨14, 
  ⟨.some 93, .none, .iaddr 1 (.t 79) (.t 80)⟩, false, 0, 0⟩, ⟨15, ⟨.none, .none, .store 1 (.t 93) (.t 88)⟩, true, 0, 0⟩, ⟨16, ⟨.some 94, .none, .iaddr 1 (.t 81) (.t 83)⟩, false, 0, 
  0⟩, ⟨17, ⟨.none, .none, .store 1 (.t 94) (.t 92)⟩, true, 0, 0⟩])))) (.keep [0, 1, 2, 7, 8, 9] (.reg [⟨.some 66, .none, .mv (.t 9)⟩, ⟨.some 67, .none, .bin .sub (.t 66) (.c (.int .i64 
  1))⟩, ⟨.some 9, .none, .mv (.t 67)⟩])))))))) .skip))) (.keep [0, 1, 2, 7, 8] (.seq (.reg [⟨.some 95, .none, .mv (.t 2)⟩, ⟨.some 96, .none, .mv (.t 7)⟩, ⟨.some 97, .none, .bin .sub 
  (.t 95) (.t 96)⟩, ⟨.some 98, .none, .bin .geq (.t 97) (.c (.int .i64 2))⟩]) (.keep [0, 1, 2, 7, 8, 98] (.cond (.t 98) (.seq (.reg [⟨.some 99, .none, .mv (.t 7)⟩, ⟨.some 100, .none, 
  .bin .add (.t 99) (.c (.int .i64 1))⟩, ⟨.some 10, .none, .mv (.t 100)⟩]) (.block 6 (.loop [0, 1, 2, 7, 8, 10] (.seq (.seq (.reg [⟨.some 101, .none, .mv (.t 10)⟩, ⟨.some 102, .none, 
  .mv (.t 2)⟩, ⟨.some 103, .none, .bin .lss (.t 101) (.t 102)⟩]) (.cond (.t 103) .skip (.exit 6))) (.keep [0, 1, 2, 7, 8, 10] (.seq (.block 7 (.seq (.seq (.dreg [⟨0, ⟨.some 106, .none, 
  .mv (.t 0)⟩, false, 0, 0⟩, ⟨1, ⟨.some 107, .none, .mv (.t 10)⟩, false, 0, 0⟩, ⟨2, ⟨.some 108, .none, .iaddr 1 (.t 106) (.t 107)⟩, false, 0, 0⟩, ⟨3, ⟨.some 109, .none, .load false 
  1 (.t 108)⟩, false, 9, 9⟩, ⟨4, ⟨.some 110, .none, .mv (.t 0)⟩, false, 0, 0⟩, ⟨5, ⟨.some 111, .none, .mv (.t 10)⟩, false, 0, 0⟩, ⟨6, ⟨.some 112, .none, .bin .sub (.t 111) (.c (.int 
  .i64 1))⟩, false, 0, 0⟩, ⟨7, ⟨.some 113, .none, .iaddr 1 (.t 110) (.t 112)⟩, false, 0, 0⟩, ⟨8, ⟨.some 114, .none, .load false 1 (.t 113)⟩, false, 9, 9⟩, ⟨9, ⟨.some 115, .none, .call 
  (.c (.fn 85 [])) [.t 109, .t 114]⟩, true, 0, 0⟩, ⟨10, ⟨.some 116, .none, .un .not (.t 115)⟩, false, 0, 0⟩]) (.keep [0, 1, 2, 7, 8, 10, 116] (.cond (.t 116) (.exit 6) .skip))) (.keep 
  [0, 1, 2, 7, 8, 10] (.dreg [⟨0, ⟨.some 117, .none, .mv (.t 0)⟩, false, 0, 0⟩, ⟨1, ⟨.some 118, .none, .mv (.t 10)⟩, false, 0, 0⟩, ⟨2, ⟨.some 119, .none, .mv (.t 0)⟩, false, 0, 0⟩, 
  ⟨3, ⟨.some 120, .none, .mv (.t 10)⟩, false, 0, 0⟩, ⟨4, ⟨.some 121, .none, .bin .sub (.t 120) (.c (.int .i64 1))⟩, false, 0, 0⟩, ⟨5, ⟨.some 122, .none, .mv (.t 0)⟩, false, 0, 0⟩, ⟨6, 
  ⟨.some 123, .none, .mv (.t 10)⟩, false, 0, 0⟩, ⟨7, ⟨.some 124, .none, .bin .sub (.t 123) (.c (.int .i64 1))⟩, false, 0, 0⟩, ⟨8, ⟨.some 125, .none, .iaddr 1 (.t 122) (.t 124)⟩, false, 
  0, 0⟩, ⟨9, ⟨.some 126, .none, .load false 1 (.t 125)⟩, false, 15, 15⟩, ⟨10, ⟨.some 127, .none, .mv (.t 0)⟩, false, 0, 0⟩, ⟨11, ⟨.some 128, .none, .mv (.t 10)⟩, false, 0, 0⟩, ⟨12, 
  ⟨.some 129, .none, .iaddr 1 (.t 127) (.t 128)⟩, false, 0, 0⟩, ⟨13, ⟨.some 130, .none, .load false 1 (.t 129)⟩, false, 15, 15⟩, ⟨14, ⟨.some 131, .none, .iaddr 1 (.t 117) (.t 118)⟩, 
  false, 0, 0⟩, ⟨15, ⟨.none, .none, .store 1 (.t 131) (.t 126)⟩, true, 0, 0⟩, ⟨16, ⟨.some 132, .none, .iaddr 1 (.t 119) (.t 121)⟩, false, 0, 0⟩, ⟨17, ⟨.none, .none, .store 1 (.t 132) 
  (.t 130)⟩, true, 0, 0⟩])))) (.keep [0, 1, 2, 7, 8, 10] (.reg [⟨.some 104, .none, .mv (.t 10)⟩, ⟨.some 105, .none, .bin .add (.t 104) (.c (.int .i64 1))⟩, ⟨.some 10, .none, .mv (.t 
  105)⟩])))))))) .skip)))))))))))))) (.keep [0, 1, 2, 7, 8] (.reg [⟨.some 15, .none, .mv (.t 8)⟩, ⟨.some 16, .none, .bin .add (.t 15) (.c (.int .i64 1))⟩, ⟨.some 8, .none, .mv (.t 16)⟩])))))))) 
  (.keep [] (.seq (.reg [⟨.some 6, .none, .mv (.c (.bool false))⟩]) .ret)))), [.tmp 6], false⟩
theorem ok84 : chkFn Go.Proofs.Tryd.prog Go.Proofs.Tryd.f84 fe84 = true := by kernel_rfl
/- "cmp.Less[string]" -/
def fe85 : FE :=
  ⟨2, .seq (.reg [⟨.some 4, .none, .mv (.c (.bool false))⟩]) (.seq (.reg [⟨.some 5, .none, .mv (.t 0)⟩, ⟨.some 6, .none, .call (.c (.fn 96 [])) [.t 5]⟩, ⟨.some 7, .none, .mv (.t 6)⟩, 
  ⟨.some 8, .some (7, true), .mv (.t 1)⟩, ⟨.some 9, .some (7, true), .call (.c (.fn 96 [])) [.t 8]⟩, ⟨.some 10, .some (7, true), .un .not (.t 9)⟩, ⟨.some 11, .none, .pick (.t 7) (.t 
  10) (.c (.bool false))⟩, ⟨.some 12, .none, .mv (.t 11)⟩, ⟨.some 13, .some (12, false), .mv (.t 0)⟩, ⟨.some 14, .some (12, false), .mv (.t 1)⟩, ⟨.some 15, .some (12, false), .bin .lss 
  (.t 13) (.t 14)⟩, ⟨.some 16, .none, .pick (.t 12) (.c (.bool true)) (.t 15)⟩, ⟨.some 4, .none, .mv (.t 16)⟩]) (.keep [4] .ret)), [.tmp 4], false⟩
theorem ok85 : chkFn Go.Proofs.Tryd.prog Go.Proofs.Tryd.f85 fe85 = true := by kernel_rfl
/- "slices.partitionEqualOrdered[string]" -/
def fe86 : FE :=
  ⟨4, .seq (.reg [⟨.some 8, .none, .mv (.c (.int .i64 0))⟩]) (.seq (.dreg [⟨0, ⟨.some 11, .none, .mv (.t 0)⟩, false, 0, 0⟩, ⟨1, ⟨.some 12, .none, .mv (.t 1)⟩, false, 0, 0⟩, ⟨2, ⟨.some 
  13, .none, .mv (.t 0)⟩, false, 0, 0⟩, ⟨3, ⟨.some 14, .none, .mv (.t 3)⟩, false, 0, 0⟩, ⟨4, ⟨.some 15, .none, .mv (.t 0)⟩, false, 0, 0⟩, ⟨5, ⟨.some 16, .none, .mv (.t 3)⟩, false, 0, 
  0⟩, ⟨6, ⟨.some 17, .none, .iaddr 1 (.t 15) (.t 16)⟩, false, 0, 0⟩, ⟨7, ⟨.some 18, .none, .load false 1 (.t 17)⟩, false, 13, 13⟩, ⟨8, ⟨.some 19, .none, .mv (.t 0)⟩, false, 0, 0⟩, ⟨9, 
  ⟨.some 20, .none, .mv (.t 1)⟩, false, 0, 0⟩, ⟨10, ⟨.some 21, .none, .iaddr 1 (.t 19) (.t 20)⟩, false, 0, 0⟩, ⟨11, ⟨.some 22, .none, .load false 1 (.t 21)⟩, false, 13, 13⟩, ⟨12, ⟨.some 
  23, .none, .iaddr 1 (.t 11) (.t 12)⟩, false, 0, 0⟩, ⟨13, ⟨.none, .none, .store 1 (.t 23) (.t 18)⟩, true, 0, 0⟩, ⟨14, ⟨.some 24, .none, .iaddr 1 (.t 13) (.t 14)⟩, false, 0, 0⟩, ⟨15, 
  ⟨.none, .none, .store 1 (.t 24) (.t 22)⟩, true, 0, 0⟩]) (.keep [0, 1, 2] (.seq (.reg [⟨.some 25, .none, .mv (.t 1)⟩, ⟨.some 26, .none, .bin .add (.t 25) (.c (.int .i64 1))⟩, ⟨.some 
  27, .none, .mv (.t 2)⟩, ⟨.some 28, .none, .bin .sub (.t 27) (.c (.int .i64 1))⟩, ⟨.some 9, .none, .mv (.t 26)⟩, ⟨.some 10, .none, .mv (.t 28)⟩]) (.keep [0, 1, 9, 10] (.seq (.block 
  0 (.loop [0, 1, 9, 10] (.block 1 (.seq (.block 2 (.loop [0, 1, 9, 10] (.seq (.seq (.dreg [⟨0, ⟨.some 29, .none, .mv (.t 9)⟩, false, 0, 0⟩, ⟨1, ⟨.some 30, .none, .mv (.t 10)⟩, false, 
  0, 0⟩, ⟨2, ⟨.some 31, .none, .bin .leq (.t 29) (.t 30)⟩, false, 0, 0⟩, ⟨3, ⟨.some 32, .none, .mv (.t 31)⟩, false, 0, 0⟩, ⟨4, ⟨.some 33, .some (32, true), .mv (.t 0)⟩, false, 0, 0⟩, 
  ⟨5, ⟨.some 34, .some (32, true), .mv (.t 1)⟩, false, 0, 0⟩, ⟨6, ⟨.some 35, .some (32, true), .iaddr 1 (.t 33) (.t 34)⟩, false, 0, 0⟩, ⟨7, ⟨.some 36, .some (32, true), .load false 
  1 (.t 35)⟩, false, 12, 12⟩, ⟨8, ⟨.some 37, .some (32, true), .mv (.t 0)⟩, false, 0, 0⟩, ⟨9, ⟨.some 38, .some (32, true), .mv (.t 9)⟩, false, 0, 0⟩, ⟨10, ⟨.some 39, .some (32, true), 
  .iaddr 1 (.t 37) (.t 38)⟩, false, 0, 0⟩, ⟨11, ⟨.some 40, .some (32, true), .load false 1 (.t 39)⟩, false, 12, 12⟩, ⟨12, ⟨.some 41, .some (32, true), .call (.c (.fn 85 [])) [.t 36, 
  .t 40]⟩, true, 0, 0⟩, ⟨13, ⟨.some 42, .some (32, true), .un .not (.t 41)⟩, false, 0, 0⟩, ⟨14, ⟨.some 43, .none, .pick (.t 32) (.t 42) (.c (.bool false))⟩, false, 0, 0⟩]) (.keep [0, 
  1, 9, 10, 43] (.cond (.t 43) .skip (.exit 2)))) (.keep [0, 1, 9, 10] (.block 3 (.reg [⟨.some 44, .none, .mv (.t 9)⟩, ⟨.some 45, .none, .bin .add (.t 44) (.c (.int .i64 1))⟩, ⟨.some 
  9, .none, .mv (.t 45)⟩])))))) (.keep [0, 1, 9, 10] (.seq (.block 4 (.loop [0, 1, 9, 10] (.seq (.seq (.dreg [⟨0, ⟨.some 46, .none, .mv (.t 9)⟩, false, 0, 0⟩, ⟨1, ⟨.some 47, .none, 
  .mv (.t 10)⟩, false, 0, 0⟩, ⟨2, ⟨.some 48, .none, .bin .leq (.t 46) (.t 47)⟩, false, 0, 0⟩, ⟨3, ⟨.some 49, .none, .mv (.t 48)⟩, false, 0, 0⟩, ⟨4, ⟨.some 50, .some (49, true), .mv 
  (.t 0)⟩, false, 0, 0⟩, ⟨5, ⟨.some 51, .some (49, true), .mv (.t 1)⟩, false, 0, 0⟩, ⟨6, ⟨.some 52, .some (49, true), .iaddr 1 (.t 50) (.t 51)⟩, false, 0, 0⟩, ⟨7, ⟨.some 53, .some (49, 
  true), .load false 1 (.t 52)⟩, false, 12, 12⟩, ⟨8, ⟨.some 54, .some (49, true), .mv (.t 0)⟩, false, 0, 0⟩, ⟨9, ⟨.some 55, .some (49, true), .mv (.t 10)⟩, false, 0, 0⟩, ⟨10, ⟨.some 
  56, .some (49, true), .iaddr 1 (.t 54) (.t 55)⟩, false, 0, 0⟩, ⟨11, ⟨.some 57, .some (49, true), .load false 1 (.t 56)⟩, false, 12, 12⟩, ⟨12, ⟨.some 58, .some (49, true), .call (.c 
  (.fn 85 [])) [.t 53, .t 57]⟩, true, 0, 0⟩, ⟨13, ⟨.some 59, .none, .pick (.t 49) (.t 58) (.c (.bool false))⟩, false, 0, 0⟩]) (.keep [0, 1, 9, 10, 59] (.cond (.t 59) .skip (.exit 4)))) 
  (.keep [0, 1, 9, 10] (.block 5 (.reg [⟨.some 60, .none, .mv (.t 10)⟩, ⟨.some 61, .none, .bin .sub (.t 60) (.c (.int .i64 1))⟩, ⟨.some 10, .none, .mv (.t 61)⟩])))))) (.keep [0, 1, 
  9, 10] (.seq (.seq (.reg [⟨.some 62, .none, .mv (.t 9)⟩, ⟨.some 63, .none, .mv (.t 10)⟩, ⟨.some 64, .none, .bin .gtr (.t 62) (.t 63)⟩]) (.cond (.t 64) (.exit 0) .skip)) (.keep [0, 
  1, 9, 10] (.seq (.dreg [⟨0, ⟨.some 65, .none, .mv (.t 0)⟩, false, 0, 0⟩, ⟨1, ⟨.some 66, .none, .mv (.t 9)⟩, false, 0, 0⟩, ⟨2, ⟨.some 67, .none, .mv (.t 0)⟩, false, 0, 0⟩, ⟨3, ⟨.some 
  68, .none, .mv (.t 10)⟩, false, 0, 0⟩, ⟨4, ⟨.some 69, .none, .mv (.t 0)⟩, false, 0, 0⟩, ⟨5, ⟨.some 70, .none, .mv (.t 10)⟩, false, 0, 0⟩, ⟨6, ⟨.some 71, .none, .iaddr 1 (.t 69) (.t 
  70)⟩, false, 0, 0⟩, ⟨7, ⟨.some 72, .none, .load false 1 (.t 71)⟩, false, 13, 13⟩, ⟨8, ⟨.some 73, .none, .mv (.t 0)⟩, false, 0, 0⟩, ⟨9, ⟨.some 74, .none, .mv (.t 9)⟩, false, 0, 0⟩, 
  ⟨10, ⟨.some 75, .none, .iaddr 1 (.t 73) (.t 74)⟩, false, 0, 0⟩, ⟨11, ⟨.some 76, .none, .load false 1 (.t 75)⟩, false, 13, 13⟩, ⟨12, ⟨.some 77, .none, .iaddr 1 (.t 65) (.t 66)⟩, false, 
  0, 0⟩, ⟨13, ⟨.none, .none, .store 1 (.t 77) (.t 72)⟩, true, 0, 0⟩, ⟨14, ⟨.some 78, .none, .iaddr 1 (.t 67) (.t 68)⟩, false, 0, 0⟩, ⟨15, ⟨.none, .none, .store 1 (.t 78) (.t 76)⟩, true, 
  0, 0⟩]) (.keep [0, 1, 9, 10] (.seq (.reg [⟨.some 79, .none, .mv (.t 9)⟩, ⟨.some 80, .none, .bin .add (.t 79) (.c (.int .i64 1))⟩, ⟨.some 9, .none, .mv (.t 80)⟩]) (.reg [⟨.some 81, 
  .none, .mv (.t 10)⟩, ⟨.some 82, .none, .bin .sub (.t 81) (.c (.int .i64 1))⟩, ⟨.some 10, .none, .mv (.t 82)⟩]))))))))))))) (.keep [9] (.seq (.reg [⟨.some 83, .none, .mv (.t 9)⟩, ⟨.some 
  8, .none, .mv (.t 83)⟩]) .ret))))))), [.tmp 8], false⟩
theorem ok86 : chkFn Go.Proofs.Tryd.prog Go.Proofs.Tryd.f86 fe86 = true := by kernel_rfl
/- "slices.partitionOrdered[string]" -/
def fe87 : FE :=
  ⟨4, .seq (.reg [⟨.some 8, .none, .mv (.c (.int .i64 0))⟩, ⟨.some 9, .none, .mv (.c (.bool false))⟩]) (.seq (.dreg [⟨0, ⟨.some 12, .none, .mv (.t 0)⟩, false, 0, 0⟩, ⟨1, ⟨.some 13, .none, 
  .mv (.t 1)⟩, false, 0, 0⟩, ⟨2, ⟨.some 14, .none, .mv (.t 0)⟩, false, 0, 0⟩, ⟨3, ⟨.some 15, .none, .mv (.t 3)⟩, false, 0, 0⟩, ⟨4, ⟨.some 16, .none, .mv (.t 0)⟩, false, 0, 0⟩, ⟨5, ⟨.some 
  17, .none, .mv (.t 3)⟩, false, 0, 0⟩, ⟨6, ⟨.some 18, .none, .iaddr 1 (.t 16) (.t 17)⟩, false, 0, 0⟩, ⟨7, ⟨.some 19, .none, .load false 1 (.t 18)⟩, false, 13, 13⟩, ⟨8, ⟨.some 20, .none, 
  .mv (.t 0)⟩, false, 0, 0⟩, ⟨9, ⟨.some 21, .none, .mv (.t 1)⟩, false, 0, 0⟩, ⟨10, ⟨.some 22, .none, .iaddr 1 (.t 20) (.t 21)⟩, false, 0, 0⟩, ⟨11, ⟨.some 23, .none, .load false 1 (.t 
  22)⟩, false, 13, 13⟩, ⟨12, ⟨.some 24, .none, .iaddr 1 (.t 12) (.t 13)⟩, false, 0, 0⟩, ⟨13, ⟨.none, .none, .store 1 (.t 24) (.t 19)⟩, true, 0, 0⟩, ⟨14, ⟨.some 25, .none, .iaddr 1 (.t 
  14) (.t 15)⟩, false, 0, 0⟩, ⟨15, ⟨.none, .none, .store 1 (.t 25) (.t 23)⟩, true, 0, 0⟩]) (.keep [0, 1, 2] (.seq (.reg [⟨.some 26, .none, .mv (.t 1)⟩, ⟨.some 27, .none, .bin .add (.t 
  26) (.c (.int .i64 1))⟩, ⟨.some 28, .none, .mv (.t 2)⟩, ⟨.some 29, .none, .bin .sub (.t 28) (.c (.int .i64 1))⟩, ⟨.some 10, .none, .mv (.t 27)⟩, ⟨.some 11, .none, .mv (.t 29)⟩]) (.keep 
  [0, 1, 10, 11] (.seq (.block 0 (.loop [0, 1, 10, 11] (.seq (.seq (.dreg [⟨0, ⟨.some 30, .none, .mv (.t 10)⟩, false, 0, 0⟩, ⟨1, ⟨.some 31, .none, .mv (.t 11)⟩, false, 0, 0⟩, ⟨2, ⟨.some 
  32, .none, .bin .leq (.t 30) (.t 31)⟩, false, 0, 0⟩, ⟨3, ⟨.some 33, .none, .mv (.t 32)⟩, false, 0, 0⟩, ⟨4, ⟨.some 34, .some (33, true), .mv (.t 0)⟩, false, 0, 0⟩, ⟨5, ⟨.some 35, .some 
  (33, true), .mv (.t 10)⟩, false, 0, 0⟩, ⟨6, ⟨.some 36, .some (33, true), .iaddr 1 (.t 34) (.t 35)⟩, false, 0, 0⟩, ⟨7, ⟨.some 37, .some (33, true), .load false 1 (.t 36)⟩, false, 12, 
  12⟩, ⟨8, ⟨.some 38, .some (33, true), .mv (.t 0)⟩, false, 0, 0⟩, ⟨9, ⟨.some 39, .some (33, true), .mv (.t 1)⟩, false, 0, 0⟩, ⟨10, ⟨.some 40, .some (33, true), .iaddr 1 (.t 38) (.t 
  39)⟩, false, 0, 0⟩, ⟨11, ⟨.some 41, .some (33, true), .load false 1 (.t 40)⟩, false, 12, 12⟩, ⟨12, ⟨.some 42, .some (33, true), .call (.c (.fn 85 [])) [.t 37, .t 41]⟩, true, 0, 0⟩, 
  ⟨13, ⟨.some 43, .none, .pick (.t 33) (.t 42) (.c (.bool false))⟩, false, 0, 0⟩]) (.keep [0, 1, 10, 11, 43] (.cond (.t 43) .skip (.exit 0)))) (.keep [0, 1, 10, 11] (.block 1 (.reg 
  [⟨.some 44, .none, .mv (.t 10)⟩, ⟨.some 45, .none, .bin .add (.t 44) (.c (.int .i64 1))⟩, ⟨.some 10, .none, .mv (.t 45)⟩])))))) (.keep [0, 1, 10, 11] (.seq (.block 2 (.loop [0, 1, 
  10, 11] (.seq (.seq (.dreg [⟨0, ⟨.some 46, .none, .mv (.t 10)⟩, false, 0, 0⟩, ⟨1, ⟨.some 47, .none, .mv (.t 11)⟩, false, 0, 0⟩, ⟨2, ⟨.some 48, .none, .bin .leq (.t 46) (.t 47)⟩, false, 
  0, 0⟩, ⟨3, ⟨.some 49, .none, .mv (.t 48)⟩, false, 0, 0⟩, ⟨4, ⟨.some 50, .some (49, true), .mv (.t 0)⟩, false, 0, 0⟩, ⟨5, ⟨.some 51, .some (49, true), .mv (.t 11)⟩, false, 0, 0⟩, ⟨6, 
  ⟨.some 52, .some (49, true), .iaddr 1 (.t 50) (.t 51)⟩, false, 0, 0⟩, ⟨7, ⟨.some 53, .some (49, true), .load false 1 (.t 52)⟩, false, 12, 12⟩, ⟨8, ⟨.some 54, .some (49, true), .mv 
  (.t 0)⟩, false, 0, 0⟩, ⟨9, ⟨.some 55, .some (49, true), .mv (.t 1)⟩, false, 0, 0⟩, ⟨10, ⟨.some 56, .some (49, true), .iaddr 1 (.t 54) (.t 55)⟩, false, 0, 0⟩, ⟨11, ⟨.some 57, .some 
  (49, true), .load false 1 (.t 56)⟩, false, 12, 12⟩, ⟨12, ⟨.some 58, .some (49, true), .call (.c (.fn 85 [])) [.t 53, .t 57]⟩, true, 0, 0⟩, ⟨13, ⟨.some 59, .some (49, true), .un .not 
  (.t 58)⟩, false, 0, 0⟩, ⟨14, ⟨.some 60, .none, .pick (.t 49) (.t 59) (.c (.bool false))⟩, false, 0, 0⟩]) (.keep [0, 1, 10, 11, 60] (.cond (.t 60) .skip (.exit 2)))) (.keep [0, 1, 
  10, 11] (.block 3 (.reg [⟨.some 61, .none, .mv (.t 11)⟩, ⟨.some 62, .none, .bin .sub (.t 61) (.c (.int .i64 1))⟩, ⟨.some 11, .none, .mv (.t 62)⟩])))))) (.keep [0, 1, 10, 11] (.seq 
  (.seq (.reg [⟨.some 63, .none, .mv (.t 10)⟩, ⟨.some 64, .none, .mv (.t 11)⟩, ⟨.some 65, .none, .bin .gtr (.t 63) (.t 64)⟩]) (.cond (.t 65) (.seq (.dreg [⟨0, ⟨.some 66, .none, .mv 
  (.t 0)⟩, false, 0, 0⟩, ⟨1, ⟨.some 67, .none, .mv (.t 11)⟩, false, 0, 0⟩, ⟨2, ⟨.some 68, .none, .mv (.t 0)⟩, false, 0, 0⟩, ⟨3, ⟨.some 69, .none, .mv (.t 1)⟩, false, 0, 0⟩, ⟨4, ⟨.some 
  70, .none, .mv (.t 0)⟩, false, 0, 0⟩, ⟨5, ⟨.some 71, .none, .mv (.t 1)⟩, false, 0, 0⟩, ⟨6, ⟨.some 72, .none, .iaddr 1 (.t 70) (.t 71)⟩, false, 0, 0⟩, ⟨7, ⟨.some 73, .none, .load false 
  1 (.t 72)⟩, false, 13, 13⟩, ⟨8, ⟨.some 74, .none, .mv (.t 0)⟩, false, 0, 0⟩, ⟨9, ⟨.some 75, .none, .mv (.t 11)⟩, false, 0, 0⟩, ⟨10, ⟨.some 76, .none, .iaddr 1 (.t 74) (.t 75)⟩, false, 
  0, 0⟩, ⟨11, ⟨.some 77, .none, .load false 1 (.t 76)⟩, false, 13, 13⟩, ⟨12, ⟨.some 78, .none, .iaddr 1 (.t 66) (.t 67)⟩, false, 0, 0⟩, ⟨13, ⟨.none, .none, .store 1 (.t 78) (.t 73)⟩, 
  true, 0, 0⟩, ⟨14, ⟨.some 79, .none, .iaddr 1 (.t 68) (.t 69)⟩, false, 0, 0⟩, ⟨15, ⟨.none, .none, .store 1 (.t 79) (.t 77)⟩, true, 0, 0⟩]) (.keep [11] (.seq (.reg [⟨.some 80, .none, 
  .mv (.t 11)⟩, ⟨.some 8, .none, .mv (.t 80)⟩, ⟨.some 9, .none, .mv (.c (.bool true))⟩]) .ret))) .skip)) (.keep [0, 1, 10, 11] (.seq (.dreg [⟨0, ⟨.some 81, .none, .mv (.t 0)⟩, false, 
  0, 0⟩, ⟨1, ⟨.some 82, .none, .mv (.t 10)⟩, false, 0, 0⟩, ⟨2, ⟨.some 83, .none, .mv (.t 0)⟩, false, 0, 0⟩, ⟨3, ⟨.some 84, .none, .mv (.t 11)⟩, false, 0, 0⟩, ⟨4, ⟨.some 85, .none, .mv 
  (.t 0)⟩, false, 0, 0⟩, ⟨5, ⟨.some 86, .none, .mv (.t 11)⟩, false, 0, 0⟩, ⟨6, ⟨.some 87, .none, .iaddr 1 (.t 85) (.t 86)⟩, false, 0, 0⟩, ⟨7, ⟨.some 88, .none, .load false 1 (.t 87)⟩, 
  false, 13, 13⟩, ⟨8, ⟨.some 89, .none, .mv (.t 0)⟩, false, 0, 0⟩, ⟨9, ⟨.some 90, .none, .mv (.t 10)⟩, false, 0, 0⟩, ⟨10, ⟨.some 91, .none, .iaddr 1 (.t 89) (.t 90)⟩, false, 0, 0⟩, 
  ⟨11, ⟨.some 92, .none, .load false 1 (.t 91)⟩, false, 13, 13⟩, ⟨12, ⟨.some 93, .none, .iaddr 1 (.t 81) (.t 82)⟩, false, 0, 0⟩, ⟨13, ⟨.none, .none, .store 1 (.t 93) (.t 88)⟩, true, 
  0, 0⟩, ⟨14, ⟨.some 94, .none, .iaddr 1 (.t 83) (.t 84)⟩, false, 0, 0⟩, ⟨15, ⟨.none, .none, .store 1 (.t 94) (.t 92)⟩, true, 0, 0⟩]) (.keep [0, 1, 10, 11] (.seq (.reg [⟨.some 95, .none, 
  .mv (.t 10)⟩, ⟨.some 96, .none, .bin .add (.t 95) (.c (.int .i64 1))⟩, ⟨.some 10, .none, .mv (.t 96)⟩]) (.seq (.reg [⟨.some 97, .none, .mv (.t 11)⟩, ⟨.some 98, .none, .bin .sub (.t 
  97) (.c (.int .i64 1))⟩, ⟨.some 11, .none, .mv (.t 98)⟩]) (.seq (.block 4 (.loop [0, 1, 10, 11] (.block 5 (.seq (.block 6 (.loop [0, 1, 10, 11] (.seq (.seq (.dreg [⟨0, ⟨.some 99, 
  .none, .mv (.t 10)⟩, false, 0, 0⟩, ⟨1, ⟨.some 100, .none, .mv (.t 11)⟩, false, 0, 0⟩, ⟨2, ⟨.some 101, .none, .bin .leq (.t 99) (.t 100)⟩, false, 0, 0⟩, ⟨3, ⟨.some 102, .none, .mv 
  (.t 101)⟩, false, 0, 0⟩, ⟨4, ⟨.some 103, .some (102, true), .mv (.t 0)⟩, false, 0, 0⟩, ⟨5, ⟨.some 104, .some (102, true), .mv (.t 10)⟩, false, 0, 0⟩, ⟨6, ⟨.some 105, .some (102, true), 
  .iaddr 1 (.t 103) (.t 104)⟩, false, 0, 0⟩, ⟨7, ⟨.some 106, .some (102, true), .load false 1 (.t 105)⟩, false, 12, 12⟩, ⟨8, ⟨.some 107, .some (102, true), .mv (.t 0)⟩, false, 0, 0⟩, 
  ⟨9, ⟨.some 108, .some (102, true), .mv (.t 1)⟩, false, 0, 0⟩, ⟨10, ⟨.some 109, .some (102, true), .iaddr 1 (.t 107) (.t 108)⟩, false, 0, 0⟩, ⟨11, ⟨.some 110, .some (102, true), .load 
  false 1 (.t 109)⟩, false, 12, 12⟩, ⟨12, ⟨.some 111, .some (102, true), .call (.c (.fn 85 [])) [.t 106, .t 110]⟩, true, 0, 0⟩, ⟨13, ⟨.some 112, .none, .pick (.t 102) (.t 111) (.c (.bool 
  false))⟩, false, 0, 0⟩]) (.keep [0, 1, 10, 11, 112] (.cond (.t 112) .skip (.exit 6)))) (.keep [0, 1, 10, 11] (.block 7 (.reg [⟨.some 113, .none, .mv (.t 10)⟩, ⟨.some 114, .none, .bin 
  .add (.t 113) (.c (.int .i64 1))⟩, ⟨.some 10, .none, .mv (.t 114)⟩])))))) (.keep [0, 1, 10, 11] (.seq (.block 8 (.loop [0, 1, 10, 11] (.seq (.seq (.dreg [⟨0, ⟨.some 115, .none, .mv 
  (.t 10)⟩, false, 0, 0⟩, ⟨1, ⟨.some 116, .none, .mv (.t 11)⟩, false, 0, 0⟩, ⟨2, ⟨.some 117, .none, .bin .leq (.t 115) (.t 116)⟩, false, 0, 0⟩, ⟨3, ⟨.some 118, .none, .mv (.t 117)⟩, 
  false, 0, 0⟩, ⟨4, ⟨.some 119, .some (118, true), .mv (.t 0)⟩, false, 0, 0⟩, ⟨5, ⟨.some 120, .some (118, true), .mv (.t 11)⟩, false, 0, 0⟩, ⟨6, ⟨.some 121, .some (118, true), .iaddr 
  1 (.t 119) (.t 120)⟩, false, 0, 0⟩, ⟨7, ⟨.some 122, .some (118, true), .load false 1 (.t 121)⟩, false, 12, 12⟩, ⟨8, ⟨.some 123, .some (118, true), .mv (.t 0)⟩, false, 0, 0⟩, ⟨9, ⟨.some 
  124, .some (118, true), .mv (.t 1)⟩, false, 0, 0⟩, ⟨10, ⟨.some 125, .some (118, true), .iaddr 1 (.t 123) (.t 124)⟩, false, 0, 0⟩, ⟨11, ⟨.some 126, .some (118, true), .load false 1 
  (.t 125)⟩, false, 12, 12⟩, ⟨12, ⟨.some 127, .some (118, true), .call (.c (.fn 85 [])) [.t 122, .t 126]⟩, true, 0, 0⟩, ⟨13, ⟨.some 128, .some (118, true), .un .not (.t 127)⟩, false, 
  0, 0⟩, ⟨14, ⟨.some 129, .none, .pick (.t 118) (.t 128) (.c (.bool false))⟩, false, 0, 0⟩]) (.keep [0, 1, 10, 11, 129] (.cond (.t 129) .skip (.exit 8)))) (.keep [0, 1, 10, 11] (.block 
  9 (.reg [⟨.some 130, .none, .mv (.t 11)⟩, ⟨.some 131, .none, .bin .sub (.t 130) (.c (.int .i64 1))⟩, ⟨.some 11, .none, .mv (.t 131)⟩])))))) (.keep [0, 1, 10, 11] (.seq (.seq (.reg 
  [⟨.some 132, .none, .mv (.t 10)⟩, ⟨.some 133, .none, .mv (.t 11)⟩, ⟨.some 134, .none, .bin .gtr (.t 132) (.t 133)⟩]) (.cond (.t 134) (.exit 4) .skip)) (.keep [0, 1, 10, 11] (.seq 
  (.dreg [⟨0, ⟨.some 135, .none, .mv (.t 0)⟩, false, 0, 0⟩, ⟨1, ⟨.some 136, .none, .mv (.t 10)⟩, false, 0, 0⟩, ⟨2, ⟨.some 137, .none, .mv (.t 0)⟩, false, 0, 0⟩, ⟨3, ⟨.some 138, .none, 
  .mv (.t 11)⟩, false, 0, 0⟩, ⟨4, ⟨.some 139, .none, .mv (.t 0)⟩, false, 0, 0⟩, ⟨5, ⟨.some 140, .none, .mv (.t 11)⟩, false, 0, 0⟩, ⟨6, ⟨.some 141, .none, .iaddr 1 (.t 139) (.t 140)⟩, 
  false, 0, 0⟩, ⟨7, ⟨.some 142, .none, .load false 1 (.t 141)⟩, false, 13, 13⟩, ⟨8, ⟨.some 143, .none, .mv (.t 0)⟩, false, 0, 0⟩, ⟨9, ⟨.some 144, .none, .mv (.t 10)⟩, false, 0, 0⟩, 
  ⟨10, ⟨.some 145, .none, .iaddr 1 (.t 143) (.t 144)⟩, false, 0, 0⟩, ⟨11, ⟨.some 146, .none, .load false 1 (.t 145)⟩, false, 13, 13⟩, ⟨12, ⟨.some 147, .none, .iaddr 1 (.t 135) (.t 136)⟩, 
  false, 0, 0⟩, ⟨13, ⟨.none, .none, .store 1 (.t 147) (.t 142)⟩, true, 0, 0⟩, ⟨14, ⟨.some 148, .none, .iaddr 1 (.t 137) (.t 138)⟩, false, 0, 0⟩, ⟨15, ⟨.none, .none, .store 1 (.t 148) 
  (.t 146)⟩, true, 0, 0⟩]) (.keep [0, 1, 10, 11] (.seq (.reg [⟨.some 149, .none, .mv (.t 10)⟩, ⟨.some 150, .none, .bin .add (.t 149) (.c (.int .i64 1))⟩, ⟨.some 10, .none, .mv (.t 150)⟩]) 
  (.reg [⟨.some 151, .none, .mv (.t 11)⟩, ⟨.some 152, .none, .bin .sub (.t 151) (.c (.int .i64 1))⟩, ⟨.some 11, .none, .mv (.t 152)⟩]))))))))))))) (.keep [0, 1, 11] (.seq (.dreg [⟨0, 
  ⟨.some 153, .none, .mv (.t 0)⟩, false, 0, 0⟩, ⟨1, ⟨.some 154, .none, .mv (.t 11)⟩, false, 0, 0⟩, ⟨2, ⟨.some 155, .none, .mv (.t 0)⟩, false, 0, 0⟩, ⟨3, ⟨.some 156, .none, .mv (.t 1)⟩, 
  false, 0, 0⟩, ⟨4, ⟨.some 157, .none, .mv (.t 0)⟩, false, 0, 0⟩, ⟨5, ⟨.some 158, .none, .mv (.t 1)⟩, false, 0, 0⟩, ⟨6, ⟨.some 159, .none, .iaddr 1 (.t 157) (.t 158)⟩, false, 0, 0⟩, 
  ⟨7, ⟨.some 160, .none, .load false 1 (.t 159)⟩, false, 13, 13⟩, ⟨8, ⟨.some 161, .none, .mv (.t 0)⟩, false, 0, 0⟩, ⟨9, ⟨.some 162, .none, .mv (.t 11)⟩, false, 0, 0⟩, ⟨10, ⟨.some 163, 
  .none, .iaddr 1 (.t 161) (.t 162)⟩, false, 0, 0⟩, ⟨11, ⟨.some 164, .none, .load false 1 (.t 163)⟩, false, 13, 13⟩, ⟨12, ⟨.some 165, .none, .iaddr 1 (.t 153) (.t 154)⟩, false, 0, 0⟩, 
  ⟨13, ⟨.none, .none, .store 1 (.t 165) (.t 160)⟩, true, 0, 0⟩, ⟨14, ⟨.some 166, .none, .iaddr 1 (.t 155) (.t 156)⟩, false, 0, 0⟩, ⟨15, ⟨.none, .none, .store 1 (.t 166) (.t 164)⟩, true, 
  0, 0⟩]) (.keep [11] (.seq (.reg [⟨.some 167, .none, .mv (.t 11)⟩, ⟨.some 8, .none, .mv (.t 167)⟩, ⟨.some 9, .none, .mv (.c (.bool false))⟩]) .ret))))))))))))))))))), [.tmp 8, .tmp 
  9], false⟩
theorem ok87 : chkFn Go.Proofs.Tryd.prog Go.Proofs.Tryd.f87 fe87 = true := by kernel_rfl
/- "math/bits.Len32" -/
def fe88 : FE :=
  ⟨1, .seq (.reg [⟨.some 2, .none, .mv (.c (.int .i64 0))⟩]) (.seq (.seq (.reg [⟨.some 3, .none, .mv (.t 0)⟩, ⟨.some 4, .none, .bin .geq (.t 3) (.c (.int .u32 65536))⟩]) (.cond (.t 4) 
  (.seq (.reg [⟨.some 5, .none, .mv (.t 0)⟩, ⟨.some 6, .none, .bin .shr (.t 5) (.c (.int .u64 16))⟩, ⟨.some 0, .none, .mv (.t 6)⟩]) (.reg [⟨.some 2, .none, .mv (.c (.int .i64 16))⟩])) 
  .skip)) (.keep [0, 2] (.seq (.seq (.reg [⟨.some 7, .none, .mv (.t 0)⟩, ⟨.some 8, .none, .bin .geq (.t 7) (.c (.int .u32 256))⟩]) (.cond (.t 8) (.seq (.reg [⟨.some 9, .none, .mv (.t 
  0)⟩, ⟨.some 10, .none, .bin .shr (.t 9) (.c (.int .u64 8))⟩, ⟨.some 0, .none, .mv (.t 10)⟩]) (.reg [⟨.some 11, .none, .mv (.t 2)⟩, ⟨.some 12, .none, .bin .add (.t 11) (.c (.int .i64 
  8))⟩, ⟨.some 2, .none, .mv (.t 12)⟩])) .skip)) (.keep [0, 2] (.seq (.reg [⟨.some 13, .none, .mv (.t 2)⟩, ⟨.some 14, .none, .mv (.t 0)⟩, ⟨.some 15, .none, .i2i .u8 (.t 14)⟩, ⟨.some 
  16, .none, .idxs (.c (.str [0, 1, 2, 2, 3, 3, 3, 3, 4, 4, 4, 4, 4, 4, 4, 4, 5, 5, 5, 5, 5, 5, 5, 5, 5, 5, 5, 5, 5, 5, 5, 5, 6, 6, 6, 6, 6, 6, 6, 6, 6, 6, 6, 6, 6, 6, 6, 6, 6, 6, 6, 
  6, 6, 6, 6, 6, 6, 6, 6, 6, 6, 6, 6, 6, 7, 7, 7, 7, 7, 7, 7, 7, 7, 7, 7, 7, 7, 7, 7, 7, 7, 7, 7, 7, 7, 7, 7, 7, 7, 7, 7, 7, 7, 7, 7, 7, 7, 7, 7, 7, 7, 7, 7, 7, 7, 7, 7, 7, 7, 7, 7, 
  7, 7, 7, 7, 7, 7, 7, 7, 7, 7, 7, 7, 7, 7, 7, 7, 7, 8, 8, 8, 8, 8, 8, 8, 8, 8, 8, 8, 8, 8, 8, 8, 8, 8, 8, 8, 8, 8, 8, 8, 8, 8, 8, 8, 8, 8, 8, 8, 8, 8, 8, 8, 8, 8, 8, 8, 8, 8, 8, 8, 
  8, 8, 8, 8, 8, 8, 8, 8, 8, 8, 8, 8, 8, 8, 8, 8, 8, 8, 8, 8, 8, 8, 8, 8, 8, 8, 8, 8, 8, 8, 8, 8, 8, 8, 8, 8, 8, 8, 8, 8, 8, 8, 8, 8, 8, 8, 8, 8, 8, 8, 8, 8, 8, 8, 8, 8, 8, 8, 8, 8, 
  8, 8, 8, 8, 8, 8, 8, 8, 8, 8, 8, 8, 8, 8, 8, 8, 8, 8, 8, 8, 8, 8, 8, 8, 8])) (.t 15)⟩, ⟨.some 17, .none, .i2i .i64 (.t 16)⟩, ⟨.some 18, .none, .bin .add (.t 13) (.t 17)⟩, ⟨.some 2, 
  .none, .mv (.t 18)⟩]) (.keep [2] .ret)))))), [.tmp 2], false⟩
theorem ok88 : chkFn Go.Proofs.Tryd.prog Go.Proofs.Tryd.f88 fe88 = true := by kernel_rfl
/- "internal/bytealg.hashStr[string]" -/
def fe90 : FE :=
  ⟨1, .seq (.reg [⟨.some 2, .none, .mv (.c (.int .u32 0))⟩, ⟨.some 3, .none, .mv (.c (.int .u32 0))⟩]) (.seq (.reg [⟨.some 4, .none, .mv (.c (.int .u32 0))⟩]) (.seq (.seq (.reg [⟨.some 
  5, .none, .mv (.c (.int .i64 0))⟩]) (.block 0 (.loop [0, 4, 5] (.seq (.seq (.reg [⟨.some 9, .none, .mv (.t 5)⟩, ⟨.some 10, .none, .mv (.t 0)⟩, ⟨.some 11, .none, .len .s (.t 10)⟩, 
  ⟨.some 12, .none, .bin .lss (.t 9) (.t 11)⟩]) (.keep [0, 4, 5, 12] (.cond (.t 12) .skip (.exit 0)))) (.keep [0, 4, 5] (.seq (.block 1 (.reg [⟨.some 15, .none, .mv (.t 4)⟩, ⟨.some 
  16, .none, .bin .mul (.t 15) (.c (.int .u32 16777619))⟩, ⟨.some 17, .none, .mv (.t 0)⟩, ⟨.some 18, .none, .mv (.t 5)⟩, ⟨.some 19, .none, .idxs (.t 17) (.t 18)⟩, ⟨.some 20, .none, 
  .i2i .u32 (.t 19)⟩, ⟨.some 21, .none, .bin .add (.t 16) (.t 20)⟩, ⟨.some 4, .none, .mv (.t 21)⟩])) (.keep [0, 4, 5] (.reg [⟨.some 13, .none, .mv (.t 5)⟩, ⟨.some 14, .none, .bin .add 
  (.t 13) (.c (.int .i64 1))⟩, ⟨.some 5, .none, .mv (.t 14)⟩])))))))) (.keep [0, 4] (.seq (.reg [⟨.some 6, .none, .mv (.c (.int .u32 1))⟩, ⟨.some 7, .none, .mv (.c (.int .u32 16777619))⟩]) 
  (.seq (.seq (.reg [⟨.some 22, .none, .mv (.t 0)⟩, ⟨.some 23, .none, .len .s (.t 22)⟩, ⟨.some 8, .none, .mv (.t 23)⟩]) (.block 2 (.loop [4, 6, 7, 8] (.seq (.seq (.reg [⟨.some 24, .none, 
  .mv (.t 8)⟩, ⟨.some 25, .none, .bin .gtr (.t 24) (.c (.int .i64 0))⟩]) (.cond (.t 25) .skip (.exit 2))) (.keep [4, 6, 7, 8] (.seq (.block 3 (.seq (.seq (.reg [⟨.some 28, .none, .mv 
  (.t 8)⟩, ⟨.some 29, .none, .bin .and (.t 28) (.c (.int .i64 1))⟩, ⟨.some 30, .none, .bin .neq (.t 29) (.c (.int .i64 0))⟩]) (.cond (.t 30) (.reg [⟨.some 31, .none, .mv (.t 6)⟩, ⟨.some 
  32, .none, .mv (.t 7)⟩, ⟨.some 33, .none, .bin .mul (.t 31) (.t 32)⟩, ⟨.some 6, .none, .mv (.t 33)⟩]) .skip)) (.keep [4, 6, 7, 8] (.reg [⟨.some 34, .none, .mv (.t 7)⟩, ⟨.some 35, 
  .none, .mv (.t 7)⟩, ⟨.some 36, .none, .bin .mul (.t 34) (.t 35)⟩, ⟨.some 7, .none, .mv (.t 36)⟩])))) (.keep [4, 6, 7, 8] (.reg [⟨.some 26, .none, .mv (.t 8)⟩, ⟨.some 27, .none, .bin 
  .shr (.t 26) (.c (.int .u64 1))⟩, ⟨.some 8, .none, .mv (.t 27)⟩])))))))) (.keep [4, 6] (.seq (.reg [⟨.some 37, .none, .mv (.t 4)⟩, ⟨.some 38, .none, .mv (.t 6)⟩, ⟨.some 2, .none, 
  .mv (.t 37)⟩, ⟨.some 3, .none, .mv (.t 38)⟩]) (.keep [2, 3] .ret)))))))), [.tmp 2, .tmp 3], false⟩
theorem ok90 : chkFn Go.Proofs.Tryd.prog Go.Proofs.Tryd.f90 fe90 = true := by kernel_rfl
/- "slices.siftDownOrdered[string]" -/
def fe91 : FE :=
  ⟨4, .seq (.reg [⟨.some 10, .none, .mv (.t 1)⟩, ⟨.some 8, .none, .mv (.t 10)⟩]) (.block 0 (.loop [0, 2, 3, 8] (.block 1 (.seq (.reg [⟨.some 11, .none, .mv (.t 8)⟩, ⟨.some 12, .none, 
  .bin .mul (.c (.int .i64 2)) (.t 11)⟩, ⟨.some 13, .none, .bin .add (.t 12) (.c (.int .i64 1))⟩, ⟨.some 9, .none, .mv (.t 13)⟩]) (.keep [0, 2, 3, 8, 9] (.seq (.seq (.reg [⟨.some 14, 
  .none, .mv (.t 9)⟩, ⟨.some 15, .none, .mv (.t 2)⟩, ⟨.some 16, .none, .bin .geq (.t 14) (.t 15)⟩]) (.cond (.t 16) (.exit 0) .skip)) (.keep [0, 2, 3, 8, 9] (.seq (.seq (.dreg [⟨0, ⟨.some 
  17, .none, .mv (.t 9)⟩, false, 0, 0⟩, ⟨1, ⟨.some 18, .none, .bin .add (.t 17) (.c (.int .i64 1))⟩, false, 0, 0⟩, ⟨2, ⟨.some 19, .none, .mv (.t 2)⟩, false, 0, 0⟩, ⟨3, ⟨.some 20, .none, 
  .bin .lss (.t 18) (.t 19)⟩, false, 0, 0⟩, ⟨4, ⟨.some 21, .none, .mv (.t 20)⟩, false, 0, 0⟩, ⟨5, ⟨.some 22, .some (21, true), .mv (.t 0)⟩, false, 0, 0⟩, ⟨6, ⟨.some 23, .some (21, true), 
  .mv (.t 3)⟩, false, 0, 0⟩, ⟨7, ⟨.some 24, .some (21, true), .mv (.t 9)⟩, false, 0, 0⟩, ⟨8, ⟨.some 25, .some (21, true), .bin .add (.t 23) (.t 24)⟩, false, 0, 0⟩, ⟨9, ⟨.some 26, .some 
  (21, true), .iaddr 1 (.t 22) (.t 25)⟩, false, 0, 0⟩, ⟨10, ⟨.some 27, .some (21, true), .load false 1 (.t 26)⟩, false, 18, 18⟩, ⟨11, ⟨.some 28, .some (21, true), .mv (.t 0)⟩, false, 
  0, 0⟩, ⟨12, ⟨.some 29, .some (21, true), .mv (.t 3)⟩, false, 0, 0⟩, ⟨13, ⟨.some 30, .some (21, true), .mv (.t 9)⟩, false, 0, 0⟩, ⟨14, ⟨.some 31, .some (21, true), .bin .add (.t 29) 
  (.t 30)⟩, false, 0, 0⟩, ⟨15, ⟨.some 32, .some (21, true), .bin .add (.t 31) (.c (.int .i64 1))⟩, false, 0, 0⟩, ⟨16, ⟨.some 33, .some (21, true), .iaddr 1 (.t 28) (.t 32)⟩, false, 
  0, 0⟩, ⟨17, ⟨.some 34, .some (21, true), .load false 1 (.t 33)⟩, false, 18, 18⟩, ⟨18, ⟨.some 35, .some (21, true), .call (.c (.fn 85 [])) [.t 27, .t 34]⟩, true, 0, 0⟩, ⟨19, ⟨.some 
  36, .none, .pick (.t 21) (.t 35) (.c (.bool false))⟩, false, 0, 0⟩]) (.keep [0, 2, 3, 8, 9, 36] (.cond (.t 36) (.reg [⟨.some 37, .none, .mv (.t 9)⟩, ⟨.some 38, .none, .bin .add (.t 
  37) (.c (.int .i64 1))⟩, ⟨.some 9, .none, .mv (.t 38)⟩]) .skip))) (.keep [0, 2, 3, 8, 9] (.seq (.seq (.dreg [⟨0, ⟨.some 39, .none, .mv (.t 0)⟩, false, 0, 0⟩, ⟨1, ⟨.some 40, .none, 
  .mv (.t 3)⟩, false, 0, 0⟩, ⟨2, ⟨.some 41, .none, .mv (.t 8)⟩, false, 0, 0⟩, ⟨3, ⟨.some 42, .none, .bin .add (.t 40) (.t 41)⟩, false, 0, 0⟩, ⟨4, ⟨.some 43, .none, .iaddr 1 (.t 39) 
  (.t 42)⟩, false, 0, 0⟩, ⟨5, ⟨.some 44, .none, .load false 1 (.t 43)⟩, false, 12, 12⟩, ⟨6, ⟨.some 45, .none, .mv (.t 0)⟩, false, 0, 0⟩, ⟨7, ⟨.some 46, .none, .mv (.t 3)⟩, false, 0, 
  0⟩, ⟨8, ⟨.some 47, .none, .mv (.t 9)⟩, false, 0, 0⟩, ⟨9, ⟨.some 48, .none, .bin .add (.t 46) (.t 47)⟩, false, 0, 0⟩, ⟨10, ⟨.some 49, .none, .iaddr 1 (.t 45) (.t 48)⟩, false, 0, 0⟩, 
  ⟨11, ⟨.some 50, .none, .load false 1 (.t 49)⟩, false, 12, 12⟩, ⟨12, ⟨.some 51, .none, .call (.c (.fn 85 [])) [.t 44, .t 50]⟩, true, 0, 0⟩, ⟨13, ⟨.some 52, .none, .un .not (.t 51)⟩, 
  false, 0, 0⟩]) (.keep [0, 2, 3, 8, 9, 52] (.cond (.t 52) .ret .skip))) (.keep [0, 2, 3, 8, 9] (.seq (.dreg [⟨0, ⟨.some 53, .none, .mv (.t 0)⟩, false, 0, 0⟩, ⟨1, ⟨.some 54, .none, 
  .mv (.t 3)⟩, false, 0, 0⟩, ⟨2, ⟨.some 55, .none, .mv (.t 8)⟩, false, 0, 0⟩, ⟨3, ⟨.some 56, .none, .bin .add (.t 54) (.t 55)⟩, false, 0, 0⟩, ⟨4, ⟨.some 57, .none, .mv (.t 0)⟩, false, 
  0, 0⟩, ⟨5, ⟨.some 58, .none, .mv (.t 3)⟩, false, 0, 0⟩, ⟨6, ⟨.some 59, .none, .mv (.t 9)⟩, false, 0, 0⟩, ⟨7, ⟨.some 60, .none, .bin .add (.t 58) (.t 59)⟩, false, 0, 0⟩, ⟨8, ⟨.some 
  61, .none, .mv (.t 0)⟩, false, 0, 0⟩, ⟨9, ⟨.some 62, .none, .mv (.t 3)⟩, false, 0, 0⟩, ⟨10, ⟨.some 63, .none, .mv (.t 9)⟩, false, 0, 0⟩, ⟨11, ⟨.some 64, .none, .bin .add (.t 62) (.t 
  63)⟩, false, 0, 0⟩, ⟨12, ⟨.some 65, .none, .iaddr 1 (.t 61) (.t 64)⟩, false, 0, 0⟩, ⟨13, ⟨.some 66, .none, .load false 1 (.t 65)⟩, false, 21, 21⟩, ⟨14, ⟨.some 67, .none, .mv (.t 0)⟩, 
  false, 0, 0⟩, ⟨15, ⟨.some 68, .none, .mv (.t 3)⟩, false, 0, 0⟩, ⟨16, ⟨.some 69, .none, .mv (.t 8)⟩, false, 0, 0⟩, ⟨17, ⟨.some 70, .none, .bin .add (.t 68) (.t 69)⟩, false, 0, 0⟩, 
  ⟨18, ⟨.some 71, .none, .iaddr 1 (.t 67) (.t 70)⟩, false, 0, 0⟩, ⟨19, ⟨.some 72, .none, .load false 1 (.t 71)⟩, false, 21, 21⟩, ⟨20, ⟨.some 73, .none, .iaddr 1 (.t 53) (.t 56)⟩, false, 
  0, 0⟩, ⟨21, ⟨.none, .none, .store 1 (.t 73) (.t 66)⟩, true, 0, 0⟩, ⟨22, ⟨.some 74, .none, .iaddr 1 (.t 57) (.t 60)⟩, false, 0, 0⟩, ⟨23, ⟨.none, .none, .store 1 (.t 74) (.t 72)⟩, true, 
  0, 0⟩]) (.keep [0, 2, 3, 9] (.reg [⟨.some 75, .none, .mv (.t 9)⟩, ⟨.some 8, .none, .mv (.t 75)⟩])))))))))))))), [], false⟩
theorem ok91 : chkFn Go.Proofs.Tryd.prog Go.Proofs.Tryd.f91 fe91 = true := by kernel_rfl
/- "slices.nextPowerOfTwo" -/
def fe92 : FE :=
  ⟨1, .seq (.reg [⟨.some 2, .none, .mv (.c (.int .u64 0))⟩]) (.seq (.reg [⟨.some 3, .none, .mv (.t 0)⟩, ⟨.some 4, .none, .i2i .u64 (.t 3)⟩, ⟨.some 5, .none, .call (.c (.fn 72 [])) [.t 
  4]⟩, ⟨.some 6, .none, .bin .shl (.c (.int .u64 1)) (.t 5)⟩, ⟨.some 2, .none, .mv (.t 6)⟩]) (.keep [2] .ret)), [.tmp 2], false⟩
theorem ok92 : chkFn Go.Proofs.Tryd.prog Go.Proofs.Tryd.f92 fe92 = true := by kernel_rfl
/- "(*slices.xorshift).Next" -/
def fe93 : FE :=
  ⟨1, .seq (.reg [⟨.some 2, .none, .mv (.c (.int .u64 0))⟩]) (.seq (.dreg [⟨0, ⟨.some 3, .none, .mv (.t 0)⟩, false, 0, 0⟩, ⟨1, ⟨.some 4, .none, .nilck (.t 3)⟩, false, 0, 0⟩, ⟨2, ⟨.some 
  5, .none, .load false 1 (.t 4)⟩, false, 9, 9⟩, ⟨3, ⟨.some 6, .none, .mv (.t 0)⟩, false, 0, 0⟩, ⟨4, ⟨.some 7, .none, .nilck (.t 6)⟩, false, 0, 0⟩, ⟨5, ⟨.some 8, .none, .load false 
  1 (.t 7)⟩, false, 9, 9⟩, ⟨6, ⟨.some 9, .none, .bin .shl (.t 8) (.c (.int .u64 13))⟩, false, 0, 0⟩, ⟨7, ⟨.some 10, .none, .bin .xor (.t 5) (.t 9)⟩, false, 0, 0⟩, ⟨8, ⟨.some 11, .none, 
  .nilck (.t 3)⟩, false, 0, 0⟩, ⟨9, ⟨.none, .none, .store 1 (.t 11) (.t 10)⟩, true, 0, 0⟩]) (.keep [0] (.seq (.dreg [⟨0, ⟨.some 12, .none, .mv (.t 0)⟩, false, 0, 0⟩, ⟨1, ⟨.some 13, 
  .none, .nilck (.t 12)⟩, false, 0, 0⟩, ⟨2, ⟨.some 14, .none, .load false 1 (.t 13)⟩, false, 9, 9⟩, ⟨3, ⟨.some 15, .none, .mv (.t 0)⟩, false, 0, 0⟩, ⟨4, ⟨.some 16, .none, .nilck (.t 
  15)⟩, false, 0, 0⟩, ⟨5, ⟨.some 17, .none, .load false 1 (.t 16)⟩, false, 9, 9⟩, ⟨6, ⟨.some 18, .none, .bin .shr (.t 17) (.c (.int .u64 7))⟩, false, 0, 0⟩, ⟨7, ⟨.some 19, .none, .bin 
  .xor (.t 14) (.t 18)⟩, false, 0, 0⟩, ⟨8, ⟨.some 20, .none, .nilck (.t 12)⟩, false, 0, 0⟩, ⟨9, ⟨.none, .none, .store 1 (.t 20) (.t 19)⟩, true, 0, 0⟩]) (.keep [0] (.seq (.dreg [⟨0, 
  ⟨.some 21, .none, .mv (.t 0)⟩, false, 0, 0⟩, ⟨1, ⟨.some 22, .none, .nilck (.t 21)⟩, false, 0, 0⟩, ⟨2, ⟨.some 23, .none, .load false 1 (.t 22)⟩, false, 9, 9⟩, ⟨3, ⟨.some 24, .none, 
  .mv (.t 0)⟩, false, 0, 0⟩, ⟨4, ⟨.some 25, .none, .nilck (.t 24)⟩, false, 0, 0⟩, ⟨5, ⟨.some 26, .none, .load false 1 (.t 25)⟩, false, 9, 9⟩, ⟨6, ⟨.some 27, .none, .bin .shl (.t 26) 
  (.c (.int .u64 17))⟩, false, 0, 0⟩, ⟨7, ⟨.some 28, .none, .bin .xor (.t 23) (.t 27)⟩, false, 0, 0⟩, ⟨8, ⟨.some 29, .none, .nilck (.t 21)⟩, false, 0, 0⟩, ⟨9, ⟨.none, .none, .store 
  1 (.t 29) (.t 28)⟩, true, 0, 0⟩]) (.keep [0] (.seq (.reg [⟨.some 30, .none, .mv (.t 0)⟩, ⟨.some 31, .none, .nilck (.t 30)⟩, ⟨.some 32, .none, .load false 1 (.t 31)⟩, ⟨.some 2, .none, 
  .mv (.t 32)⟩]) (.keep [2] .ret)))))))), [.tmp 2], false⟩
theorem ok93 : chkFn Go.Proofs.Tryd.prog Go.Proofs.Tryd.f93 fe93 = true := by kernel_rfl
/- "slices.medianAdjacentOrdered[string]" -/
def fe94 : FE :=
  ⟨3, .seq (.reg [⟨.some 6, .none, .mv (.c (.int .i64 0))⟩]) (.seq (.reg [⟨.some 7, .none, .mv (.t 0)⟩, ⟨.some 8, .none, .mv (.t 1)⟩, ⟨.some 9, .none, .bin .sub (.t 8) (.c (.int .i64 
  1))⟩, ⟨.some 10, .none, .mv (.t 1)⟩, ⟨.some 11, .none, .mv (.t 1)⟩, ⟨.some 12, .none, .bin .add (.t 11) (.c (.int .i64 1))⟩, ⟨.some 13, .none, .mv (.t 2)⟩, ⟨.some 14, .none, .call 
  (.c (.fn 95 [])) [.t 7, .t 9, .t 10, .t 12, .t 13]⟩, ⟨.some 6, .none, .mv (.t 14)⟩]) (.keep [6] .ret)), [.tmp 6], false⟩
theorem ok94 : chkFn Go.Proofs.Tryd.prog Go.Proofs.Tryd.f94 fe94 = true := by kernel_rfl
/- "slices.medianOrdered[string]" -/
def fe95 : FE :=
  ⟨5, .seq (.reg [⟨.some 10, .none, .mv (.c (.int .i64 0))⟩]) (.seq (.reg [⟨.some 12, .none, .mv (.t 0)⟩, ⟨.some 13, .none, .mv (.t 1)⟩, ⟨.some 14, .none, .mv (.t 2)⟩, ⟨.some 15, .none, 
  .mv (.t 4)⟩, ⟨.some 16, .none, .call (.c (.fn 97 [])) [.t 12, .t 13, .t 14, .t 15]⟩, ⟨.some 11, .none, .mv (.t 16)⟩, ⟨.some 17, .none, .extract 0 (.t 11)⟩, ⟨.some 18, .none, .extract 
  1 (.t 11)⟩, ⟨.some 1, .none, .mv (.t 17)⟩, ⟨.some 2, .none, .mv (.t 18)⟩]) (.keep [0, 1, 2, 3, 4] (.seq (.reg [⟨.some 20, .none, .mv (.t 0)⟩, ⟨.some 21, .none, .mv (.t 2)⟩, ⟨.some 
  22, .none, .mv (.t 3)⟩, ⟨.some 23, .none, .mv (.t 4)⟩, ⟨.some 24, .none, .call (.c (.fn 97 [])) [.t 20, .t 21, .t 22, .t 23]⟩, ⟨.some 19, .none, .mv (.t 24)⟩, ⟨.some 25, .none, .extract 
  0 (.t 19)⟩, ⟨.some 26, .none, .extract 1 (.t 19)⟩, ⟨.some 2, .none, .mv (.t 25)⟩, ⟨.some 3, .none, .mv (.t 26)⟩]) (.keep [0, 1, 2, 4] (.seq (.reg [⟨.some 28, .none, .mv (.t 0)⟩, ⟨.some 
  29, .none, .mv (.t 1)⟩, ⟨.some 30, .none, .mv (.t 2)⟩, ⟨.some 31, .none, .mv (.t 4)⟩, ⟨.some 32, .none, .call (.c (.fn 97 [])) [.t 28, .t 29, .t 30, .t 31]⟩, ⟨.some 27, .none, .mv 
  (.t 32)⟩, ⟨.some 33, .none, .extract 0 (.t 27)⟩, ⟨.some 34, .none, .extract 1 (.t 27)⟩, ⟨.some 1, .none, .mv (.t 33)⟩, ⟨.some 2, .none, .mv (.t 34)⟩]) (.keep [2] (.seq (.reg [⟨.some 
  35, .none, .mv (.t 2)⟩, ⟨.some 10, .none, .mv (.t 35)⟩]) .ret))))))), [.tmp 10], false⟩
theorem ok95 : chkFn Go.Proofs.Tryd.prog Go.Proofs.Tryd.f95 fe95 = true := by kernel_rfl
/- "cmp.isNaN[string]" -/
def fe96 : FE :=
  ⟨1, .seq (.reg [⟨.some 2, .none, .mv (.c (.bool false))⟩]) (.seq (.reg [⟨.some 3, .none, .mv (.t 0)⟩, ⟨.some 4, .none, .mv (.t 0)⟩, ⟨.some 5, .none, .bin .neq (.t 3) (.t 4)⟩, ⟨.some 
  2, .none, .mv (.t 5)⟩]) (.keep [2] .ret)), [.tmp 2], false⟩
theorem ok96 : chkFn Go.Proofs.Tryd.prog Go.Proofs.Tryd.f96 fe96 = true := by kernel_rfl
/- "slices.order2Ordered[string]" -/
def fe97 : FE :=
  ⟨4, .seq (.reg [⟨.some 8, .none, .mv (.c (.int .i64 0))⟩, ⟨.some 9, .none, .mv (.c (.int .i64 0))⟩]) (.seq (.seq (.dreg [⟨0, ⟨.some 10, .none, .mv (.t 0)⟩, false, 0, 0⟩, ⟨1, ⟨.some 
  11, .none, .mv (.t 2)⟩, false, 0, 0⟩, ⟨2, ⟨.some 12, .none, .iaddr 1 (.t 10) (.t 11)⟩, false, 0, 0⟩, ⟨3, ⟨.some 13, .none, .load false 1 (.t 12)⟩, false, 8, 8⟩, ⟨4, ⟨.some 14, .none, 
  .mv (.t 0)⟩, false, 0, 0⟩, ⟨5, ⟨.some 15, .none, .mv (.t 1)⟩, false, 0, 0⟩, ⟨6, ⟨.some 16, .none, .iaddr 1 (.t 14) (.t 15)⟩, false, 0, 0⟩, ⟨7, ⟨.some 17, .none, .load false 1 (.t 
  16)⟩, false, 8, 8⟩, ⟨8, ⟨.some 18, .none, .call (.c (.fn 85 [])) [.t 13, .t 17]⟩, true, 0, 0⟩]) (.keep [1, 2, 3, 18] (.cond (.t 18) (.seq (.reg [⟨.some 19, .none, .mv (.t 3)⟩, ⟨.some 
  20, .none, .nilck (.t 19)⟩, ⟨.some 21, .none, .load false 1 (.t 20)⟩, ⟨.some 22, .none, .bin .add (.t 21) (.c (.int .i64 1))⟩, ⟨.some 23, .none, .nilck (.t 19)⟩, ⟨.none, .none, .store 
  1 (.t 23) (.t 22)⟩]) (.keep [1, 2] (.seq (.reg [⟨.some 24, .none, .mv (.t 2)⟩, ⟨.some 25, .none, .mv (.t 1)⟩, ⟨.some 8, .none, .mv (.t 24)⟩, ⟨.some 9, .none, .mv (.t 25)⟩]) (.keep 
  [8, 9] .ret)))) .skip))) (.keep [1, 2] (.seq (.reg [⟨.some 26, .none, .mv (.t 1)⟩, ⟨.some 27, .none, .mv (.t 2)⟩, ⟨.some 8, .none, .mv (.t 26)⟩, ⟨.some 9, .none, .mv (.t 27)⟩]) (.keep 
  [8, 9] .ret)))), [.tmp 8, .tmp 9], false⟩
theorem ok97 : chkFn Go.Proofs.Tryd.prog Go.Proofs.Tryd.f97 fe97 = true := by kernel_rfl

end Go.Lim.X35
