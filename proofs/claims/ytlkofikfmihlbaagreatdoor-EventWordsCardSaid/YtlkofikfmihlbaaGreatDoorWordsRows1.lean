import Derived.Test.YtlkofikfmihlbaaGreatDoorProg
import Derived.Test.YtlkofikfmihlbaaGreatDoorAE33
import Derived.KernelRfl
/-! The program's functions that the law reaches, as rows: printed by a program (mkclaim.py), each proved to be what the program has. -/
set_option linter.unusedVariables false
set_option maxRecDepth 100000
namespace Go.AE.Words
open Go Go.AE
abbrev tEW : List T := [.v (.string ⟨⟨[]⟩⟩), .v (.string ⟨⟨[112, 117, 116, 45, 115, 101, 114, 118, 105, 99, 101]⟩⟩), .v (.string ⟨⟨[112, 117, 116, 45, 115, 108, 105, 99, 101]⟩⟩), .v (.string ⟨⟨[112, 117, 116, 45, 110, 111, 100, 101]⟩⟩), .v (.string ⟨⟨[100, 114, 111, 112, 45, 115, 101, 114, 118, 105, 99, 101]⟩⟩), .v (.string ⟨⟨[100, 114, 111, 112, 45, 115, 108, 105, 99, 101]⟩⟩), .v (.string ⟨⟨[100, 114, 111, 112, 45, 110, 111, 100, 101]⟩⟩), .v (.string ⟨⟨[98, 111, 111, 107, 109, 97, 114, 107]⟩⟩), .v (.string ⟨⟨[114, 101, 108, 105, 115, 116]⟩⟩), .v (.string ⟨⟨[108, 105, 115, 116, 101, 100]⟩⟩)]
abbrev tWW : List T := [.v (.string ⟨⟨[105, 100, 108, 101]⟩⟩), .v (.string ⟨⟨[108, 105, 115, 116, 105, 110, 103]⟩⟩), .v (.string ⟨⟨[119, 97, 116, 99, 104, 105, 110, 103]⟩⟩), .v (.string ⟨⟨[119, 97, 105, 116, 105, 110, 103]⟩⟩)]
abbrev gEW : T := .ro tEW 0
abbrev gWW : T := .ro tWW 0
def heapL : List Nat := [81, 108, 110, 112, 115, 116, 144, 148, 149, 186, 191, 192, 193, 196, 197, 198, 199, 201, 203, 208, 209, 210, 211, 214, 220, 225, 226, 231, 232, 233, 234, 235, 236, 237, 238, 239, 240, 241, 242, 243, 245, 246, 248, 250, 254, 255, 257, 259]
noncomputable def C : Cfg := { P := Go.Proofs.Tryz.prog, laid := fun g => if ([0, 2, 3, 6, 8] : List Nat).contains g then some [.ifc 296 (.gl g)] else if g = 18 then some tEW else none, pts := [296], mode := fun f => if heapL.contains f then 1 else 0, ora := fun f => if f = 180 then some (growT) else none }
/-- linkboy/linkboylaw14.EventWords -/
noncomputable def r6 : RFn := ⟨21, (.seq (.reg [] [⟨(some 2), none, .mv (.c (.v (.bool false)))⟩])
  (.seq (.seq (.reg [] [⟨(some 4), none, .call 35 []⟩,
    ⟨(some 5), none, .un .not (.t 4)⟩])
  (.cond (.t 5) (.seq (.reg [] [⟨(some 2), none, .mv (.c (.v (.bool false)))⟩])
  .ret)
  .skip))
  (.seq (.reg [] [⟨(some 3), none, .mv (.c (.v (.string ⟨⟨[]⟩⟩)))⟩])
  (.seq (.seq (.reg [] [⟨(some 6), none, .mv (.t 0)⟩,
    ⟨(some 7), none, .bin .geq (.t 6) (.c (.v (.int .i64 1)))⟩,
    ⟨(some 8), none, .mv (.t 7)⟩,
    ⟨(some 9), (some (8, true)), .mv (.t 0)⟩,
    ⟨(some 10), (some (8, true)), .bin .leq (.t 9) (.c (.v (.int .i64 9)))⟩,
    ⟨(some 11), none, .pick (.t 8) (.t 10) (.c (.v (.bool false)))⟩])
  (.cond (.t 11) (.reg [] [⟨(some 12), none, .bsl 1 9 (.v (.string ⟨⟨[]⟩⟩)) [(0, (.c (.v (.string ⟨⟨[112, 117, 116, 45, 115, 101, 114, 118, 105, 99, 101]⟩⟩)))), (1, (.c (.v (.string ⟨⟨[112, 117, 116, 45, 115, 108, 105, 99, 101]⟩⟩)))), (2, (.c (.v (.string ⟨⟨[112, 117, 116, 45, 110, 111, 100, 101]⟩⟩)))), (3, (.c (.v (.string ⟨⟨[100, 114, 111, 112, 45, 115, 101, 114, 118, 105, 99, 101]⟩⟩)))), (4, (.c (.v (.string ⟨⟨[100, 114, 111, 112, 45, 115, 108, 105, 99, 101]⟩⟩)))), (5, (.c (.v (.string ⟨⟨[100, 114, 111, 112, 45, 110, 111, 100, 101]⟩⟩)))), (6, (.c (.v (.string ⟨⟨[98, 111, 111, 107, 109, 97, 114, 107]⟩⟩)))), (7, (.c (.v (.string ⟨⟨[114, 101, 108, 105, 115, 116]⟩⟩)))), (8, (.c (.v (.string ⟨⟨[108, 105, 115, 116, 101, 100]⟩⟩))))]⟩,
    ⟨(some 13), none, .mv (.t 0)⟩,
    ⟨(some 14), none, .bin .sub (.t 13) (.c (.v (.int .i64 1)))⟩,
    ⟨(some 15), none, .iaS 1 (.t 12) (.t 14)⟩,
    ⟨(some 16), none, .load none (.t 15)⟩,
    ⟨(some 3), none, .mv (.t 16)⟩])
  .skip))
  (.seq (.reg [] [⟨(some 17), none, .mv (.t 0)⟩,
    ⟨(some 18), none, .call 36 [(.t 17)]⟩,
    ⟨(some 19), none, .mv (.t 3)⟩,
    ⟨(some 20), none, .bin .eql (.t 18) (.t 19)⟩,
    ⟨(some 2), none, .mv (.t 20)⟩])
  .ret))))), [.tmp 2]⟩
noncomputable def k6 : List (List Nat) := []
theorem t6 : toRFn C k6 6 = some r6 := by kernel_rfl
/-- linkboy/object.PutNode -/
noncomputable def r23 : RFn := ⟨17, (.seq (.reg [] [⟨(some 1), none, .box (.t 0)⟩,
    ⟨(some 2), none, .mv (.c (.sl [] .nil))⟩])
  (.seq (.seq (.reg [] [⟨(some 3), none, .load (some 3) (.t 1)⟩,
    ⟨(some 4), none, .call 24 [(.t 3)]⟩,
    ⟨(some 5), none, .un .not (.t 4)⟩])
  (.cond (.t 5) (.seq (.reg [] [⟨(some 2), none, .mv (.c (.sl [] .nil))⟩])
  .ret)
  .skip))
  (.seq (.reg [] [⟨(some 6), none, .fa 0 (.t 1)⟩,
    ⟨(some 7), none, .load none (.t 6)⟩,
    ⟨(some 8), none, .call 79 [(.t 7)]⟩,
    ⟨(some 9), none, .fa 1 (.t 1)⟩,
    ⟨(some 10), none, .load none (.t 9)⟩,
    ⟨(some 11), none, .call 80 [(.t 10)]⟩,
    ⟨(some 12), none, .fa 2 (.t 1)⟩,
    ⟨(some 13), none, .load none (.t 12)⟩,
    ⟨(some 14), none, .call 81 [(.t 13), (.c (.fn (.func 82) [] []))]⟩,
    ⟨(some 15), none, .bsl 1 3 (.sl [] .nil) [(0, (.t 8)), (1, (.t 11)), (2, (.t 14))]⟩,
    ⟨(some 16), none, .call 78 [(.t 15)]⟩,
    ⟨(some 2), none, .mv (.t 16)⟩])
  .ret))), [.tmp 2]⟩
noncomputable def k23 : List (List Nat) := []
theorem t23 : toRFn C k23 23 = some r23 := by kernel_rfl
/-- linkboy/object.RightNode -/
noncomputable def r24 : RFn := ⟨16, (.seq (.reg [] [⟨(some 1), none, .box (.t 0)⟩,
    ⟨(some 2), none, .mv (.c (.v (.bool false)))⟩])
  (.seq (.reg [] [⟨(some 3), none, .fa 0 (.t 1)⟩,
    ⟨(some 4), none, .load none (.t 3)⟩,
    ⟨(some 5), none, .call 83 [(.t 4)]⟩,
    ⟨(some 6), none, .mv (.t 5)⟩,
    ⟨(some 7), (some (6, true)), .fa 1 (.t 1)⟩,
    ⟨(some 8), (some (6, true)), .load none (.t 7)⟩,
    ⟨(some 9), (some (6, true)), .call 84 [(.t 8)]⟩,
    ⟨(some 10), none, .pick (.t 6) (.t 9) (.c (.v (.bool false)))⟩,
    ⟨(some 11), none, .mv (.t 10)⟩,
    ⟨(some 12), (some (11, true)), .fa 2 (.t 1)⟩,
    ⟨(some 13), (some (11, true)), .load none (.t 12)⟩,
    ⟨(some 14), (some (11, true)), .call 85 [(.t 13)]⟩,
    ⟨(some 15), none, .pick (.t 11) (.t 14) (.c (.v (.bool false)))⟩,
    ⟨(some 2), none, .mv (.t 15)⟩])
  .ret)), [.tmp 2]⟩
noncomputable def k24 : List (List Nat) := []
theorem t24 : toRFn C k24 24 = some r24 := by kernel_rfl
/-- linkboy/linkboylaw14.alive -/
noncomputable def r35 : RFn := ⟨21, (.seq (.reg [] [⟨(some 0), none, .mv (.c (.v (.bool false)))⟩])
  (.seq (.reg [] [⟨(some 4), none, .build [(.v (.int .i64 0)), (.v (.int .i64 0)), (.v (.string ⟨⟨[]⟩⟩)), (.v (.string ⟨⟨[]⟩⟩)), (.v (.int .i64 0)), (.sl [] .nil), (.sl [] .nil), (.sl [] .nil), (.sl [] .nil), (.sl [] .nil), (.v (.bool false)), (.v (.bool false)), (.v (.bool false)), (.v (.int .i64 0)), (.v (.bool false)), (.v (.string ⟨⟨[]⟩⟩)), (.v (.string ⟨⟨[]⟩⟩)), (.v (.string ⟨⟨[]⟩⟩)), (.v (.bool false)), (.sl [] .nil), (.sl [] .nil), (.v (.string ⟨⟨[]⟩⟩)), (.v (.string ⟨⟨[]⟩⟩)), (.sl [] .nil), (.v (.string ⟨⟨[]⟩⟩)), (.v (.string ⟨⟨[]⟩⟩)), (.v (.string ⟨⟨[]⟩⟩))] [(0, 1, (.c (.v (.int .i64 7)))), (1, 1, (.c (.v (.int .i64 5))))]⟩,
    ⟨(some 5), none, .call 57 [(.t 4)]⟩,
    ⟨(some 3), none, .mv (.t 5)⟩,
    ⟨(some 6), none, .ext (.t 3) 0⟩,
    ⟨(some 7), none, .ext (.t 3) 1⟩,
    ⟨(some 1), none, .box (.c (.agg [(.v (.int .i64 0)), (.sl [] .nil)]))⟩,
    ⟨none, none, .store 2 (.t 1) (.t 6)⟩,
    ⟨(some 2), none, .mv (.t 7)⟩])
  (.seq (.reg [] [⟨(some 8), none, .mv (.t 2)⟩,
    ⟨(some 9), none, .eqI false true (.t 8) (.c (.v .nilIface))⟩,
    ⟨(some 10), none, .mv (.t 9)⟩,
    ⟨(some 11), (some (10, true)), .fa 0 (.t 1)⟩,
    ⟨(some 12), (some (10, true)), .load none (.t 11)⟩,
    ⟨(some 13), (some (10, true)), .bin .eql (.t 12) (.c (.v (.int .i64 7)))⟩,
    ⟨(some 14), none, .pick (.t 10) (.t 13) (.c (.v (.bool false)))⟩,
    ⟨(some 15), none, .mv (.t 14)⟩,
    ⟨(some 16), (some (15, true)), .fa 1 (.t 1)⟩,
    ⟨(some 17), (some (15, true)), .load none (.t 16)⟩,
    ⟨(some 18), (some (15, true)), .cstr (.t 17)⟩,
    ⟨(some 19), (some (15, true)), .bin .eql (.t 18) (.c (.v (.string ⟨⟨[0, 0, 0, 0, 0, 0, 0, 5]⟩⟩)))⟩,
    ⟨(some 20), none, .pick (.t 15) (.t 19) (.c (.v (.bool false)))⟩,
    ⟨(some 0), none, .mv (.t 20)⟩])
  .ret))), [.tmp 0]⟩
noncomputable def k35 : List (List Nat) := []
theorem t35 : toRFn C k35 35 = some r35 := by kernel_rfl
/-- linkboy/event.Word -/
noncomputable def r36 : RFn := ⟨9, (.seq (.reg [] [⟨(some 2), none, .mv (.c (.v (.string ⟨⟨[]⟩⟩)))⟩])
  (.seq (.seq (.reg [] [⟨(some 3), none, .mv (.t 0)⟩,
    ⟨(some 4), none, .call 103 [(.t 3)]⟩,
    ⟨(some 5), none, .un .not (.t 4)⟩])
  (.cond (.t 5) (.seq (.reg [] [⟨(some 2), none, .mv (.c (.v (.string ⟨⟨[]⟩⟩)))⟩])
  .ret)
  .skip))
  (.seq (.reg [] [⟨(some 6), none, .mv (.t 0)⟩,
    ⟨(some 7), none, .iaA 1 10 (.c gEW) (.t 6)⟩,
    ⟨(some 8), none, .load none (.t 7)⟩,
    ⟨(some 2), none, .mv (.t 8)⟩])
  .ret))), [.tmp 2]⟩
noncomputable def k36 : List (List Nat) := []
theorem t36 : toRFn C k36 36 = some r36 := by kernel_rfl
/-- linkboy/object.PutSlice -/
noncomputable def r39 : RFn := ⟨23, (.seq (.reg [] [⟨(some 1), none, .box (.t 0)⟩,
    ⟨(some 2), none, .mv (.c (.sl [] .nil))⟩])
  (.seq (.seq (.reg [] [⟨(some 3), none, .load (some 6) (.t 1)⟩,
    ⟨(some 4), none, .call 40 [(.t 3)]⟩,
    ⟨(some 5), none, .un .not (.t 4)⟩])
  (.cond (.t 5) (.seq (.reg [] [⟨(some 2), none, .mv (.c (.sl [] .nil))⟩])
  .ret)
  .skip))
  (.seq (.reg [(11, 13)] [⟨(some 6), none, .fa 0 (.t 1)⟩,
    ⟨(some 7), none, .load (some 2) (.t 6)⟩,
    ⟨(some 8), none, .call 106 [(.t 7)]⟩,
    ⟨(some 9), none, .fa 2 (.t 1)⟩,
    ⟨(some 10), none, .load none (.t 9)⟩,
    ⟨(some 11), none, .call 79 [(.t 10)]⟩,
    ⟨(some 12), none, .fa 3 (.t 1)⟩,
    ⟨(some 13), none, .load none (.t 12)⟩,
    ⟨(some 14), none, .call 107 [(.t 13)]⟩,
    ⟨(some 15), none, .fa 4 (.t 1)⟩,
    ⟨(some 16), none, .load none (.t 15)⟩,
    ⟨(some 17), none, .call 108 [(.t 16), (.c (.fn (.func 109) [] []))]⟩,
    ⟨(some 18), none, .fa 5 (.t 1)⟩,
    ⟨(some 19), none, .load none (.t 18)⟩,
    ⟨(some 20), none, .call 110 [(.t 19), (.c (.fn (.func 111) [] []))]⟩,
    ⟨(some 21), none, .bsl 1 5 (.sl [] .nil) [(0, (.t 8)), (1, (.t 11)), (2, (.t 14)), (3, (.t 17)), (4, (.t 20))]⟩,
    ⟨(some 22), none, .call 78 [(.t 21)]⟩,
    ⟨(some 2), none, .mv (.t 22)⟩])
  .ret))), [.tmp 2]⟩
noncomputable def k39 : List (List Nat) := []
theorem t39 : toRFn C k39 39 = some r39 := by kernel_rfl
/-- linkboy/object.RightSlice -/
noncomputable def r40 : RFn := ⟨37, (.seq (.reg [] [⟨(some 1), none, .box (.t 0)⟩,
    ⟨(some 2), none, .mv (.c (.v (.bool false)))⟩])
  (.seq (.reg [] [⟨(some 5), none, .fa 4 (.t 1)⟩,
    ⟨(some 6), none, .load none (.t 5)⟩,
    ⟨(some 7), none, .call 112 [(.t 6), (.c (.fn (.func 113) [] []))]⟩,
    ⟨(some 3), none, .mv (.t 7)⟩])
  (.seq (.reg [] [⟨(some 8), none, .fa 5 (.t 1)⟩,
    ⟨(some 9), none, .load none (.t 8)⟩,
    ⟨(some 10), none, .fn (.func 116) [] [(.t 1)]⟩,
    ⟨(some 11), none, .call 115 [(.t 9), (.t 10)]⟩,
    ⟨(some 4), none, .mv (.t 11)⟩])
  (.seq (.reg [] [⟨(some 12), none, .fa 0 (.t 1)⟩,
    ⟨(some 13), none, .load (some 2) (.t 12)⟩,
    ⟨(some 14), none, .call 119 [(.t 13)]⟩,
    ⟨(some 15), none, .mv (.t 14)⟩,
    ⟨(some 16), (some (15, true)), .fa 2 (.t 1)⟩,
    ⟨(some 17), (some (15, true)), .load none (.t 16)⟩,
    ⟨(some 18), (some (15, true)), .call 83 [(.t 17)]⟩,
    ⟨(some 19), none, .pick (.t 15) (.t 18) (.c (.v (.bool false)))⟩,
    ⟨(some 20), none, .mv (.t 19)⟩,
    ⟨(some 21), (some (20, true)), .mv (.t 3)⟩,
    ⟨(some 22), none, .pick (.t 20) (.t 21) (.c (.v (.bool false)))⟩,
    ⟨(some 23), none, .mv (.t 22)⟩,
    ⟨(some 24), (some (23, true)), .fa 4 (.t 1)⟩,
    ⟨(some 25), (some (23, true)), .load none (.t 24)⟩,
    ⟨(some 26), (some (23, true)), .call 120 [(.t 25)]⟩,
    ⟨(some 27), none, .pick (.t 23) (.t 26) (.c (.v (.bool false)))⟩,
    ⟨(some 28), none, .mv (.t 27)⟩,
    ⟨(some 29), (some (28, true)), .fa 5 (.t 1)⟩,
    ⟨(some 30), (some (28, true)), .load none (.t 29)⟩,
    ⟨(some 31), (some (28, true)), .len .sl (.t 30)⟩,
    ⟨(some 32), (some (28, true)), .bin .leq (.t 31) (.c (.v (.int .i64 8)))⟩,
    ⟨(some 33), none, .pick (.t 28) (.t 32) (.c (.v (.bool false)))⟩,
    ⟨(some 34), none, .mv (.t 33)⟩,
    ⟨(some 35), (some (34, true)), .mv (.t 4)⟩,
    ⟨(some 36), none, .pick (.t 34) (.t 35) (.c (.v (.bool false)))⟩,
    ⟨(some 2), none, .mv (.t 36)⟩])
  .ret)))), [.tmp 2]⟩
noncomputable def k40 : List (List Nat) := []
theorem t40 : toRFn C k40 40 = some r40 := by kernel_rfl
/-- linkboy/object.PutService -/
noncomputable def r49 : RFn := ⟨62, (.seq (.reg [] [⟨(some 1), none, .box (.t 0)⟩,
    ⟨(some 2), none, .mv (.c (.sl [] .nil))⟩])
  (.seq (.seq (.reg [] [⟨(some 7), none, .load (some 13) (.t 1)⟩,
    ⟨(some 8), none, .call 50 [(.t 7)]⟩,
    ⟨(some 9), none, .un .not (.t 8)⟩])
  (.cond (.t 9) (.seq (.reg [] [⟨(some 2), none, .mv (.c (.sl [] .nil))⟩])
  .ret)
  .skip))
  (.seq (.reg [] [⟨(some 10), none, .fa 0 (.t 1)⟩,
    ⟨(some 11), none, .load (some 2) (.t 10)⟩,
    ⟨(some 12), none, .call 106 [(.t 11)]⟩,
    ⟨(some 13), none, .fa 2 (.t 1)⟩,
    ⟨(some 14), none, .load none (.t 13)⟩,
    ⟨(some 15), none, .cint .u8 (.t 14)⟩,
    ⟨(some 16), none, .bsl 1 1 (.v (.int .u8 0)) [(0, (.t 15))]⟩,
    ⟨(some 17), none, .app 1 1073741824 (.t 12) (.t 16)⟩,
    ⟨(some 3), none, .mv (.t 17)⟩])
  (.seq (.seq (.reg [] [⟨(some 18), none, .fa 3 (.t 1)⟩,
    ⟨(some 19), none, .load none (.t 18)⟩,
    ⟨(some 20), none, .fa 4 (.t 1)⟩,
    ⟨(some 21), none, .load none (.t 20)⟩,
    ⟨(some 22), none, .fa 5 (.t 1)⟩,
    ⟨(some 23), none, .load none (.t 22)⟩,
    ⟨(some 24), none, .bsl 1 3 (.sl [] .nil) [(0, (.t 19)), (1, (.t 21)), (2, (.t 23))]⟩,
    ⟨(some 25), none, .len .sl (.t 24)⟩,
    ⟨(some 26), none, .mv (.c (.v (.int .i64 0)))⟩])
  (.block 0 (.loop [1, 3, 24, 25, 26] (.seq (.reg [] [⟨(some 27), none, .bin .lss (.t 26) (.t 25)⟩])
  (.seq (.cond (.t 27) .skip
  (.exit 0))
  (.seq (.block 1 (.seq (.reg [] [⟨(some 28), none, .iaS 1 (.t 24) (.t 26)⟩,
    ⟨(some 29), none, .load none (.t 28)⟩,
    ⟨(some 5), none, .mv (.t 29)⟩])
  (.reg [] [⟨(some 30), none, .mv (.t 3)⟩,
    ⟨(some 31), none, .mv (.t 5)⟩,
    ⟨(some 32), none, .call 81 [(.t 31), (.c (.fn (.func 82) [] []))]⟩,
    ⟨(some 33), none, .app 1 1073741824 (.t 30) (.t 32)⟩,
    ⟨(some 3), none, .mv (.t 33)⟩])))
  (.reg [] [⟨(some 34), none, .bin .add (.t 26) (.c (.v (.int .i64 1)))⟩,
    ⟨(some 26), none, .mv (.t 34)⟩])))))))
  (.seq (.reg [] [⟨(some 35), none, .fa 8 (.t 1)⟩,
    ⟨(some 36), none, .load none (.t 35)⟩,
    ⟨(some 37), none, .call 107 [(.t 36)]⟩,
    ⟨(some 38), none, .fa 9 (.t 1)⟩,
    ⟨(some 39), none, .load none (.t 38)⟩,
    ⟨(some 40), none, .call 107 [(.t 39)]⟩,
    ⟨(some 41), none, .fa 10 (.t 1)⟩,
    ⟨(some 42), none, .load none (.t 41)⟩,
    ⟨(some 43), none, .call 107 [(.t 42)]⟩,
    ⟨(some 44), none, .bsl 1 3 (.sl [] .nil) [(0, (.t 37)), (1, (.t 40)), (2, (.t 43))]⟩,
    ⟨(some 45), none, .call 78 [(.t 44)]⟩,
    ⟨(some 6), none, .mv (.t 45)⟩])
  (.seq (.reg [(3, 5), (3, 9), (6, 9), (3, 12), (6, 12)] [⟨(some 46), none, .mv (.t 3)⟩,
    ⟨(some 47), none, .fa 6 (.t 1)⟩,
    ⟨(some 48), none, .load none (.t 47)⟩,
    ⟨(some 49), none, .call 144 [(.t 48), (.c (.fn (.func 145) [] []))]⟩,
    ⟨(some 50), none, .fa 7 (.t 1)⟩,
    ⟨(some 51), none, .load none (.t 50)⟩,
    ⟨(some 52), none, .call 108 [(.t 51), (.c (.fn (.func 146) [] []))]⟩,
    ⟨(some 53), none, .mv (.t 6)⟩,
    ⟨(some 54), none, .fa 11 (.t 1)⟩,
    ⟨(some 55), none, .load none (.t 54)⟩,
    ⟨(some 56), none, .call 147 [(.t 55), (.c (.v (.int .i64 8)))]⟩,
    ⟨(some 57), none, .fa 12 (.t 1)⟩,
    ⟨(some 58), none, .load none (.t 57)⟩,
    ⟨(some 59), none, .call 107 [(.t 58)]⟩,
    ⟨(some 60), none, .bsl 1 6 (.sl [] .nil) [(0, (.t 46)), (1, (.t 49)), (2, (.t 52)), (3, (.t 53)), (4, (.t 56)), (5, (.t 59))]⟩,
    ⟨(some 61), none, .call 78 [(.t 60)]⟩,
    ⟨(some 2), none, .mv (.t 61)⟩])
  .ret)))))), [.tmp 2]⟩
noncomputable def k49 : List (List Nat) := [[1, 3, 24, 25, 26]]
theorem t49 : toRFn C k49 49 = some r49 := by kernel_rfl
/-- linkboy/object.RightService -/
noncomputable def r50 : RFn := ⟨62, (.seq (.reg [] [⟨(some 1), none, .box (.t 0)⟩,
    ⟨(some 2), none, .mv (.c (.v (.bool false)))⟩])
  (.seq (.reg [] [⟨(some 6), none, .fa 2 (.t 1)⟩,
    ⟨(some 7), none, .load none (.t 6)⟩,
    ⟨(some 8), none, .bin .geq (.t 7) (.c (.v (.int .i64 0)))⟩,
    ⟨(some 9), none, .mv (.t 8)⟩,
    ⟨(some 10), (some (9, true)), .fa 2 (.t 1)⟩,
    ⟨(some 11), (some (9, true)), .load none (.t 10)⟩,
    ⟨(some 12), (some (9, true)), .bin .leq (.t 11) (.c (.v (.int .i64 2)))⟩,
    ⟨(some 13), none, .pick (.t 9) (.t 12) (.c (.v (.bool false)))⟩,
    ⟨(some 14), none, .mv (.t 13)⟩,
    ⟨(some 15), (some (14, true)), .fa 2 (.t 1)⟩,
    ⟨(some 16), (some (14, true)), .load none (.t 15)⟩,
    ⟨(some 17), (some (14, true)), .bin .eql (.t 16) (.c (.v (.int .i64 2)))⟩,
    ⟨(some 18), (some (14, true)), .mv (.t 17)⟩,
    ⟨(some 19), (some (18, false)), .fa 5 (.t 1)⟩,
    ⟨(some 20), (some (18, false)), .load none (.t 19)⟩,
    ⟨(some 21), (some (18, false)), .len .sl (.t 20)⟩,
    ⟨(some 22), (some (18, false)), .bin .eql (.t 21) (.c (.v (.int .i64 0)))⟩,
    ⟨(some 23), (some (14, true)), .pick (.t 18) (.c (.v (.bool true))) (.t 22)⟩,
    ⟨(some 24), none, .pick (.t 14) (.t 23) (.c (.v (.bool false)))⟩,
    ⟨(some 3), none, .mv (.t 24)⟩])
  (.seq (.reg [] [⟨(some 25), none, .fa 3 (.t 1)⟩,
    ⟨(some 26), none, .load none (.t 25)⟩,
    ⟨(some 27), none, .fa 4 (.t 1)⟩,
    ⟨(some 28), none, .load none (.t 27)⟩,
    ⟨(some 29), none, .fa 5 (.t 1)⟩,
    ⟨(some 30), none, .load none (.t 29)⟩,
    ⟨(some 31), none, .bsl 1 3 (.sl [] .nil) [(0, (.t 26)), (1, (.t 28)), (2, (.t 30))]⟩,
    ⟨(some 32), none, .call 148 [(.t 31), (.c (.fn (.func 85) [] []))]⟩,
    ⟨(some 4), none, .mv (.t 32)⟩])
  (.seq (.reg [] [⟨(some 33), none, .fa 6 (.t 1)⟩,
    ⟨(some 34), none, .load none (.t 33)⟩,
    ⟨(some 35), none, .len .sl (.t 34)⟩,
    ⟨(some 36), none, .bin .leq (.t 35) (.c (.v (.int .i64 4)))⟩,
    ⟨(some 37), none, .mv (.t 36)⟩,
    ⟨(some 38), (some (37, true)), .fa 6 (.t 1)⟩,
    ⟨(some 39), (some (37, true)), .load none (.t 38)⟩,
    ⟨(some 40), (some (37, true)), .call 149 [(.t 39), (.c (.fn (.func 150) [] []))]⟩,
    ⟨(some 41), none, .pick (.t 37) (.t 40) (.c (.v (.bool false)))⟩,
    ⟨(some 5), none, .mv (.t 41)⟩])
  (.seq (.reg [] [⟨(some 42), none, .fa 0 (.t 1)⟩,
    ⟨(some 43), none, .load (some 2) (.t 42)⟩,
    ⟨(some 44), none, .call 119 [(.t 43)]⟩,
    ⟨(some 45), none, .mv (.t 44)⟩,
    ⟨(some 46), (some (45, true)), .mv (.t 3)⟩,
    ⟨(some 47), none, .pick (.t 45) (.t 46) (.c (.v (.bool false)))⟩,
    ⟨(some 48), none, .mv (.t 47)⟩,
    ⟨(some 49), (some (48, true)), .mv (.t 4)⟩,
    ⟨(some 50), none, .pick (.t 48) (.t 49) (.c (.v (.bool false)))⟩,
    ⟨(some 51), none, .mv (.t 50)⟩,
    ⟨(some 52), (some (51, true)), .mv (.t 5)⟩,
    ⟨(some 53), none, .pick (.t 51) (.t 52) (.c (.v (.bool false)))⟩,
    ⟨(some 54), none, .mv (.t 53)⟩,
    ⟨(some 55), (some (54, true)), .load (some 13) (.t 1)⟩,
    ⟨(some 56), (some (54, true)), .call 151 [(.t 55)]⟩,
    ⟨(some 57), none, .pick (.t 54) (.t 56) (.c (.v (.bool false)))⟩,
    ⟨(some 58), none, .mv (.t 57)⟩,
    ⟨(some 59), (some (58, true)), .load (some 13) (.t 1)⟩,
    ⟨(some 60), (some (58, true)), .call 152 [(.t 59)]⟩,
    ⟨(some 61), none, .pick (.t 58) (.t 60) (.c (.v (.bool false)))⟩,
    ⟨(some 2), none, .mv (.t 61)⟩])
  .ret))))), [.tmp 2]⟩
noncomputable def k50 : List (List Nat) := []
theorem t50 : toRFn C k50 50 = some r50 := by kernel_rfl
/-- linkboy/event.Frame -/
noncomputable def r57 : RFn := ⟨57, (.seq (.reg [] [⟨(some 1), none, .box (.t 0)⟩,
    ⟨(some 2), none, .box (.c (.agg [(.v (.int .i64 0)), (.sl [] .nil)]))⟩,
    ⟨(some 3), none, .mv (.c (.v .nilIface))⟩])
  (.seq (.block 0 (.seq (.reg [] [⟨(some 10), none, .fa 0 (.t 1)⟩,
    ⟨(some 11), none, .load none (.t 10)⟩,
    ⟨(some 12), none, .call 103 [(.t 11)]⟩,
    ⟨(some 13), none, .un .not (.t 12)⟩,
    ⟨(some 9), none, .mv (.t 13)⟩])
  (.cond (.t 9) (.seq (.reg [] [⟨(some 14), none, .build [(.v (.int .i64 0)), (.sl [] .nil)] []⟩,
    ⟨(some 15), none, .load none (.c (.ro [(.ifc 296 (.gl 6))] 0))⟩,
    ⟨none, none, .store 2 (.t 2) (.t 14)⟩,
    ⟨(some 3), none, .mv (.t 15)⟩])
  .ret)
  (.seq (.reg [] [⟨(some 17), none, .fa 1 (.t 1)⟩,
    ⟨(some 18), none, .load none (.t 17)⟩,
    ⟨(some 19), none, .call 163 [(.t 18)]⟩,
    ⟨(some 20), none, .un .not (.t 19)⟩,
    ⟨(some 16), none, .mv (.t 20)⟩])
  (.cond (.t 16) (.seq (.reg [] [⟨(some 21), none, .build [(.v (.int .i64 0)), (.sl [] .nil)] []⟩,
    ⟨(some 22), none, .load none (.c (.ro [(.ifc 296 (.gl 8))] 0))⟩,
    ⟨none, none, .store 2 (.t 2) (.t 21)⟩,
    ⟨(some 3), none, .mv (.t 22)⟩])
  .ret)
  (.seq (.reg [] [⟨(some 24), none, .load (some 27) (.t 1)⟩,
    ⟨(some 25), none, .call 164 [(.t 24)]⟩,
    ⟨(some 26), none, .un .not (.t 25)⟩,
    ⟨(some 23), none, .mv (.t 26)⟩])
  (.cond (.t 23) (.seq (.reg [] [⟨(some 27), none, .build [(.v (.int .i64 0)), (.sl [] .nil)] []⟩,
    ⟨(some 28), none, .load none (.c (.ro [(.ifc 296 (.gl 3))] 0))⟩,
    ⟨none, none, .store 2 (.t 2) (.t 27)⟩,
    ⟨(some 3), none, .mv (.t 28)⟩])
  .ret)
  .skip)))))))
  (.seq (.reg [] [⟨(some 30), none, .fa 1 (.t 1)⟩,
    ⟨(some 31), none, .load none (.t 30)⟩,
    ⟨(some 32), none, .call 165 [(.t 31), (.c (.v (.int .i64 8)))]⟩,
    ⟨(some 29), none, .mv (.t 32)⟩,
    ⟨(some 33), none, .ext (.t 29) 0⟩,
    ⟨(some 34), none, .ext (.t 29) 1⟩,
    ⟨(some 4), none, .mv (.t 33)⟩,
    ⟨(some 5), none, .mv (.t 34)⟩])
  (.seq (.seq (.reg [] [⟨(some 35), none, .mv (.t 5)⟩,
    ⟨(some 36), none, .eqI true true (.t 35) (.c (.v .nilIface))⟩])
  (.cond (.t 36) (.seq (.reg [] [⟨(some 37), none, .build [(.v (.int .i64 0)), (.sl [] .nil)] []⟩,
    ⟨(some 38), none, .mv (.t 5)⟩,
    ⟨none, none, .store 2 (.t 2) (.t 37)⟩,
    ⟨(some 3), none, .mv (.t 38)⟩])
  .ret)
  .skip))
  (.seq (.reg [] [⟨(some 39), none, .fa 0 (.t 1)⟩,
    ⟨(some 40), none, .load none (.t 39)⟩,
    ⟨(some 41), none, .mv (.t 4)⟩,
    ⟨(some 42), none, .load (some 27) (.t 1)⟩,
    ⟨(some 43), none, .call 166 [(.t 42)]⟩,
    ⟨(some 44), none, .bsl 1 2 (.sl [] .nil) [(0, (.t 41)), (1, (.t 43))]⟩,
    ⟨(some 45), none, .call 78 [(.t 44)]⟩,
    ⟨(some 46), none, .build [(.v (.int .i64 0)), (.sl [] .nil)] [(0, 1, (.t 40)), (1, 1, (.t 45))]⟩,
    ⟨(some 6), none, .box (.c (.agg [(.v (.int .i64 0)), (.sl [] .nil)]))⟩,
    ⟨none, none, .store 2 (.t 6) (.t 46)⟩])
  (.seq (.seq (.reg [] [⟨(some 48), none, .load (some 2) (.t 6)⟩,
    ⟨(some 49), none, .call 167 [(.t 48)]⟩,
    ⟨(some 47), none, .mv (.t 49)⟩,
    ⟨(some 50), none, .ext (.t 47) 0⟩,
    ⟨(some 51), none, .ext (.t 47) 1⟩,
    ⟨(some 7), none, .mv (.t 50)⟩,
    ⟨(some 8), none, .mv (.t 51)⟩])
  (.seq (.reg [] [⟨(some 52), none, .mv (.t 8)⟩,
    ⟨(some 53), none, .eqI true true (.t 52) (.c (.v .nilIface))⟩])
  (.cond (.t 53) (.seq (.reg [] [⟨(some 54), none, .build [(.v (.int .i64 0)), (.sl [] .nil)] []⟩,
    ⟨(some 55), none, .mv (.t 8)⟩,
    ⟨none, none, .store 2 (.t 2) (.t 54)⟩,
    ⟨(some 3), none, .mv (.t 55)⟩])
  .ret)
  .skip)))
  (.seq (.reg [] [⟨(some 56), none, .load (some 2) (.t 6)⟩,
    ⟨none, none, .store 2 (.t 2) (.t 56)⟩,
    ⟨(some 3), none, .mv (.c (.v .nilIface))⟩])
  .ret))))))), [.cell 2 (some 2), .tmp 3]⟩
noncomputable def k57 : List (List Nat) := []
theorem t57 : toRFn C k57 57 = some r57 := by kernel_rfl
/-- slices.Concat[[]byte,byte] -/
noncomputable def r78 : RFn := ⟨36, (.seq (.reg [] [⟨(some 2), none, .mv (.c (.sl [] .nil))⟩])
  (.seq (.reg [] [⟨(some 3), none, .mv (.c (.v (.int .i64 0)))⟩])
  (.seq (.seq (.reg [] [⟨(some 9), none, .mv (.t 0)⟩,
    ⟨(some 10), none, .len .sl (.t 9)⟩,
    ⟨(some 11), none, .mv (.c (.v (.int .i64 0)))⟩])
  (.block 0 (.loop [0, 3, 9, 10, 11] (.seq (.reg [] [⟨(some 12), none, .bin .lss (.t 11) (.t 10)⟩])
  (.seq (.cond (.t 12) .skip
  (.exit 0))
  (.seq (.block 1 (.seq (.reg [] [⟨(some 13), none, .iaS 1 (.t 9) (.t 11)⟩,
    ⟨(some 14), none, .load none (.t 13)⟩,
    ⟨(some 5), none, .mv (.t 14)⟩])
  (.seq (.reg [] [⟨(some 15), none, .mv (.t 3)⟩,
    ⟨(some 16), none, .mv (.t 5)⟩,
    ⟨(some 17), none, .len .sl (.t 16)⟩,
    ⟨(some 18), none, .bin .add (.t 15) (.t 17)⟩,
    ⟨(some 3), none, .mv (.t 18)⟩])
  (.seq (.reg [] [⟨(some 19), none, .mv (.t 3)⟩,
    ⟨(some 20), none, .bin .lss (.t 19) (.c (.v (.int .i64 0)))⟩])
  (.cond (.t 20) (.reg [] [⟨(some 21), none, .ifc 9 (.c (.v (.string ⟨⟨[108, 101, 110, 32, 111, 117, 116, 32, 111, 102, 32, 114, 97, 110, 103, 101]⟩⟩)))⟩,
    ⟨none, none, .bad⟩])
  .skip)))))
  (.reg [] [⟨(some 22), none, .bin .add (.t 11) (.c (.v (.int .i64 1)))⟩,
    ⟨(some 11), none, .mv (.t 22)⟩])))))))
  (.seq (.reg [] [⟨(some 23), none, .mv (.t 3)⟩,
    ⟨(some 24), none, .call 180 [(.c (.sl [] .nil)), (.t 23)]⟩,
    ⟨(some 6), none, .mv (.t 24)⟩])
  (.seq (.seq (.reg [] [⟨(some 25), none, .mv (.t 0)⟩,
    ⟨(some 26), none, .len .sl (.t 25)⟩,
    ⟨(some 27), none, .mv (.c (.v (.int .i64 0)))⟩])
  (.block 2 (.loop [6, 25, 26, 27] (.seq (.reg [] [⟨(some 28), none, .bin .lss (.t 27) (.t 26)⟩])
  (.seq (.cond (.t 28) .skip
  (.exit 2))
  (.seq (.block 3 (.seq (.reg [] [⟨(some 29), none, .iaS 1 (.t 25) (.t 27)⟩,
    ⟨(some 30), none, .load none (.t 29)⟩,
    ⟨(some 8), none, .mv (.t 30)⟩])
  (.reg [] [⟨(some 31), none, .mv (.t 6)⟩,
    ⟨(some 32), none, .mv (.t 8)⟩,
    ⟨(some 33), none, .app 1 1073741824 (.t 31) (.t 32)⟩,
    ⟨(some 6), none, .mv (.t 33)⟩])))
  (.reg [] [⟨(some 34), none, .bin .add (.t 27) (.c (.v (.int .i64 1)))⟩,
    ⟨(some 27), none, .mv (.t 34)⟩])))))))
  (.seq (.reg [] [⟨(some 35), none, .mv (.t 6)⟩,
    ⟨(some 2), none, .mv (.t 35)⟩])
  .ret)))))), [.tmp 2]⟩
noncomputable def k78 : List (List Nat) := [[0, 3, 9, 10, 11], [6, 25, 26, 27]]
theorem t78 : toRFn C k78 78 = some r78 := by kernel_rfl
/-- linkboy/names.Put -/
noncomputable def r79 : RFn := ⟨18, (.seq (.reg [] [⟨(some 2), none, .mv (.c (.sl [] .nil))⟩])
  (.seq (.reg [] [⟨(some 6), none, .mv (.t 0)⟩,
    ⟨(some 7), none, .call 181 [(.t 6)]⟩,
    ⟨(some 5), none, .mv (.t 7)⟩,
    ⟨(some 8), none, .ext (.t 5) 0⟩,
    ⟨(some 9), none, .ext (.t 5) 1⟩,
    ⟨(some 3), none, .mv (.t 8)⟩,
    ⟨(some 4), none, .mv (.t 9)⟩])
  (.seq (.seq (.reg [] [⟨(some 10), none, .mv (.t 4)⟩,
    ⟨(some 11), none, .eqI true true (.t 10) (.c (.v .nilIface))⟩,
    ⟨(some 12), none, .mv (.t 11)⟩,
    ⟨(some 13), (some (12, false)), .mv (.t 0)⟩,
    ⟨(some 14), (some (12, false)), .call 83 [(.t 13)]⟩,
    ⟨(some 15), (some (12, false)), .un .not (.t 14)⟩,
    ⟨(some 16), none, .pick (.t 12) (.c (.v (.bool true))) (.t 15)⟩])
  (.cond (.t 16) (.seq (.reg [] [⟨(some 2), none, .mv (.c (.sl [] .nil))⟩])
  .ret)
  .skip))
  (.seq (.reg [] [⟨(some 17), none, .mv (.t 3)⟩,
    ⟨(some 2), none, .mv (.t 17)⟩])
  .ret)))), [.tmp 2]⟩
noncomputable def k79 : List (List Nat) := []
theorem t79 : toRFn C k79 79 = some r79 := by kernel_rfl
/-- linkboy/object.text -/
noncomputable def r80 : RFn := ⟨13, (.seq (.reg [] [⟨(some 2), none, .mv (.c (.sl [] .nil))⟩])
  (.seq (.reg [] [⟨(some 6), none, .mv (.t 0)⟩,
    ⟨(some 7), none, .call 181 [(.t 6)]⟩,
    ⟨(some 5), none, .mv (.t 7)⟩,
    ⟨(some 8), none, .ext (.t 5) 0⟩,
    ⟨(some 9), none, .ext (.t 5) 1⟩,
    ⟨(some 3), none, .mv (.t 8)⟩,
    ⟨(some 4), none, .mv (.t 9)⟩])
  (.seq (.seq (.reg [] [⟨(some 10), none, .mv (.t 4)⟩,
    ⟨(some 11), none, .eqI true true (.t 10) (.c (.v .nilIface))⟩])
  (.cond (.t 11) (.seq (.reg [] [⟨(some 2), none, .mv (.c (.sl [] .nil))⟩])
  .ret)
  .skip))
  (.seq (.reg [] [⟨(some 12), none, .mv (.t 3)⟩,
    ⟨(some 2), none, .mv (.t 12)⟩])
  .ret)))), [.tmp 2]⟩
noncomputable def k80 : List (List Nat) := []
theorem t80 : toRFn C k80 80 = some r80 := by kernel_rfl
/-- linkboy/object.row[linkboy/api.Addr] -/
noncomputable def r81 : RFn := ⟨25, (.seq (.reg [] [⟨(some 4), none, .mv (.c (.sl [] .nil))⟩])
  (.seq (.reg [] [⟨(some 8), none, .mv (.t 0)⟩,
    ⟨(some 9), none, .len .sl (.t 8)⟩,
    ⟨(some 10), none, .cint .u8 (.t 9)⟩,
    ⟨(some 11), none, .bsl 1 1 (.v (.int .u8 0)) [(0, (.t 10))]⟩,
    ⟨(some 5), none, .mv (.t 11)⟩])
  (.seq (.seq (.reg [] [⟨(some 12), none, .mv (.t 0)⟩,
    ⟨(some 13), none, .len .sl (.t 12)⟩,
    ⟨(some 14), none, .mv (.c (.v (.int .i64 0)))⟩])
  (.block 0 (.loop [1, 5, 12, 13, 14] (.seq (.reg [] [⟨(some 15), none, .bin .lss (.t 14) (.t 13)⟩])
  (.seq (.cond (.t 15) .skip
  (.exit 0))
  (.seq (.block 1 (.seq (.reg [] [⟨(some 16), none, .iaS 17 (.t 12) (.t 14)⟩,
    ⟨(some 17), none, .load (some 17) (.t 16)⟩,
    ⟨(some 7), none, .box (.c (.agg [(.v (.bool false)), (.v (.int .u8 0)), (.v (.int .u8 0)), (.v (.int .u8 0)), (.v (.int .u8 0)), (.v (.int .u8 0)), (.v (.int .u8 0)), (.v (.int .u8 0)), (.v (.int .u8 0)), (.v (.int .u8 0)), (.v (.int .u8 0)), (.v (.int .u8 0)), (.v (.int .u8 0)), (.v (.int .u8 0)), (.v (.int .u8 0)), (.v (.int .u8 0)), (.v (.int .u8 0))]))⟩,
    ⟨none, none, .store 17 (.t 7) (.t 17)⟩])
  (.reg [] [⟨(some 18), none, .mv (.t 5)⟩,
    ⟨(some 19), none, .mv (.t 1)⟩,
    ⟨(some 20), none, .load (some 17) (.t 7)⟩,
    ⟨(some 21), none, .callv (.t 19) [(.t 20)]⟩,
    ⟨(some 22), none, .app 1 1073741824 (.t 18) (.t 21)⟩,
    ⟨(some 5), none, .mv (.t 22)⟩])))
  (.reg [] [⟨(some 23), none, .bin .add (.t 14) (.c (.v (.int .i64 1)))⟩,
    ⟨(some 14), none, .mv (.t 23)⟩])))))))
  (.seq (.reg [] [⟨(some 24), none, .mv (.t 5)⟩,
    ⟨(some 4), none, .mv (.t 24)⟩])
  .ret)))), [.tmp 4]⟩
noncomputable def k81 : List (List Nat) := [[1, 5, 12, 13, 14]]
theorem t81 : toRFn C k81 81 = some r81 := by kernel_rfl
/-- linkboy/addr.Put -/
noncomputable def r82 : RFn := ⟨13, (.seq (.reg [] [⟨(some 1), none, .box (.t 0)⟩,
    ⟨(some 2), none, .mv (.c (.sl [] .nil))⟩])
  (.seq (.seq (.reg [] [⟨(some 3), none, .fa 0 (.t 1)⟩,
    ⟨(some 4), none, .load none (.t 3)⟩])
  (.cond (.t 4) (.seq (.reg [] [⟨(some 5), none, .bsl 1 1 (.v (.int .u8 0)) [(0, (.c (.v (.int .u8 6))))]⟩,
    ⟨(some 6), none, .load (some 17) (.t 1)⟩,
    ⟨(some 7), none, .call 182 [(.t 6)]⟩,
    ⟨(some 8), none, .app 1 1073741824 (.t 5) (.t 7)⟩,
    ⟨(some 2), none, .mv (.t 8)⟩])
  .ret)
  .skip))
  (.seq (.reg [] [⟨(some 9), none, .bsl 1 1 (.v (.int .u8 0)) [(0, (.c (.v (.int .u8 4))))]⟩,
    ⟨(some 10), none, .load (some 17) (.t 1)⟩,
    ⟨(some 11), none, .call 182 [(.t 10)]⟩,
    ⟨(some 12), none, .app 1 1073741824 (.t 9) (.t 11)⟩,
    ⟨(some 2), none, .mv (.t 12)⟩])
  .ret))), [.tmp 2]⟩
noncomputable def k82 : List (List Nat) := []
theorem t82 : toRFn C k82 82 = some r82 := by kernel_rfl
/-- linkboy/names.Label -/
noncomputable def r83 : RFn := ⟨27, (.seq (.reg [] [⟨(some 2), none, .mv (.c (.v (.bool false)))⟩])
  (.seq (.reg [] [⟨(some 4), none, .mv (.t 0)⟩,
    ⟨(some 5), none, .call 183 [(.t 4), (.c (.v (.string ⟨⟨[97, 98, 99, 100, 101, 102, 103, 104, 105, 106, 107, 108, 109, 110, 111, 112, 113, 114, 115, 116, 117, 118, 119, 120, 121, 122, 48, 49, 50, 51, 52, 53, 54, 55, 56, 57, 45]⟩⟩)))]⟩,
    ⟨(some 6), none, .bin .eql (.t 5) (.c (.v (.string ⟨⟨[]⟩⟩)))⟩,
    ⟨(some 7), none, .mv (.t 6)⟩,
    ⟨(some 8), (some (7, true)), .mv (.t 0)⟩,
    ⟨(some 9), (some (7, true)), .call 184 [(.t 8), (.c (.v (.string ⟨⟨[45]⟩⟩)))]⟩,
    ⟨(some 10), (some (7, true)), .un .not (.t 9)⟩,
    ⟨(some 11), none, .pick (.t 7) (.t 10) (.c (.v (.bool false)))⟩,
    ⟨(some 12), none, .mv (.t 11)⟩,
    ⟨(some 13), (some (12, true)), .mv (.t 0)⟩,
    ⟨(some 14), (some (12, true)), .call 185 [(.t 13), (.c (.v (.string ⟨⟨[45]⟩⟩)))]⟩,
    ⟨(some 15), (some (12, true)), .un .not (.t 14)⟩,
    ⟨(some 16), none, .pick (.t 12) (.t 15) (.c (.v (.bool false)))⟩,
    ⟨(some 3), none, .mv (.t 16)⟩])
  (.seq (.reg [] [⟨(some 17), none, .mv (.t 3)⟩,
    ⟨(some 18), none, .mv (.t 17)⟩,
    ⟨(some 19), (some (18, true)), .mv (.t 0)⟩,
    ⟨(some 20), (some (18, true)), .bin .neq (.t 19) (.c (.v (.string ⟨⟨[]⟩⟩)))⟩,
    ⟨(some 21), none, .pick (.t 18) (.t 20) (.c (.v (.bool false)))⟩,
    ⟨(some 22), none, .mv (.t 21)⟩,
    ⟨(some 23), (some (22, true)), .mv (.t 0)⟩,
    ⟨(some 24), (some (22, true)), .len .str (.t 23)⟩,
    ⟨(some 25), (some (22, true)), .bin .leq (.t 24) (.c (.v (.int .i64 15)))⟩,
    ⟨(some 26), none, .pick (.t 22) (.t 25) (.c (.v (.bool false)))⟩,
    ⟨(some 2), none, .mv (.t 26)⟩])
  .ret))), [.tmp 2]⟩
noncomputable def k83 : List (List Nat) := []
theorem t83 : toRFn C k83 83 = some r83 := by kernel_rfl
/-- linkboy/object.maybe -/
noncomputable def r84 : RFn := ⟨9, (.seq (.reg [] [⟨(some 2), none, .mv (.c (.v (.bool false)))⟩])
  (.seq (.reg [] [⟨(some 3), none, .mv (.t 0)⟩,
    ⟨(some 4), none, .bin .eql (.t 3) (.c (.v (.string ⟨⟨[]⟩⟩)))⟩,
    ⟨(some 5), none, .mv (.t 4)⟩,
    ⟨(some 6), (some (5, false)), .mv (.t 0)⟩,
    ⟨(some 7), (some (5, false)), .call 83 [(.t 6)]⟩,
    ⟨(some 8), none, .pick (.t 5) (.c (.v (.bool true))) (.t 7)⟩,
    ⟨(some 2), none, .mv (.t 8)⟩])
  .ret)), [.tmp 2]⟩
noncomputable def k84 : List (List Nat) := []
theorem t84 : toRFn C k84 84 = some r84 := by kernel_rfl
/-- linkboy/object.addrs -/
noncomputable def r85 : RFn := ⟨10, (.seq (.reg [] [⟨(some 2), none, .mv (.c (.v (.bool false)))⟩])
  (.seq (.reg [] [⟨(some 3), none, .mv (.t 0)⟩,
    ⟨(some 4), none, .len .sl (.t 3)⟩,
    ⟨(some 5), none, .bin .leq (.t 4) (.c (.v (.int .i64 3)))⟩,
    ⟨(some 6), none, .mv (.t 5)⟩,
    ⟨(some 7), (some (6, true)), .mv (.t 0)⟩,
    ⟨(some 8), (some (6, true)), .call 186 [(.t 7), (.c (.fn (.func 117) [] []))]⟩,
    ⟨(some 9), none, .pick (.t 6) (.t 8) (.c (.v (.bool false)))⟩,
    ⟨(some 2), none, .mv (.t 9)⟩])
  .ret)), [.tmp 2]⟩
noncomputable def k85 : List (List Nat) := []
theorem t85 : toRFn C k85 85 = some r85 := by kernel_rfl
/-- linkboy/event.known -/
noncomputable def r103 : RFn := ⟨9, (.seq (.reg [] [⟨(some 2), none, .mv (.c (.v (.bool false)))⟩])
  (.seq (.reg [] [⟨(some 3), none, .mv (.t 0)⟩,
    ⟨(some 4), none, .bin .geq (.t 3) (.c (.v (.int .i64 1)))⟩,
    ⟨(some 5), none, .mv (.t 4)⟩,
    ⟨(some 6), (some (5, true)), .mv (.t 0)⟩,
    ⟨(some 7), (some (5, true)), .bin .leq (.t 6) (.c (.v (.int .i64 9)))⟩,
    ⟨(some 8), none, .pick (.t 5) (.t 7) (.c (.v (.bool false)))⟩,
    ⟨(some 2), none, .mv (.t 8)⟩])
  .ret)), [.tmp 2]⟩
noncomputable def k103 : List (List Nat) := []
theorem t103 : toRFn C k103 103 = some r103 := by kernel_rfl
/-- linkboy/names.PutKey -/
noncomputable def r106 : RFn := ⟨14, (.seq (.reg [] [⟨(some 1), none, .box (.t 0)⟩,
    ⟨(some 2), none, .mv (.c (.sl [] .nil))⟩])
  (.seq (.seq (.reg [] [⟨(some 3), none, .load (some 2) (.t 1)⟩,
    ⟨(some 4), none, .call 119 [(.t 3)]⟩,
    ⟨(some 5), none, .un .not (.t 4)⟩])
  (.cond (.t 5) (.seq (.reg [] [⟨(some 2), none, .mv (.c (.sl [] .nil))⟩])
  .ret)
  .skip))
  (.seq (.reg [] [⟨(some 6), none, .fa 0 (.t 1)⟩,
    ⟨(some 7), none, .load none (.t 6)⟩,
    ⟨(some 8), none, .call 79 [(.t 7)]⟩,
    ⟨(some 9), none, .fa 1 (.t 1)⟩,
    ⟨(some 10), none, .load none (.t 9)⟩,
    ⟨(some 11), none, .call 79 [(.t 10)]⟩,
    ⟨(some 12), none, .bsl 1 2 (.sl [] .nil) [(0, (.t 8)), (1, (.t 11))]⟩,
    ⟨(some 13), none, .call 78 [(.t 12)]⟩,
    ⟨(some 2), none, .mv (.t 13)⟩])
  .ret))), [.tmp 2]⟩
noncomputable def k106 : List (List Nat) := []
theorem t106 : toRFn C k106 106 = some r106 := by kernel_rfl
/-- linkboy/octets.Flag -/
noncomputable def r107 : RFn := ⟨6, (.seq (.reg [] [⟨(some 2), none, .mv (.c (.sl [] .nil))⟩])
  (.seq (.seq (.reg [] [⟨(some 3), none, .mv (.t 0)⟩])
  (.cond (.t 3) (.seq (.reg [] [⟨(some 4), none, .bsl 1 1 (.v (.int .u8 0)) [(0, (.c (.v (.int .u8 1))))]⟩,
    ⟨(some 2), none, .mv (.t 4)⟩])
  .ret)
  .skip))
  (.seq (.reg [] [⟨(some 5), none, .bsl 1 1 (.v (.int .u8 0)) [(0, (.c (.v (.int .u8 0))))]⟩,
    ⟨(some 2), none, .mv (.t 5)⟩])
  .ret))), [.tmp 2]⟩
noncomputable def k107 : List (List Nat) := []
theorem t107 : toRFn C k107 107 = some r107 := by kernel_rfl
/-- linkboy/object.row[linkboy/object.Port] -/
noncomputable def r108 : RFn := ⟨25, (.seq (.reg [] [⟨(some 4), none, .mv (.c (.sl [] .nil))⟩])
  (.seq (.reg [] [⟨(some 8), none, .mv (.t 0)⟩,
    ⟨(some 9), none, .len .sl (.t 8)⟩,
    ⟨(some 10), none, .cint .u8 (.t 9)⟩,
    ⟨(some 11), none, .bsl 1 1 (.v (.int .u8 0)) [(0, (.t 10))]⟩,
    ⟨(some 5), none, .mv (.t 11)⟩])
  (.seq (.seq (.reg [] [⟨(some 12), none, .mv (.t 0)⟩,
    ⟨(some 13), none, .len .sl (.t 12)⟩,
    ⟨(some 14), none, .mv (.c (.v (.int .i64 0)))⟩])
  (.block 0 (.loop [1, 5, 12, 13, 14] (.seq (.reg [] [⟨(some 15), none, .bin .lss (.t 14) (.t 13)⟩])
  (.seq (.cond (.t 15) .skip
  (.exit 0))
  (.seq (.block 1 (.seq (.reg [] [⟨(some 16), none, .iaS 4 (.t 12) (.t 14)⟩,
    ⟨(some 17), none, .load (some 4) (.t 16)⟩,
    ⟨(some 7), none, .box (.c (.agg [(.v (.string ⟨⟨[]⟩⟩)), (.v (.int .i64 0)), (.v (.int .i64 0)), (.v (.int .i64 0))]))⟩,
    ⟨none, none, .store 4 (.t 7) (.t 17)⟩])
  (.reg [] [⟨(some 18), none, .mv (.t 5)⟩,
    ⟨(some 19), none, .mv (.t 1)⟩,
    ⟨(some 20), none, .load (some 4) (.t 7)⟩,
    ⟨(some 21), none, .callv (.t 19) [(.t 20)]⟩,
    ⟨(some 22), none, .app 1 1073741824 (.t 18) (.t 21)⟩,
    ⟨(some 5), none, .mv (.t 22)⟩])))
  (.reg [] [⟨(some 23), none, .bin .add (.t 14) (.c (.v (.int .i64 1)))⟩,
    ⟨(some 14), none, .mv (.t 23)⟩])))))))
  (.seq (.reg [] [⟨(some 24), none, .mv (.t 5)⟩,
    ⟨(some 4), none, .mv (.t 24)⟩])
  .ret)))), [.tmp 4]⟩
noncomputable def k108 : List (List Nat) := [[1, 5, 12, 13, 14]]
theorem t108 : toRFn C k108 108 = some r108 := by kernel_rfl
/-- linkboy/object.putPort -/
noncomputable def r109 : RFn := ⟨14, (.seq (.reg [] [⟨(some 1), none, .box (.t 0)⟩,
    ⟨(some 2), none, .mv (.c (.sl [] .nil))⟩])
  (.seq (.reg [] [⟨(some 3), none, .fa 0 (.t 1)⟩,
    ⟨(some 4), none, .load none (.t 3)⟩,
    ⟨(some 5), none, .call 79 [(.t 4)]⟩,
    ⟨(some 6), none, .fa 1 (.t 1)⟩,
    ⟨(some 7), none, .load none (.t 6)⟩,
    ⟨(some 8), none, .call 147 [(.t 7), (.c (.v (.int .i64 1)))]⟩,
    ⟨(some 9), none, .fa 2 (.t 1)⟩,
    ⟨(some 10), none, .load none (.t 9)⟩,
    ⟨(some 11), none, .call 147 [(.t 10), (.c (.v (.int .i64 2)))]⟩,
    ⟨(some 12), none, .bsl 1 3 (.sl [] .nil) [(0, (.t 5)), (1, (.t 8)), (2, (.t 11))]⟩,
    ⟨(some 13), none, .call 78 [(.t 12)]⟩,
    ⟨(some 2), none, .mv (.t 13)⟩])
  .ret)), [.tmp 2]⟩
noncomputable def k109 : List (List Nat) := []
theorem t109 : toRFn C k109 109 = some r109 := by kernel_rfl
/-- linkboy/object.row[linkboy/object.Endpoint] -/
noncomputable def r110 : RFn := ⟨25, (.seq (.reg [] [⟨(some 4), none, .mv (.c (.sl [] .nil))⟩])
  (.seq (.reg [] [⟨(some 8), none, .mv (.t 0)⟩,
    ⟨(some 9), none, .len .sl (.t 8)⟩,
    ⟨(some 10), none, .cint .u8 (.t 9)⟩,
    ⟨(some 11), none, .bsl 1 1 (.v (.int .u8 0)) [(0, (.t 10))]⟩,
    ⟨(some 5), none, .mv (.t 11)⟩])
  (.seq (.seq (.reg [] [⟨(some 12), none, .mv (.t 0)⟩,
    ⟨(some 13), none, .len .sl (.t 12)⟩,
    ⟨(some 14), none, .mv (.c (.v (.int .i64 0)))⟩])
  (.block 0 (.loop [1, 5, 12, 13, 14] (.seq (.reg [] [⟨(some 15), none, .bin .lss (.t 14) (.t 13)⟩])
  (.seq (.cond (.t 15) .skip
  (.exit 0))
  (.seq (.block 1 (.seq (.reg [] [⟨(some 16), none, .iaS 22 (.t 12) (.t 14)⟩,
    ⟨(some 17), none, .load (some 22) (.t 16)⟩,
    ⟨(some 7), none, .box (.c (.agg [(.v (.bool false)), (.v (.int .u8 0)), (.v (.int .u8 0)), (.v (.int .u8 0)), (.v (.int .u8 0)), (.v (.int .u8 0)), (.v (.int .u8 0)), (.v (.int .u8 0)), (.v (.int .u8 0)), (.v (.int .u8 0)), (.v (.int .u8 0)), (.v (.int .u8 0)), (.v (.int .u8 0)), (.v (.int .u8 0)), (.v (.int .u8 0)), (.v (.int .u8 0)), (.v (.int .u8 0)), (.v (.string ⟨⟨[]⟩⟩)), (.v (.bool false)), (.v (.bool false)), (.v (.bool false)), (.sl [] .nil)]))⟩,
    ⟨none, none, .store 22 (.t 7) (.t 17)⟩])
  (.reg [] [⟨(some 18), none, .mv (.t 5)⟩,
    ⟨(some 19), none, .mv (.t 1)⟩,
    ⟨(some 20), none, .load (some 22) (.t 7)⟩,
    ⟨(some 21), none, .callv (.t 19) [(.t 20)]⟩,
    ⟨(some 22), none, .app 1 1073741824 (.t 18) (.t 21)⟩,
    ⟨(some 5), none, .mv (.t 22)⟩])))
  (.reg [] [⟨(some 23), none, .bin .add (.t 14) (.c (.v (.int .i64 1)))⟩,
    ⟨(some 14), none, .mv (.t 23)⟩])))))))
  (.seq (.reg [] [⟨(some 24), none, .mv (.t 5)⟩,
    ⟨(some 4), none, .mv (.t 24)⟩])
  .ret)))), [.tmp 4]⟩
noncomputable def k110 : List (List Nat) := [[1, 5, 12, 13, 14]]
theorem t110 : toRFn C k110 110 = some r110 := by kernel_rfl
/-- linkboy/object.putEndpoint -/
noncomputable def r111 : RFn := ⟨27, (.seq (.reg [] [⟨(some 1), none, .box (.t 0)⟩,
    ⟨(some 2), none, .mv (.c (.sl [] .nil))⟩])
  (.seq (.reg [] [⟨(some 4), none, .fa 18 (.t 1)⟩,
    ⟨(some 5), none, .load none (.t 4)⟩,
    ⟨(some 6), none, .call 107 [(.t 5)]⟩,
    ⟨(some 7), none, .fa 19 (.t 1)⟩,
    ⟨(some 8), none, .load none (.t 7)⟩,
    ⟨(some 9), none, .call 107 [(.t 8)]⟩,
    ⟨(some 10), none, .fa 20 (.t 1)⟩,
    ⟨(some 11), none, .load none (.t 10)⟩,
    ⟨(some 12), none, .call 107 [(.t 11)]⟩,
    ⟨(some 13), none, .bsl 1 3 (.sl [] .nil) [(0, (.t 6)), (1, (.t 9)), (2, (.t 12))]⟩,
    ⟨(some 14), none, .call 78 [(.t 13)]⟩,
    ⟨(some 3), none, .mv (.t 14)⟩])
  (.seq (.reg [] [⟨(some 15), none, .fa 0 (.t 1)⟩,
    ⟨(some 16), none, .load (some 17) (.t 15)⟩,
    ⟨(some 17), none, .call 82 [(.t 16)]⟩,
    ⟨(some 18), none, .fa 17 (.t 1)⟩,
    ⟨(some 19), none, .load none (.t 18)⟩,
    ⟨(some 20), none, .call 80 [(.t 19)]⟩,
    ⟨(some 21), none, .mv (.t 3)⟩,
    ⟨(some 22), none, .fa 21 (.t 1)⟩,
    ⟨(some 23), none, .load none (.t 22)⟩,
    ⟨(some 24), none, .call 191 [(.t 23), (.c (.fn (.func 79) [] []))]⟩,
    ⟨(some 25), none, .bsl 1 4 (.sl [] .nil) [(0, (.t 17)), (1, (.t 20)), (2, (.t 21)), (3, (.t 24))]⟩,
    ⟨(some 26), none, .call 78 [(.t 25)]⟩,
    ⟨(some 2), none, .mv (.t 26)⟩])
  .ret))), [.tmp 2]⟩
noncomputable def k111 : List (List Nat) := []
theorem t111 : toRFn C k111 111 = some r111 := by kernel_rfl
/-- linkboy/object.every[linkboy/object.Port] -/
noncomputable def r112 : RFn := ⟨9, (.seq (.reg [] [⟨(some 3), none, .box (.t 1)⟩,
    ⟨(some 4), none, .mv (.c (.v (.bool false)))⟩])
  (.seq (.reg [] [⟨(some 5), none, .mv (.t 0)⟩,
    ⟨(some 6), none, .fn (.func 193) [] [(.t 3)]⟩,
    ⟨(some 7), none, .call 192 [(.t 5), (.t 6)]⟩,
    ⟨(some 8), none, .un .not (.t 7)⟩,
    ⟨(some 4), none, .mv (.t 8)⟩])
  .ret)), [.tmp 4]⟩
noncomputable def k112 : List (List Nat) := []
theorem t112 : toRFn C k112 112 = some r112 := by kernel_rfl
/-- linkboy/object.RightSlice$1 -/
noncomputable def r113 : RFn := ⟨10, (.seq (.reg [] [⟨(some 1), none, .box (.t 0)⟩,
    ⟨(some 2), none, .mv (.c (.v (.bool false)))⟩])
  (.seq (.reg [] [⟨(some 3), none, .load (some 4) (.t 1)⟩,
    ⟨(some 4), none, .call 114 [(.t 3)]⟩,
    ⟨(some 5), none, .mv (.t 4)⟩,
    ⟨(some 6), (some (5, true)), .fa 3 (.t 1)⟩,
    ⟨(some 7), (some (5, true)), .load none (.t 6)⟩,
    ⟨(some 8), (some (5, true)), .bin .eql (.t 7) (.c (.v (.int .i64 0)))⟩,
    ⟨(some 9), none, .pick (.t 5) (.t 8) (.c (.v (.bool false)))⟩,
    ⟨(some 2), none, .mv (.t 9)⟩])
  .ret)), [.tmp 2]⟩
noncomputable def k113 : List (List Nat) := []
theorem t113 : toRFn C k113 113 = some r113 := by kernel_rfl
/-- linkboy/object.plain -/
noncomputable def r114 : RFn := ⟨16, (.seq (.reg [] [⟨(some 1), none, .box (.t 0)⟩,
    ⟨(some 2), none, .mv (.c (.v (.bool false)))⟩])
  (.seq (.reg [] [⟨(some 3), none, .fa 0 (.t 1)⟩,
    ⟨(some 4), none, .load none (.t 3)⟩,
    ⟨(some 5), none, .call 83 [(.t 4)]⟩,
    ⟨(some 6), none, .mv (.t 5)⟩,
    ⟨(some 7), (some (6, true)), .fa 1 (.t 1)⟩,
    ⟨(some 8), (some (6, true)), .load none (.t 7)⟩,
    ⟨(some 9), (some (6, true)), .call 194 [(.t 8)]⟩,
    ⟨(some 10), none, .pick (.t 6) (.t 9) (.c (.v (.bool false)))⟩,
    ⟨(some 11), none, .mv (.t 10)⟩,
    ⟨(some 12), (some (11, true)), .fa 2 (.t 1)⟩,
    ⟨(some 13), (some (11, true)), .load none (.t 12)⟩,
    ⟨(some 14), (some (11, true)), .call 195 [(.t 13)]⟩,
    ⟨(some 15), none, .pick (.t 11) (.t 14) (.c (.v (.bool false)))⟩,
    ⟨(some 2), none, .mv (.t 15)⟩])
  .ret)), [.tmp 2]⟩
noncomputable def k114 : List (List Nat) := []
theorem t114 : toRFn C k114 114 = some r114 := by kernel_rfl
/-- linkboy/object.every[linkboy/object.Endpoint] -/
noncomputable def r115 : RFn := ⟨9, (.seq (.reg [] [⟨(some 3), none, .box (.t 1)⟩,
    ⟨(some 4), none, .mv (.c (.v (.bool false)))⟩])
  (.seq (.reg [] [⟨(some 5), none, .mv (.t 0)⟩,
    ⟨(some 6), none, .fn (.func 197) [] [(.t 3)]⟩,
    ⟨(some 7), none, .call 196 [(.t 5), (.t 6)]⟩,
    ⟨(some 8), none, .un .not (.t 7)⟩,
    ⟨(some 4), none, .mv (.t 8)⟩])
  .ret)), [.tmp 4]⟩
noncomputable def k115 : List (List Nat) := []
theorem t115 : toRFn C k115 115 = some r115 := by kernel_rfl
/-- linkboy/object.RightSlice$2 -/
noncomputable def r116 : RFn := ⟨25, (.seq (.reg [] [⟨(some 2), none, .box (.t 0)⟩,
    ⟨(some 3), none, .mv (.c (.v (.bool false)))⟩])
  (.seq (.reg [] [⟨(some 4), none, .fa 0 (.t 2)⟩,
    ⟨(some 5), none, .load (some 17) (.t 4)⟩,
    ⟨(some 6), none, .call 117 [(.t 5)]⟩,
    ⟨(some 7), none, .mv (.t 6)⟩,
    ⟨(some 8), (some (7, true)), .fa 0 (.t 2)⟩,
    ⟨(some 9), (some (7, true)), .fa 0 (.t 8)⟩,
    ⟨(some 10), (some (7, true)), .load none (.t 9)⟩,
    ⟨(some 11), (some (7, true)), .fa 3 (.t 1)⟩,
    ⟨(some 12), (some (7, true)), .load none (.t 11)⟩,
    ⟨(some 13), (some (7, true)), .binB .eql (.t 10) (.t 12)⟩,
    ⟨(some 14), none, .pick (.t 7) (.t 13) (.c (.v (.bool false)))⟩,
    ⟨(some 15), none, .mv (.t 14)⟩,
    ⟨(some 16), (some (15, true)), .fa 17 (.t 2)⟩,
    ⟨(some 17), (some (15, true)), .load none (.t 16)⟩,
    ⟨(some 18), (some (15, true)), .call 84 [(.t 17)]⟩,
    ⟨(some 19), none, .pick (.t 15) (.t 18) (.c (.v (.bool false)))⟩,
    ⟨(some 20), none, .mv (.t 19)⟩,
    ⟨(some 21), (some (20, true)), .fa 21 (.t 2)⟩,
    ⟨(some 22), (some (20, true)), .load none (.t 21)⟩,
    ⟨(some 23), (some (20, true)), .call 118 [(.t 22)]⟩,
    ⟨(some 24), none, .pick (.t 20) (.t 23) (.c (.v (.bool false)))⟩,
    ⟨(some 3), none, .mv (.t 24)⟩])
  .ret)), [.tmp 3]⟩
noncomputable def k116 : List (List Nat) := []
theorem t116 : toRFn C k116 116 = some r116 := by kernel_rfl
/-- linkboy/addr.Right -/
noncomputable def r117 : RFn := ⟨12, (.seq (.reg [] [⟨(some 1), none, .box (.t 0)⟩,
    ⟨(some 2), none, .mv (.c (.v (.bool false)))⟩])
  (.seq (.reg [] [⟨(some 3), none, .fa 0 (.t 1)⟩,
    ⟨(some 4), none, .load none (.t 3)⟩,
    ⟨(some 5), none, .mv (.t 4)⟩,
    ⟨(some 6), (some (5, false)), .fa 1 (.t 1)⟩,
    ⟨(some 7), (some (5, false)), .slA 1 16 (.t 6) (some (.c (.v (.int .i64 4)))) none none⟩,
    ⟨(some 8), (some (5, false)), .call 198 [(.t 7), (.c (.v (.string ⟨⟨[0]⟩⟩)))]⟩,
    ⟨(some 9), (some (5, false)), .len .sl (.t 8)⟩,
    ⟨(some 10), (some (5, false)), .bin .eql (.t 9) (.c (.v (.int .i64 0)))⟩,
    ⟨(some 11), none, .pick (.t 5) (.c (.v (.bool true))) (.t 10)⟩,
    ⟨(some 2), none, .mv (.t 11)⟩])
  .ret)), [.tmp 2]⟩
noncomputable def k117 : List (List Nat) := []
theorem t117 : toRFn C k117 117 = some r117 := by kernel_rfl
/-- linkboy/object.zoned -/
noncomputable def r118 : RFn := ⟨18, (.seq (.reg [] [⟨(some 2), none, .mv (.c (.v (.bool false)))⟩])
  (.seq (.reg [] [⟨(some 3), none, .mv (.t 0)⟩,
    ⟨(some 4), none, .len .sl (.t 3)⟩,
    ⟨(some 5), none, .bin .leq (.t 4) (.c (.v (.int .i64 3)))⟩,
    ⟨(some 6), none, .mv (.t 5)⟩,
    ⟨(some 7), (some (6, true)), .mv (.t 0)⟩,
    ⟨(some 8), (some (6, true)), .call 199 [(.t 7), (.c (.fn (.func 83) [] []))]⟩,
    ⟨(some 9), none, .pick (.t 6) (.t 8) (.c (.v (.bool false)))⟩,
    ⟨(some 10), none, .mv (.t 9)⟩,
    ⟨(some 11), (some (10, true)), .mv (.t 0)⟩,
    ⟨(some 12), (some (10, true)), .call 200 [(.t 11)]⟩,
    ⟨(some 13), none, .pick (.t 10) (.t 12) (.c (.v (.bool false)))⟩,
    ⟨(some 14), none, .mv (.t 13)⟩,
    ⟨(some 15), (some (14, true)), .mv (.t 0)⟩,
    ⟨(some 16), (some (14, true)), .call 201 [(.t 15), (.c (.fn (.func 202) [] []))]⟩,
    ⟨(some 17), none, .pick (.t 14) (.t 16) (.c (.v (.bool false)))⟩,
    ⟨(some 2), none, .mv (.t 17)⟩])
  .ret)), [.tmp 2]⟩
noncomputable def k118 : List (List Nat) := []
theorem t118 : toRFn C k118 118 = some r118 := by kernel_rfl
/-- linkboy/names.Key -/
noncomputable def r119 : RFn := ⟨11, (.seq (.reg [] [⟨(some 1), none, .box (.t 0)⟩,
    ⟨(some 2), none, .mv (.c (.v (.bool false)))⟩])
  (.seq (.reg [] [⟨(some 3), none, .fa 0 (.t 1)⟩,
    ⟨(some 4), none, .load none (.t 3)⟩,
    ⟨(some 5), none, .call 83 [(.t 4)]⟩,
    ⟨(some 6), none, .mv (.t 5)⟩,
    ⟨(some 7), (some (6, true)), .fa 1 (.t 1)⟩,
    ⟨(some 8), (some (6, true)), .load none (.t 7)⟩,
    ⟨(some 9), (some (6, true)), .call 83 [(.t 8)]⟩,
    ⟨(some 10), none, .pick (.t 6) (.t 9) (.c (.v (.bool false)))⟩,
    ⟨(some 2), none, .mv (.t 10)⟩])
  .ret)), [.tmp 2]⟩
noncomputable def k119 : List (List Nat) := []
theorem t119 : toRFn C k119 119 = some r119 := by kernel_rfl
/-- linkboy/object.named -/
noncomputable def r120 : RFn := ⟨10, (.seq (.reg [] [⟨(some 2), none, .mv (.c (.v (.bool false)))⟩])
  (.seq (.reg [] [⟨(some 3), none, .mv (.t 0)⟩,
    ⟨(some 4), none, .len .sl (.t 3)⟩,
    ⟨(some 5), none, .bin .leq (.t 4) (.c (.v (.int .i64 4)))⟩,
    ⟨(some 6), none, .mv (.t 5)⟩,
    ⟨(some 7), (some (6, true)), .mv (.t 0)⟩,
    ⟨(some 8), (some (6, true)), .call 203 [(.t 7), (.c (.fn (.func 204) [] []))]⟩,
    ⟨(some 9), none, .pick (.t 6) (.t 8) (.c (.v (.bool false)))⟩,
    ⟨(some 2), none, .mv (.t 9)⟩])
  .ret)), [.tmp 2]⟩
noncomputable def k120 : List (List Nat) := []
theorem t120 : toRFn C k120 120 = some r120 := by kernel_rfl
/-- linkboy/object.row[linkboy/api.Cidr] -/
noncomputable def r144 : RFn := ⟨25, (.seq (.reg [] [⟨(some 4), none, .mv (.c (.sl [] .nil))⟩])
  (.seq (.reg [] [⟨(some 8), none, .mv (.t 0)⟩,
    ⟨(some 9), none, .len .sl (.t 8)⟩,
    ⟨(some 10), none, .cint .u8 (.t 9)⟩,
    ⟨(some 11), none, .bsl 1 1 (.v (.int .u8 0)) [(0, (.t 10))]⟩,
    ⟨(some 5), none, .mv (.t 11)⟩])
  (.seq (.seq (.reg [] [⟨(some 12), none, .mv (.t 0)⟩,
    ⟨(some 13), none, .len .sl (.t 12)⟩,
    ⟨(some 14), none, .mv (.c (.v (.int .i64 0)))⟩])
  (.block 0 (.loop [1, 5, 12, 13, 14] (.seq (.reg [] [⟨(some 15), none, .bin .lss (.t 14) (.t 13)⟩])
  (.seq (.cond (.t 15) .skip
  (.exit 0))
  (.seq (.block 1 (.seq (.reg [] [⟨(some 16), none, .iaS 18 (.t 12) (.t 14)⟩,
    ⟨(some 17), none, .load (some 18) (.t 16)⟩,
    ⟨(some 7), none, .box (.c (.agg [(.v (.bool false)), (.v (.int .u8 0)), (.v (.int .u8 0)), (.v (.int .u8 0)), (.v (.int .u8 0)), (.v (.int .u8 0)), (.v (.int .u8 0)), (.v (.int .u8 0)), (.v (.int .u8 0)), (.v (.int .u8 0)), (.v (.int .u8 0)), (.v (.int .u8 0)), (.v (.int .u8 0)), (.v (.int .u8 0)), (.v (.int .u8 0)), (.v (.int .u8 0)), (.v (.int .u8 0)), (.v (.int .i64 0))]))⟩,
    ⟨none, none, .store 18 (.t 7) (.t 17)⟩])
  (.reg [] [⟨(some 18), none, .mv (.t 5)⟩,
    ⟨(some 19), none, .mv (.t 1)⟩,
    ⟨(some 20), none, .load (some 18) (.t 7)⟩,
    ⟨(some 21), none, .callv (.t 19) [(.t 20)]⟩,
    ⟨(some 22), none, .app 1 1073741824 (.t 18) (.t 21)⟩,
    ⟨(some 5), none, .mv (.t 22)⟩])))
  (.reg [] [⟨(some 23), none, .bin .add (.t 14) (.c (.v (.int .i64 1)))⟩,
    ⟨(some 14), none, .mv (.t 23)⟩])))))))
  (.seq (.reg [] [⟨(some 24), none, .mv (.t 5)⟩,
    ⟨(some 4), none, .mv (.t 24)⟩])
  .ret)))), [.tmp 4]⟩
noncomputable def k144 : List (List Nat) := [[1, 5, 12, 13, 14]]
theorem t144 : toRFn C k144 144 = some r144 := by kernel_rfl
/-- linkboy/cidr.Put -/
noncomputable def r145 : RFn := ⟨11, (.seq (.reg [] [⟨(some 1), none, .box (.t 0)⟩,
    ⟨(some 2), none, .mv (.c (.sl [] .nil))⟩])
  (.seq (.reg [] [⟨(some 3), none, .fa 0 (.t 1)⟩,
    ⟨(some 4), none, .load (some 17) (.t 3)⟩,
    ⟨(some 5), none, .call 82 [(.t 4)]⟩,
    ⟨(some 6), none, .fa 17 (.t 1)⟩,
    ⟨(some 7), none, .load none (.t 6)⟩,
    ⟨(some 8), none, .cint .u8 (.t 7)⟩,
    ⟨(some 9), none, .bsl 1 1 (.v (.int .u8 0)) [(0, (.t 8))]⟩,
    ⟨(some 10), none, .app 1 1073741824 (.t 5) (.t 9)⟩,
    ⟨(some 2), none, .mv (.t 10)⟩])
  .ret)), [.tmp 2]⟩
noncomputable def k145 : List (List Nat) := []
theorem t145 : toRFn C k145 145 = some r145 := by kernel_rfl
/-- linkboy/object.putOuter -/
noncomputable def r146 : RFn := ⟨9, (.seq (.reg [] [⟨(some 1), none, .box (.t 0)⟩,
    ⟨(some 2), none, .mv (.c (.sl [] .nil))⟩])
  (.seq (.reg [] [⟨(some 3), none, .load (some 4) (.t 1)⟩,
    ⟨(some 4), none, .call 109 [(.t 3)]⟩,
    ⟨(some 5), none, .fa 3 (.t 1)⟩,
    ⟨(some 6), none, .load none (.t 5)⟩,
    ⟨(some 7), none, .call 147 [(.t 6), (.c (.v (.int .i64 2)))]⟩,
    ⟨(some 8), none, .app 1 1073741824 (.t 4) (.t 7)⟩,
    ⟨(some 2), none, .mv (.t 8)⟩])
  .ret)), [.tmp 2]⟩
noncomputable def k146 : List (List Nat) := []
theorem t146 : toRFn C k146 146 = some r146 := by kernel_rfl
/-- linkboy/object.number -/
noncomputable def r147 : RFn := ⟨16, (.seq (.reg [] [⟨(some 4), none, .mv (.c (.sl [] .nil))⟩])
  (.seq (.reg [] [⟨(some 8), none, .mv (.t 0)⟩,
    ⟨(some 9), none, .mv (.t 1)⟩,
    ⟨(some 10), none, .call 165 [(.t 8), (.t 9)]⟩,
    ⟨(some 7), none, .mv (.t 10)⟩,
    ⟨(some 11), none, .ext (.t 7) 0⟩,
    ⟨(some 12), none, .ext (.t 7) 1⟩,
    ⟨(some 5), none, .mv (.t 11)⟩,
    ⟨(some 6), none, .mv (.t 12)⟩])
  (.seq (.seq (.reg [] [⟨(some 13), none, .mv (.t 6)⟩,
    ⟨(some 14), none, .eqI true true (.t 13) (.c (.v .nilIface))⟩])
  (.cond (.t 14) (.seq (.reg [] [⟨(some 4), none, .mv (.c (.sl [] .nil))⟩])
  .ret)
  .skip))
  (.seq (.reg [] [⟨(some 15), none, .mv (.t 5)⟩,
    ⟨(some 4), none, .mv (.t 15)⟩])
  .ret)))), [.tmp 4]⟩
noncomputable def k147 : List (List Nat) := []
theorem t147 : toRFn C k147 147 = some r147 := by kernel_rfl
/-- linkboy/object.every[[]linkboy/api.Addr] -/
noncomputable def r148 : RFn := ⟨9, (.seq (.reg [] [⟨(some 3), none, .box (.t 1)⟩,
    ⟨(some 4), none, .mv (.c (.v (.bool false)))⟩])
  (.seq (.reg [] [⟨(some 5), none, .mv (.t 0)⟩,
    ⟨(some 6), none, .fn (.func 209) [] [(.t 3)]⟩,
    ⟨(some 7), none, .call 208 [(.t 5), (.t 6)]⟩,
    ⟨(some 8), none, .un .not (.t 7)⟩,
    ⟨(some 4), none, .mv (.t 8)⟩])
  .ret)), [.tmp 4]⟩
noncomputable def k148 : List (List Nat) := []
theorem t148 : toRFn C k148 148 = some r148 := by kernel_rfl
/-- linkboy/object.every[linkboy/api.Cidr] -/
noncomputable def r149 : RFn := ⟨9, (.seq (.reg [] [⟨(some 3), none, .box (.t 1)⟩,
    ⟨(some 4), none, .mv (.c (.v (.bool false)))⟩])
  (.seq (.reg [] [⟨(some 5), none, .mv (.t 0)⟩,
    ⟨(some 6), none, .fn (.func 211) [] [(.t 3)]⟩,
    ⟨(some 7), none, .call 210 [(.t 5), (.t 6)]⟩,
    ⟨(some 8), none, .un .not (.t 7)⟩,
    ⟨(some 4), none, .mv (.t 8)⟩])
  .ret)), [.tmp 4]⟩
noncomputable def k149 : List (List Nat) := []
theorem t149 : toRFn C k149 149 = some r149 := by kernel_rfl
/-- linkboy/cidr.Right -/
noncomputable def r150 : RFn := ⟨23, (.seq (.reg [] [⟨(some 1), none, .box (.t 0)⟩,
    ⟨(some 2), none, .mv (.c (.v (.bool false)))⟩])
  (.seq (.reg [] [⟨(some 3), none, .fa 0 (.t 1)⟩,
    ⟨(some 4), none, .load (some 17) (.t 3)⟩,
    ⟨(some 5), none, .call 117 [(.t 4)]⟩,
    ⟨(some 6), none, .mv (.t 5)⟩,
    ⟨(some 7), (some (6, true)), .fa 0 (.t 1)⟩,
    ⟨(some 8), (some (6, true)), .load (some 17) (.t 7)⟩,
    ⟨(some 9), (some (6, true)), .fa 17 (.t 1)⟩,
    ⟨(some 10), (some (6, true)), .load none (.t 9)⟩,
    ⟨(some 11), (some (6, true)), .call 212 [(.t 8), (.t 10)]⟩,
    ⟨(some 12), none, .pick (.t 6) (.t 11) (.c (.v (.bool false)))⟩,
    ⟨(some 13), none, .mv (.t 12)⟩,
    ⟨(some 14), (some (13, true)), .fa 0 (.t 1)⟩,
    ⟨(some 15), (some (13, true)), .load (some 17) (.t 14)⟩,
    ⟨(some 16), (some (13, true)), .fa 17 (.t 1)⟩,
    ⟨(some 17), (some (13, true)), .load none (.t 16)⟩,
    ⟨(some 18), (some (13, true)), .call 213 [(.t 15), (.t 17)]⟩,
    ⟨(some 19), (some (13, true)), .fa 0 (.t 1)⟩,
    ⟨(some 20), (some (13, true)), .load (some 17) (.t 19)⟩,
    ⟨(some 21), (some (13, true)), .eqA false [.bool, .int, .int, .int, .int, .int, .int, .int, .int, .int, .int, .int, .int, .int, .int, .int, .int] (.t 18) (.t 20)⟩,
    ⟨(some 22), none, .pick (.t 13) (.t 21) (.c (.v (.bool false)))⟩,
    ⟨(some 2), none, .mv (.t 22)⟩])
  .ret)), [.tmp 2]⟩
noncomputable def k150 : List (List Nat) := []
theorem t150 : toRFn C k150 150 = some r150 := by kernel_rfl
/-- linkboy/object.ported -/
noncomputable def r151 : RFn := ⟨28, (.seq (.reg [] [⟨(some 1), none, .box (.t 0)⟩,
    ⟨(some 2), none, .mv (.c (.v (.bool false)))⟩])
  (.seq (.reg [] [⟨(some 4), none, .fa 7 (.t 1)⟩,
    ⟨(some 5), none, .load none (.t 4)⟩,
    ⟨(some 6), none, .call 214 [(.t 5), (.c (.fn (.func 215) [] []))]⟩,
    ⟨(some 3), none, .mv (.t 6)⟩])
  (.seq (.reg [] [⟨(some 7), none, .fa 7 (.t 1)⟩,
    ⟨(some 8), none, .load none (.t 7)⟩,
    ⟨(some 9), none, .len .sl (.t 8)⟩,
    ⟨(some 10), none, .bin .gtr (.t 9) (.c (.v (.int .i64 0)))⟩,
    ⟨(some 11), none, .mv (.t 10)⟩,
    ⟨(some 12), (some (11, true)), .fa 7 (.t 1)⟩,
    ⟨(some 13), (some (11, true)), .load none (.t 12)⟩,
    ⟨(some 14), (some (11, true)), .call 112 [(.t 13), (.c (.fn (.func 114) [] []))]⟩,
    ⟨(some 15), none, .pick (.t 11) (.t 14) (.c (.v (.bool false)))⟩,
    ⟨(some 16), none, .mv (.t 15)⟩,
    ⟨(some 17), (some (16, true)), .fa 7 (.t 1)⟩,
    ⟨(some 18), (some (16, true)), .load none (.t 17)⟩,
    ⟨(some 19), (some (16, true)), .call 120 [(.t 18)]⟩,
    ⟨(some 20), none, .pick (.t 16) (.t 19) (.c (.v (.bool false)))⟩,
    ⟨(some 21), none, .mv (.t 20)⟩,
    ⟨(some 22), (some (21, true)), .mv (.t 3)⟩,
    ⟨(some 23), none, .pick (.t 21) (.t 22) (.c (.v (.bool false)))⟩,
    ⟨(some 24), none, .mv (.t 23)⟩,
    ⟨(some 25), (some (24, true)), .load (some 13) (.t 1)⟩,
    ⟨(some 26), (some (24, true)), .call 216 [(.t 25)]⟩,
    ⟨(some 27), none, .pick (.t 24) (.t 26) (.c (.v (.bool false)))⟩,
    ⟨(some 2), none, .mv (.t 27)⟩])
  .ret))), [.tmp 2]⟩
noncomputable def k151 : List (List Nat) := []
theorem t151 : toRFn C k151 151 = some r151 := by kernel_rfl
/-- linkboy/object.sticks -/
noncomputable def r152 : RFn := ⟨16, (.seq (.reg [] [⟨(some 1), none, .box (.t 0)⟩,
    ⟨(some 2), none, .mv (.c (.v (.bool false)))⟩])
  (.seq (.seq (.reg [] [⟨(some 3), none, .fa 10 (.t 1)⟩,
    ⟨(some 4), none, .load none (.t 3)⟩])
  (.cond (.t 4) (.seq (.reg [] [⟨(some 5), none, .fa 11 (.t 1)⟩,
    ⟨(some 6), none, .load none (.t 5)⟩,
    ⟨(some 7), none, .bin .geq (.t 6) (.c (.v (.int .i64 1)))⟩,
    ⟨(some 8), none, .mv (.t 7)⟩,
    ⟨(some 9), (some (8, true)), .fa 11 (.t 1)⟩,
    ⟨(some 10), (some (8, true)), .load none (.t 9)⟩,
    ⟨(some 11), (some (8, true)), .bin .leq (.t 10) (.c (.v (.int .i64 1099511627776)))⟩,
    ⟨(some 12), none, .pick (.t 8) (.t 11) (.c (.v (.bool false)))⟩,
    ⟨(some 2), none, .mv (.t 12)⟩])
  .ret)
  .skip))
  (.seq (.reg [] [⟨(some 13), none, .fa 11 (.t 1)⟩,
    ⟨(some 14), none, .load none (.t 13)⟩,
    ⟨(some 15), none, .bin .eql (.t 14) (.c (.v (.int .i64 0)))⟩,
    ⟨(some 2), none, .mv (.t 15)⟩])
  .ret))), [.tmp 2]⟩
noncomputable def k152 : List (List Nat) := []
theorem t152 : toRFn C k152 152 = some r152 := by kernel_rfl
/-- linkboy/event.versions -/
noncomputable def r163 : RFn := ⟨9, (.seq (.reg [] [⟨(some 2), none, .mv (.c (.v (.bool false)))⟩])
  (.seq (.reg [] [⟨(some 3), none, .mv (.t 0)⟩,
    ⟨(some 4), none, .bin .geq (.t 3) (.c (.v (.int .i64 1)))⟩,
    ⟨(some 5), none, .mv (.t 4)⟩,
    ⟨(some 6), (some (5, true)), .mv (.t 0)⟩,
    ⟨(some 7), (some (5, true)), .bin .leq (.t 6) (.c (.v (.int .i64 1099511627776)))⟩,
    ⟨(some 8), none, .pick (.t 5) (.t 7) (.c (.v (.bool false)))⟩,
    ⟨(some 2), none, .mv (.t 8)⟩])
  .ret)), [.tmp 2]⟩
noncomputable def k163 : List (List Nat) := []
theorem t163 : toRFn C k163 163 = some r163 := by kernel_rfl
/-- linkboy/event.content -/
noncomputable def r164 : RFn := ⟨31, (.seq (.reg [] [⟨(some 1), none, .box (.t 0)⟩,
    ⟨(some 2), none, .mv (.c (.v (.bool false)))⟩])
  (.seq (.seq (.reg [] [⟨(some 3), none, .fa 0 (.t 1)⟩,
    ⟨(some 4), none, .load none (.t 3)⟩])
  (.block 0 (.seq (.reg [] [⟨(some 6), none, .bin .eql (.t 4) (.c (.v (.int .i64 1)))⟩,
    ⟨(some 5), none, .mv (.t 6)⟩])
  (.cond (.t 5) (.seq (.reg [] [⟨(some 7), none, .fa 2 (.t 1)⟩,
    ⟨(some 8), none, .load (some 13) (.t 7)⟩,
    ⟨(some 9), none, .call 50 [(.t 8)]⟩,
    ⟨(some 2), none, .mv (.t 9)⟩])
  .ret)
  (.seq (.reg [] [⟨(some 11), none, .bin .eql (.t 4) (.c (.v (.int .i64 2)))⟩,
    ⟨(some 10), none, .mv (.t 11)⟩])
  (.cond (.t 10) (.seq (.reg [] [⟨(some 12), none, .fa 15 (.t 1)⟩,
    ⟨(some 13), none, .load (some 6) (.t 12)⟩,
    ⟨(some 14), none, .call 40 [(.t 13)]⟩,
    ⟨(some 2), none, .mv (.t 14)⟩])
  .ret)
  (.seq (.reg [] [⟨(some 16), none, .bin .eql (.t 4) (.c (.v (.int .i64 3)))⟩,
    ⟨(some 15), none, .mv (.t 16)⟩])
  (.cond (.t 15) (.seq (.reg [] [⟨(some 17), none, .fa 21 (.t 1)⟩,
    ⟨(some 18), none, .load (some 3) (.t 17)⟩,
    ⟨(some 19), none, .call 24 [(.t 18)]⟩,
    ⟨(some 2), none, .mv (.t 19)⟩])
  .ret)
  (.seq (.seq (.reg [] [⟨(some 21), none, .bin .eql (.t 4) (.c (.v (.int .i64 4)))⟩,
    ⟨(some 20), none, .mv (.t 21)⟩])
  (.cond (.t 20) .skip
  (.reg [] [⟨(some 22), none, .bin .eql (.t 4) (.c (.v (.int .i64 5)))⟩,
    ⟨(some 20), none, .mv (.t 22)⟩])))
  (.cond (.t 20) (.seq (.reg [] [⟨(some 23), none, .fa 24 (.t 1)⟩,
    ⟨(some 24), none, .load (some 2) (.t 23)⟩,
    ⟨(some 25), none, .call 119 [(.t 24)]⟩,
    ⟨(some 2), none, .mv (.t 25)⟩])
  .ret)
  (.seq (.reg [] [⟨(some 27), none, .bin .eql (.t 4) (.c (.v (.int .i64 6)))⟩,
    ⟨(some 26), none, .mv (.t 27)⟩])
  (.cond (.t 26) (.seq (.reg [] [⟨(some 28), none, .fa 26 (.t 1)⟩,
    ⟨(some 29), none, .load none (.t 28)⟩,
    ⟨(some 30), none, .call 83 [(.t 29)]⟩,
    ⟨(some 2), none, .mv (.t 30)⟩])
  .ret)
  .skip))))))))))))
  (.seq (.reg [] [⟨(some 2), none, .mv (.c (.v (.bool true)))⟩])
  .ret))), [.tmp 2]⟩
noncomputable def k164 : List (List Nat) := []
theorem t164 : toRFn C k164 164 = some r164 := by kernel_rfl
/-- linkboy/octets.Num -/
noncomputable def r165 : RFn := ⟨49, (.seq (.reg [] [⟨(some 4), none, .mv (.c (.sl [] .nil))⟩,
    ⟨(some 5), none, .mv (.c (.v .nilIface))⟩])
  (.seq (.seq (.reg [] [⟨(some 8), none, .mv (.t 1)⟩,
    ⟨(some 9), none, .bin .lss (.t 8) (.c (.v (.int .i64 1)))⟩,
    ⟨(some 10), none, .mv (.t 9)⟩,
    ⟨(some 11), (some (10, false)), .mv (.t 1)⟩,
    ⟨(some 12), (some (10, false)), .bin .gtr (.t 11) (.c (.v (.int .i64 8)))⟩,
    ⟨(some 13), none, .pick (.t 10) (.c (.v (.bool true))) (.t 12)⟩,
    ⟨(some 14), none, .mv (.t 13)⟩,
    ⟨(some 15), (some (14, false)), .mv (.t 0)⟩,
    ⟨(some 16), (some (14, false)), .bin .lss (.t 15) (.c (.v (.int .i64 0)))⟩,
    ⟨(some 17), none, .pick (.t 14) (.c (.v (.bool true))) (.t 16)⟩,
    ⟨(some 18), none, .mv (.t 17)⟩,
    ⟨(some 19), (some (18, false)), .mv (.t 0)⟩,
    ⟨(some 20), (some (18, false)), .bin .gtr (.t 19) (.c (.v (.int .i64 4611686018427387904)))⟩,
    ⟨(some 21), none, .pick (.t 18) (.c (.v (.bool true))) (.t 20)⟩,
    ⟨(some 22), none, .mv (.t 21)⟩,
    ⟨(some 23), (some (22, false)), .mv (.t 1)⟩,
    ⟨(some 24), (some (22, false)), .bin .lss (.t 23) (.c (.v (.int .i64 8)))⟩,
    ⟨(some 25), (some (22, false)), .mv (.t 24)⟩,
    ⟨(some 26), (some (25, true)), .mv (.t 0)⟩,
    ⟨(some 27), (some (25, true)), .mv (.t 1)⟩,
    ⟨(some 28), (some (25, true)), .bin .mul (.c (.v (.int .i64 8))) (.t 27)⟩,
    ⟨(some 29), (some (25, true)), .bin .shr (.t 26) (.t 28)⟩,
    ⟨(some 30), (some (25, true)), .bin .gtr (.t 29) (.c (.v (.int .i64 0)))⟩,
    ⟨(some 31), (some (22, false)), .pick (.t 25) (.t 30) (.c (.v (.bool false)))⟩,
    ⟨(some 32), none, .pick (.t 22) (.c (.v (.bool true))) (.t 31)⟩])
  (.cond (.t 32) (.seq (.reg [] [⟨(some 33), none, .load none (.c (.ro [(.ifc 296 (.gl 0))] 0))⟩,
    ⟨(some 4), none, .mv (.c (.sl [] .nil))⟩,
    ⟨(some 5), none, .mv (.t 33)⟩])
  .ret)
  .skip))
  (.seq (.reg [] [⟨(some 6), none, .mv (.c (.sl [] .nil))⟩])
  (.seq (.seq (.reg [] [⟨(some 34), none, .mv (.t 1)⟩,
    ⟨(some 35), none, .bin .sub (.t 34) (.c (.v (.int .i64 1)))⟩,
    ⟨(some 7), none, .mv (.t 35)⟩])
  (.block 0 (.loop [0, 6, 7] (.seq (.seq (.reg [] [⟨(some 36), none, .mv (.t 7)⟩,
    ⟨(some 37), none, .bin .geq (.t 36) (.c (.v (.int .i64 0)))⟩])
  (.cond (.t 37) .skip
  (.exit 0)))
  (.seq (.block 1 (.reg [] [⟨(some 40), none, .mv (.t 6)⟩,
    ⟨(some 41), none, .mv (.t 0)⟩,
    ⟨(some 42), none, .mv (.t 7)⟩,
    ⟨(some 43), none, .bin .mul (.c (.v (.int .i64 8))) (.t 42)⟩,
    ⟨(some 44), none, .bin .shr (.t 41) (.t 43)⟩,
    ⟨(some 45), none, .cint .u8 (.t 44)⟩,
    ⟨(some 46), none, .bsl 1 1 (.v (.int .u8 0)) [(0, (.t 45))]⟩,
    ⟨(some 47), none, .app 1 1073741824 (.t 40) (.t 46)⟩,
    ⟨(some 6), none, .mv (.t 47)⟩]))
  (.reg [] [⟨(some 38), none, .mv (.t 7)⟩,
    ⟨(some 39), none, .bin .sub (.t 38) (.c (.v (.int .i64 1)))⟩,
    ⟨(some 7), none, .mv (.t 39)⟩]))))))
  (.seq (.reg [] [⟨(some 48), none, .mv (.t 6)⟩,
    ⟨(some 4), none, .mv (.t 48)⟩,
    ⟨(some 5), none, .mv (.c (.v .nilIface))⟩])
  .ret))))), [.tmp 4, .tmp 5]⟩
noncomputable def k165 : List (List Nat) := [[0, 6, 7]]
theorem t165 : toRFn C k165 165 = some r165 := by kernel_rfl
/-- linkboy/event.body -/
noncomputable def r166 : RFn := ⟨31, (.seq (.reg [] [⟨(some 1), none, .box (.t 0)⟩,
    ⟨(some 2), none, .mv (.c (.sl [] .nil))⟩])
  (.seq (.seq (.reg [] [⟨(some 3), none, .fa 0 (.t 1)⟩,
    ⟨(some 4), none, .load none (.t 3)⟩])
  (.block 0 (.seq (.reg [] [⟨(some 6), none, .bin .eql (.t 4) (.c (.v (.int .i64 1)))⟩,
    ⟨(some 5), none, .mv (.t 6)⟩])
  (.cond (.t 5) (.seq (.reg [] [⟨(some 7), none, .fa 2 (.t 1)⟩,
    ⟨(some 8), none, .load (some 13) (.t 7)⟩,
    ⟨(some 9), none, .call 49 [(.t 8)]⟩,
    ⟨(some 2), none, .mv (.t 9)⟩])
  .ret)
  (.seq (.reg [] [⟨(some 11), none, .bin .eql (.t 4) (.c (.v (.int .i64 2)))⟩,
    ⟨(some 10), none, .mv (.t 11)⟩])
  (.cond (.t 10) (.seq (.reg [] [⟨(some 12), none, .fa 15 (.t 1)⟩,
    ⟨(some 13), none, .load (some 6) (.t 12)⟩,
    ⟨(some 14), none, .call 39 [(.t 13)]⟩,
    ⟨(some 2), none, .mv (.t 14)⟩])
  .ret)
  (.seq (.reg [] [⟨(some 16), none, .bin .eql (.t 4) (.c (.v (.int .i64 3)))⟩,
    ⟨(some 15), none, .mv (.t 16)⟩])
  (.cond (.t 15) (.seq (.reg [] [⟨(some 17), none, .fa 21 (.t 1)⟩,
    ⟨(some 18), none, .load (some 3) (.t 17)⟩,
    ⟨(some 19), none, .call 23 [(.t 18)]⟩,
    ⟨(some 2), none, .mv (.t 19)⟩])
  .ret)
  (.seq (.seq (.reg [] [⟨(some 21), none, .bin .eql (.t 4) (.c (.v (.int .i64 4)))⟩,
    ⟨(some 20), none, .mv (.t 21)⟩])
  (.cond (.t 20) .skip
  (.reg [] [⟨(some 22), none, .bin .eql (.t 4) (.c (.v (.int .i64 5)))⟩,
    ⟨(some 20), none, .mv (.t 22)⟩])))
  (.cond (.t 20) (.seq (.reg [] [⟨(some 23), none, .fa 24 (.t 1)⟩,
    ⟨(some 24), none, .load (some 2) (.t 23)⟩,
    ⟨(some 25), none, .call 106 [(.t 24)]⟩,
    ⟨(some 2), none, .mv (.t 25)⟩])
  .ret)
  (.seq (.reg [] [⟨(some 27), none, .bin .eql (.t 4) (.c (.v (.int .i64 6)))⟩,
    ⟨(some 26), none, .mv (.t 27)⟩])
  (.cond (.t 26) (.seq (.reg [] [⟨(some 28), none, .fa 26 (.t 1)⟩,
    ⟨(some 29), none, .load none (.t 28)⟩,
    ⟨(some 30), none, .call 79 [(.t 29)]⟩,
    ⟨(some 2), none, .mv (.t 30)⟩])
  .ret)
  .skip))))))))))))
  (.seq (.reg [] [⟨(some 2), none, .mv (.c (.sl [] .nil))⟩])
  .ret))), [.tmp 2]⟩
noncomputable def k166 : List (List Nat) := []
theorem t166 : toRFn C k166 166 = some r166 := by kernel_rfl
/-- linkboy/frame.Bytes -/
noncomputable def r167 : RFn := ⟨35, (.seq (.reg [] [⟨(some 1), none, .box (.t 0)⟩,
    ⟨(some 2), none, .mv (.c (.sl [] .nil))⟩,
    ⟨(some 3), none, .mv (.c (.v .nilIface))⟩])
  (.seq (.reg [] [⟨(some 5), none, .fa 1 (.t 1)⟩,
    ⟨(some 6), none, .load none (.t 5)⟩,
    ⟨(some 7), none, .len .sl (.t 6)⟩,
    ⟨(some 8), none, .bin .add (.t 7) (.c (.v (.int .i64 1)))⟩,
    ⟨(some 4), none, .mv (.t 8)⟩])
  (.seq (.block 0 (.seq (.reg [] [⟨(some 10), none, .fa 0 (.t 1)⟩,
    ⟨(some 11), none, .load none (.t 10)⟩,
    ⟨(some 12), none, .bin .lss (.t 11) (.c (.v (.int .i64 0)))⟩,
    ⟨(some 13), none, .mv (.t 12)⟩,
    ⟨(some 14), (some (13, false)), .fa 0 (.t 1)⟩,
    ⟨(some 15), (some (13, false)), .load none (.t 14)⟩,
    ⟨(some 16), (some (13, false)), .bin .gtr (.t 15) (.c (.v (.int .i64 255)))⟩,
    ⟨(some 17), none, .pick (.t 13) (.c (.v (.bool true))) (.t 16)⟩,
    ⟨(some 9), none, .mv (.t 17)⟩])
  (.cond (.t 9) (.seq (.reg [] [⟨(some 18), none, .load none (.c (.ro [(.ifc 296 (.gl 0))] 0))⟩,
    ⟨(some 2), none, .mv (.c (.sl [] .nil))⟩,
    ⟨(some 3), none, .mv (.t 18)⟩])
  .ret)
  (.seq (.reg [] [⟨(some 20), none, .mv (.t 4)⟩,
    ⟨(some 21), none, .bin .gtr (.t 20) (.c (.v (.int .i64 1200)))⟩,
    ⟨(some 19), none, .mv (.t 21)⟩])
  (.cond (.t 19) (.seq (.reg [] [⟨(some 22), none, .load none (.c (.ro [(.ifc 296 (.gl 2))] 0))⟩,
    ⟨(some 2), none, .mv (.c (.sl [] .nil))⟩,
    ⟨(some 3), none, .mv (.t 22)⟩])
  .ret)
  .skip)))))
  (.seq (.reg [] [⟨(some 23), none, .mv (.t 4)⟩,
    ⟨(some 24), none, .bin .shr (.t 23) (.c (.v (.int .u64 8)))⟩,
    ⟨(some 25), none, .cint .u8 (.t 24)⟩,
    ⟨(some 26), none, .mv (.t 4)⟩,
    ⟨(some 27), none, .cint .u8 (.t 26)⟩,
    ⟨(some 28), none, .fa 0 (.t 1)⟩,
    ⟨(some 29), none, .load none (.t 28)⟩,
    ⟨(some 30), none, .cint .u8 (.t 29)⟩,
    ⟨(some 31), none, .bsl 1 3 (.v (.int .u8 0)) [(0, (.t 25)), (1, (.t 27)), (2, (.t 30))]⟩,
    ⟨(some 32), none, .fa 1 (.t 1)⟩,
    ⟨(some 33), none, .load none (.t 32)⟩,
    ⟨(some 34), none, .app 1 1073741824 (.t 31) (.t 33)⟩,
    ⟨(some 2), none, .mv (.t 34)⟩,
    ⟨(some 3), none, .mv (.c (.v .nilIface))⟩])
  .ret)))), [.tmp 2, .tmp 3]⟩
noncomputable def k167 : List (List Nat) := []
theorem t167 : toRFn C k167 167 = some r167 := by kernel_rfl
/-- linkboy/octets.Text -/
noncomputable def r181 : RFn := ⟨14, (.seq (.reg [] [⟨(some 2), none, .mv (.c (.sl [] .nil))⟩,
    ⟨(some 3), none, .mv (.c (.v .nilIface))⟩])
  (.seq (.seq (.reg [] [⟨(some 4), none, .mv (.t 0)⟩,
    ⟨(some 5), none, .len .str (.t 4)⟩,
    ⟨(some 6), none, .bin .gtr (.t 5) (.c (.v (.int .i64 255)))⟩])
  (.cond (.t 6) (.seq (.reg [] [⟨(some 7), none, .load none (.c (.ro [(.ifc 296 (.gl 2))] 0))⟩,
    ⟨(some 2), none, .mv (.c (.sl [] .nil))⟩,
    ⟨(some 3), none, .mv (.t 7)⟩])
  .ret)
  .skip))
  (.seq (.reg [] [⟨(some 8), none, .mv (.t 0)⟩,
    ⟨(some 9), none, .len .str (.t 8)⟩,
    ⟨(some 10), none, .cint .u8 (.t 9)⟩,
    ⟨(some 11), none, .bsl 1 1 (.v (.int .u8 0)) [(0, (.t 10))]⟩,
    ⟨(some 12), none, .mv (.t 0)⟩,
    ⟨(some 13), none, .apps 1073741824 (.t 11) (.t 12)⟩,
    ⟨(some 2), none, .mv (.t 13)⟩,
    ⟨(some 3), none, .mv (.c (.v .nilIface))⟩])
  .ret))), [.tmp 2, .tmp 3]⟩
noncomputable def k181 : List (List Nat) := []
theorem t181 : toRFn C k181 181 = some r181 := by kernel_rfl
/-- linkboy/addr.Bytes -/
noncomputable def r182 : RFn := ⟨8, (.seq (.reg [] [⟨(some 1), none, .box (.t 0)⟩,
    ⟨(some 2), none, .mv (.c (.sl [] .nil))⟩])
  (.seq (.reg [] [⟨(some 3), none, .fa 1 (.t 1)⟩,
    ⟨(some 4), none, .load (some 17) (.t 1)⟩,
    ⟨(some 5), none, .call 221 [(.t 4)]⟩,
    ⟨(some 6), none, .slA 1 16 (.t 3) none (some (.t 5)) none⟩,
    ⟨(some 7), none, .call 220 [(.t 6)]⟩,
    ⟨(some 2), none, .mv (.t 7)⟩])
  .ret)), [.tmp 2]⟩
noncomputable def k182 : List (List Nat) := []
theorem t182 : toRFn C k182 182 = some r182 := by kernel_rfl
/-- strings.Trim -/
noncomputable def r183 : RFn := ⟨43, (.seq (.reg [] [⟨(some 4), none, .mv (.c (.v (.string ⟨⟨[]⟩⟩)))⟩])
  (.seq (.seq (.reg [] [⟨(some 7), none, .mv (.t 0)⟩,
    ⟨(some 8), none, .bin .eql (.t 7) (.c (.v (.string ⟨⟨[]⟩⟩)))⟩,
    ⟨(some 9), none, .mv (.t 8)⟩,
    ⟨(some 10), (some (9, false)), .mv (.t 1)⟩,
    ⟨(some 11), (some (9, false)), .bin .eql (.t 10) (.c (.v (.string ⟨⟨[]⟩⟩)))⟩,
    ⟨(some 12), none, .pick (.t 9) (.c (.v (.bool true))) (.t 11)⟩])
  (.cond (.t 12) (.seq (.reg [] [⟨(some 13), none, .mv (.t 0)⟩,
    ⟨(some 4), none, .mv (.t 13)⟩])
  .ret)
  .skip))
  (.seq (.seq (.reg [] [⟨(some 14), none, .mv (.t 1)⟩,
    ⟨(some 15), none, .len .str (.t 14)⟩,
    ⟨(some 16), none, .bin .eql (.t 15) (.c (.v (.int .i64 1)))⟩,
    ⟨(some 17), none, .mv (.t 16)⟩,
    ⟨(some 18), (some (17, true)), .mv (.t 1)⟩,
    ⟨(some 19), (some (17, true)), .ixS (.t 18) (.c (.v (.int .i64 0)))⟩,
    ⟨(some 20), (some (17, true)), .bin .lss (.t 19) (.c (.v (.int .u8 128)))⟩,
    ⟨(some 21), none, .pick (.t 17) (.t 20) (.c (.v (.bool false)))⟩])
  (.cond (.t 21) (.seq (.reg [] [⟨(some 22), none, .mv (.t 0)⟩,
    ⟨(some 23), none, .mv (.t 1)⟩,
    ⟨(some 24), none, .ixS (.t 23) (.c (.v (.int .i64 0)))⟩,
    ⟨(some 25), none, .call 223 [(.t 22), (.t 24)]⟩,
    ⟨(some 26), none, .mv (.t 1)⟩,
    ⟨(some 27), none, .ixS (.t 26) (.c (.v (.int .i64 0)))⟩,
    ⟨(some 28), none, .call 222 [(.t 25), (.t 27)]⟩,
    ⟨(some 4), none, .mv (.t 28)⟩])
  .ret)
  .skip))
  (.seq (.seq (.reg [] [⟨(some 30), none, .mv (.t 1)⟩,
    ⟨(some 31), none, .call 224 [(.t 30)]⟩,
    ⟨(some 29), none, .mv (.t 31)⟩,
    ⟨(some 32), none, .ext (.t 29) 0⟩,
    ⟨(some 33), none, .ext (.t 29) 1⟩,
    ⟨(some 5), none, .box (.c (.agg [(.v (.bool false)), (.v (.bool false)), (.v (.bool false)), (.v (.bool false)), (.v (.bool false)), (.v (.bool false)), (.v (.bool false)), (.v (.bool false)), (.v (.bool false)), (.v (.bool false)), (.v (.bool false)), (.v (.bool false)), (.v (.bool false)), (.v (.bool false)), (.v (.bool false)), (.v (.bool false)), (.v (.bool false)), (.v (.bool false)), (.v (.bool false)), (.v (.bool false)), (.v (.bool false)), (.v (.bool false)), (.v (.bool false)), (.v (.bool false)), (.v (.bool false)), (.v (.bool false)), (.v (.bool false)), (.v (.bool false)), (.v (.bool false)), (.v (.bool false)), (.v (.bool false)), (.v (.bool false)), (.v (.bool false)), (.v (.bool false)), (.v (.bool false)), (.v (.bool false)), (.v (.bool false)), (.v (.bool false)), (.v (.bool false)), (.v (.bool false)), (.v (.bool false)), (.v (.bool false)), (.v (.bool false)), (.v (.bool false)), (.v (.bool false)), (.v (.bool false)), (.v (.bool false)), (.v (.bool false)), (.v (.bool false)), (.v (.bool false)), (.v (.bool false)), (.v (.bool false)), (.v (.bool false)), (.v (.bool false)), (.v (.bool false)), (.v (.bool false)), (.v (.bool false)), (.v (.bool false)), (.v (.bool false)), (.v (.bool false)), (.v (.bool false)), (.v (.bool false)), (.v (.bool false)), (.v (.bool false)), (.v (.bool false)), (.v (.bool false)), (.v (.bool false)), (.v (.bool false)), (.v (.bool false)), (.v (.bool false)), (.v (.bool false)), (.v (.bool false)), (.v (.bool false)), (.v (.bool false)), (.v (.bool false)), (.v (.bool false)), (.v (.bool false)), (.v (.bool false)), (.v (.bool false)), (.v (.bool false)), (.v (.bool false)), (.v (.bool false)), (.v (.bool false)), (.v (.bool false)), (.v (.bool false)), (.v (.bool false)), (.v (.bool false)), (.v (.bool false)), (.v (.bool false)), (.v (.bool false)), (.v (.bool false)), (.v (.bool false)), (.v (.bool false)), (.v (.bool false)), (.v (.bool false)), (.v (.bool false)), (.v (.bool false)), (.v (.bool false)), (.v (.bool false)), (.v (.bool false)), (.v (.bool false)), (.v (.bool false)), (.v (.bool false)), (.v (.bool false)), (.v (.bool false)), (.v (.bool false)), (.v (.bool false)), (.v (.bool false)), (.v (.bool false)), (.v (.bool false)), (.v (.bool false)), (.v (.bool false)), (.v (.bool false)), (.v (.bool false)), (.v (.bool false)), (.v (.bool false)), (.v (.bool false)), (.v (.bool false)), (.v (.bool false)), (.v (.bool false)), (.v (.bool false)), (.v (.bool false)), (.v (.bool false)), (.v (.bool false)), (.v (.bool false)), (.v (.bool false)), (.v (.bool false)), (.v (.bool false)), (.v (.bool false)), (.v (.bool false)), (.v (.bool false)), (.v (.bool false)), (.v (.bool false)), (.v (.bool false)), (.v (.bool false)), (.v (.bool false)), (.v (.bool false)), (.v (.bool false)), (.v (.bool false)), (.v (.bool false)), (.v (.bool false)), (.v (.bool false)), (.v (.bool false)), (.v (.bool false)), (.v (.bool false)), (.v (.bool false)), (.v (.bool false)), (.v (.bool false)), (.v (.bool false)), (.v (.bool false)), (.v (.bool false)), (.v (.bool false)), (.v (.bool false)), (.v (.bool false)), (.v (.bool false)), (.v (.bool false)), (.v (.bool false)), (.v (.bool false)), (.v (.bool false)), (.v (.bool false)), (.v (.bool false)), (.v (.bool false)), (.v (.bool false)), (.v (.bool false)), (.v (.bool false)), (.v (.bool false)), (.v (.bool false)), (.v (.bool false)), (.v (.bool false)), (.v (.bool false)), (.v (.bool false)), (.v (.bool false)), (.v (.bool false)), (.v (.bool false)), (.v (.bool false)), (.v (.bool false)), (.v (.bool false)), (.v (.bool false)), (.v (.bool false)), (.v (.bool false)), (.v (.bool false)), (.v (.bool false)), (.v (.bool false)), (.v (.bool false)), (.v (.bool false)), (.v (.bool false)), (.v (.bool false)), (.v (.bool false)), (.v (.bool false)), (.v (.bool false)), (.v (.bool false)), (.v (.bool false)), (.v (.bool false)), (.v (.bool false)), (.v (.bool false)), (.v (.bool false)), (.v (.bool false)), (.v (.bool false)), (.v (.bool false)), (.v (.bool false)), (.v (.bool false)), (.v (.bool false)), (.v (.bool false)), (.v (.bool false)), (.v (.bool false)), (.v (.bool false)), (.v (.bool false)), (.v (.bool false)), (.v (.bool false)), (.v (.bool false)), (.v (.bool false)), (.v (.bool false)), (.v (.bool false)), (.v (.bool false)), (.v (.bool false)), (.v (.bool false)), (.v (.bool false)), (.v (.bool false)), (.v (.bool false)), (.v (.bool false)), (.v (.bool false)), (.v (.bool false)), (.v (.bool false)), (.v (.bool false)), (.v (.bool false)), (.v (.bool false)), (.v (.bool false)), (.v (.bool false)), (.v (.bool false)), (.v (.bool false)), (.v (.bool false)), (.v (.bool false)), (.v (.bool false)), (.v (.bool false)), (.v (.bool false)), (.v (.bool false)), (.v (.bool false)), (.v (.bool false)), (.v (.bool false)), (.v (.bool false)), (.v (.bool false)), (.v (.bool false)), (.v (.bool false)), (.v (.bool false)), (.v (.bool false)), (.v (.bool false)), (.v (.bool false)), (.v (.bool false)), (.v (.bool false)), (.v (.bool false)), (.v (.bool false)), (.v (.bool false)), (.v (.bool false)), (.v (.bool false)), (.v (.bool false)), (.v (.bool false))]))⟩,
    ⟨none, none, .store 256 (.t 5) (.t 32)⟩,
    ⟨(some 6), none, .mv (.t 33)⟩])
  (.seq (.reg [] [⟨(some 34), none, .mv (.t 6)⟩])
  (.cond (.t 34) (.seq (.reg [] [⟨(some 35), none, .mv (.t 0)⟩,
    ⟨(some 36), none, .call 226 [(.t 35), (.t 5)]⟩,
    ⟨(some 37), none, .call 225 [(.t 36), (.t 5)]⟩,
    ⟨(some 4), none, .mv (.t 37)⟩])
  .ret)
  .skip)))
  (.seq (.reg [] [⟨(some 38), none, .mv (.t 0)⟩,
    ⟨(some 39), none, .mv (.t 1)⟩,
    ⟨(some 40), none, .call 228 [(.t 38), (.t 39)]⟩,
    ⟨(some 41), none, .mv (.t 1)⟩,
    ⟨(some 42), none, .call 227 [(.t 40), (.t 41)]⟩,
    ⟨(some 4), none, .mv (.t 42)⟩])
  .ret))))), [.tmp 4]⟩
noncomputable def k183 : List (List Nat) := []
theorem t183 : toRFn C k183 183 = some r183 := by kernel_rfl
/-- strings.HasPrefix -/
noncomputable def r184 : RFn := ⟨8, (.seq (.reg [] [⟨(some 4), none, .mv (.c (.v (.bool false)))⟩])
  (.seq (.reg [] [⟨(some 5), none, .mv (.t 0)⟩,
    ⟨(some 6), none, .mv (.t 1)⟩,
    ⟨(some 7), none, .call 229 [(.t 5), (.t 6)]⟩,
    ⟨(some 4), none, .mv (.t 7)⟩])
  .ret)), [.tmp 4]⟩
noncomputable def k184 : List (List Nat) := []
theorem t184 : toRFn C k184 184 = some r184 := by kernel_rfl
/-- strings.HasSuffix -/
noncomputable def r185 : RFn := ⟨8, (.seq (.reg [] [⟨(some 4), none, .mv (.c (.v (.bool false)))⟩])
  (.seq (.reg [] [⟨(some 5), none, .mv (.t 0)⟩,
    ⟨(some 6), none, .mv (.t 1)⟩,
    ⟨(some 7), none, .call 230 [(.t 5), (.t 6)]⟩,
    ⟨(some 4), none, .mv (.t 7)⟩])
  .ret)), [.tmp 4]⟩
noncomputable def k185 : List (List Nat) := []
theorem t185 : toRFn C k185 185 = some r185 := by kernel_rfl
/-- linkboy/object.every[linkboy/api.Addr] -/
noncomputable def r186 : RFn := ⟨9, (.seq (.reg [] [⟨(some 3), none, .box (.t 1)⟩,
    ⟨(some 4), none, .mv (.c (.v (.bool false)))⟩])
  (.seq (.reg [] [⟨(some 5), none, .mv (.t 0)⟩,
    ⟨(some 6), none, .fn (.func 232) [] [(.t 3)]⟩,
    ⟨(some 7), none, .call 231 [(.t 5), (.t 6)]⟩,
    ⟨(some 8), none, .un .not (.t 7)⟩,
    ⟨(some 4), none, .mv (.t 8)⟩])
  .ret)), [.tmp 4]⟩
noncomputable def k186 : List (List Nat) := []
theorem t186 : toRFn C k186 186 = some r186 := by kernel_rfl
/-- linkboy/object.row[string] -/
noncomputable def r191 : RFn := ⟨25, (.seq (.reg [] [⟨(some 4), none, .mv (.c (.sl [] .nil))⟩])
  (.seq (.reg [] [⟨(some 8), none, .mv (.t 0)⟩,
    ⟨(some 9), none, .len .sl (.t 8)⟩,
    ⟨(some 10), none, .cint .u8 (.t 9)⟩,
    ⟨(some 11), none, .bsl 1 1 (.v (.int .u8 0)) [(0, (.t 10))]⟩,
    ⟨(some 5), none, .mv (.t 11)⟩])
  (.seq (.seq (.reg [] [⟨(some 12), none, .mv (.t 0)⟩,
    ⟨(some 13), none, .len .sl (.t 12)⟩,
    ⟨(some 14), none, .mv (.c (.v (.int .i64 0)))⟩])
  (.block 0 (.loop [1, 5, 12, 13, 14] (.seq (.reg [] [⟨(some 15), none, .bin .lss (.t 14) (.t 13)⟩])
  (.seq (.cond (.t 15) .skip
  (.exit 0))
  (.seq (.block 1 (.seq (.reg [] [⟨(some 16), none, .iaS 1 (.t 12) (.t 14)⟩,
    ⟨(some 17), none, .load none (.t 16)⟩,
    ⟨(some 7), none, .mv (.t 17)⟩])
  (.reg [] [⟨(some 18), none, .mv (.t 5)⟩,
    ⟨(some 19), none, .mv (.t 1)⟩,
    ⟨(some 20), none, .mv (.t 7)⟩,
    ⟨(some 21), none, .callv (.t 19) [(.t 20)]⟩,
    ⟨(some 22), none, .app 1 1073741824 (.t 18) (.t 21)⟩,
    ⟨(some 5), none, .mv (.t 22)⟩])))
  (.reg [] [⟨(some 23), none, .bin .add (.t 14) (.c (.v (.int .i64 1)))⟩,
    ⟨(some 14), none, .mv (.t 23)⟩])))))))
  (.seq (.reg [] [⟨(some 24), none, .mv (.t 5)⟩,
    ⟨(some 4), none, .mv (.t 24)⟩])
  .ret)))), [.tmp 4]⟩
noncomputable def k191 : List (List Nat) := [[1, 5, 12, 13, 14]]
theorem t191 : toRFn C k191 191 = some r191 := by kernel_rfl
/-- slices.ContainsFunc[[]linkboy/object.Port,linkboy/object.Port] -/
noncomputable def r192 : RFn := ⟨9, (.seq (.reg [] [⟨(some 4), none, .mv (.c (.v (.bool false)))⟩])
  (.seq (.reg [] [⟨(some 5), none, .mv (.t 0)⟩,
    ⟨(some 6), none, .mv (.t 1)⟩,
    ⟨(some 7), none, .call 233 [(.t 5), (.t 6)]⟩,
    ⟨(some 8), none, .bin .geq (.t 7) (.c (.v (.int .i64 0)))⟩,
    ⟨(some 4), none, .mv (.t 8)⟩])
  .ret)), [.tmp 4]⟩
noncomputable def k192 : List (List Nat) := []
theorem t192 : toRFn C k192 192 = some r192 := by kernel_rfl
/-- linkboy/object.every[linkboy/object.Port]$1 -/
noncomputable def r193 : RFn := ⟨8, (.seq (.reg [] [⟨(some 2), none, .box (.t 0)⟩,
    ⟨(some 3), none, .mv (.c (.v (.bool false)))⟩])
  (.seq (.reg [] [⟨(some 4), none, .load none (.t 1)⟩,
    ⟨(some 5), none, .load (some 4) (.t 2)⟩,
    ⟨(some 6), none, .callv (.t 4) [(.t 5)]⟩,
    ⟨(some 7), none, .un .not (.t 6)⟩,
    ⟨(some 3), none, .mv (.t 7)⟩])
  .ret)), [.tmp 3]⟩
noncomputable def k193 : List (List Nat) := []
theorem t193 : toRFn C k193 193 = some r193 := by kernel_rfl
/-- linkboy/ports.Proto -/
noncomputable def r194 : RFn := ⟨9, (.seq (.reg [] [⟨(some 2), none, .mv (.c (.v (.bool false)))⟩])
  (.seq (.reg [] [⟨(some 3), none, .mv (.t 0)⟩,
    ⟨(some 4), none, .bin .eql (.t 3) (.c (.v (.int .i64 6)))⟩,
    ⟨(some 5), none, .mv (.t 4)⟩,
    ⟨(some 6), (some (5, false)), .mv (.t 0)⟩,
    ⟨(some 7), (some (5, false)), .bin .eql (.t 6) (.c (.v (.int .i64 17)))⟩,
    ⟨(some 8), none, .pick (.t 5) (.c (.v (.bool true))) (.t 7)⟩,
    ⟨(some 2), none, .mv (.t 8)⟩])
  .ret)), [.tmp 2]⟩
noncomputable def k194 : List (List Nat) := []
theorem t194 : toRFn C k194 194 = some r194 := by kernel_rfl
/-- linkboy/ports.Right -/
noncomputable def r195 : RFn := ⟨9, (.seq (.reg [] [⟨(some 2), none, .mv (.c (.v (.bool false)))⟩])
  (.seq (.reg [] [⟨(some 3), none, .mv (.t 0)⟩,
    ⟨(some 4), none, .bin .geq (.t 3) (.c (.v (.int .i64 1)))⟩,
    ⟨(some 5), none, .mv (.t 4)⟩,
    ⟨(some 6), (some (5, true)), .mv (.t 0)⟩,
    ⟨(some 7), (some (5, true)), .bin .leq (.t 6) (.c (.v (.int .i64 65535)))⟩,
    ⟨(some 8), none, .pick (.t 5) (.t 7) (.c (.v (.bool false)))⟩,
    ⟨(some 2), none, .mv (.t 8)⟩])
  .ret)), [.tmp 2]⟩
noncomputable def k195 : List (List Nat) := []
theorem t195 : toRFn C k195 195 = some r195 := by kernel_rfl
/-- slices.ContainsFunc[[]linkboy/object.Endpoint,linkboy/object.Endpoint] -/
noncomputable def r196 : RFn := ⟨9, (.seq (.reg [] [⟨(some 4), none, .mv (.c (.v (.bool false)))⟩])
  (.seq (.reg [] [⟨(some 5), none, .mv (.t 0)⟩,
    ⟨(some 6), none, .mv (.t 1)⟩,
    ⟨(some 7), none, .call 234 [(.t 5), (.t 6)]⟩,
    ⟨(some 8), none, .bin .geq (.t 7) (.c (.v (.int .i64 0)))⟩,
    ⟨(some 4), none, .mv (.t 8)⟩])
  .ret)), [.tmp 4]⟩
noncomputable def k196 : List (List Nat) := []
theorem t196 : toRFn C k196 196 = some r196 := by kernel_rfl
/-- linkboy/object.every[linkboy/object.Endpoint]$1 -/
noncomputable def r197 : RFn := ⟨8, (.seq (.reg [] [⟨(some 2), none, .box (.t 0)⟩,
    ⟨(some 3), none, .mv (.c (.v (.bool false)))⟩])
  (.seq (.reg [] [⟨(some 4), none, .load none (.t 1)⟩,
    ⟨(some 5), none, .load (some 22) (.t 2)⟩,
    ⟨(some 6), none, .callv (.t 4) [(.t 5)]⟩,
    ⟨(some 7), none, .un .not (.t 6)⟩,
    ⟨(some 3), none, .mv (.t 7)⟩])
  .ret)), [.tmp 3]⟩
noncomputable def k197 : List (List Nat) := []
theorem t197 : toRFn C k197 197 = some r197 := by kernel_rfl
/-- bytes.Trim -/
noncomputable def r198 : RFn := ⟨42, (.seq (.reg [] [⟨(some 4), none, .mv (.c (.sl [] .nil))⟩])
  (.seq (.seq (.reg [] [⟨(some 7), none, .mv (.t 0)⟩,
    ⟨(some 8), none, .len .sl (.t 7)⟩,
    ⟨(some 9), none, .bin .eql (.t 8) (.c (.v (.int .i64 0)))⟩])
  (.cond (.t 9) (.seq (.reg [] [⟨(some 4), none, .mv (.c (.sl [] .nil))⟩])
  .ret)
  .skip))
  (.seq (.seq (.reg [] [⟨(some 10), none, .mv (.t 1)⟩,
    ⟨(some 11), none, .bin .eql (.t 10) (.c (.v (.string ⟨⟨[]⟩⟩)))⟩])
  (.cond (.t 11) (.seq (.reg [] [⟨(some 12), none, .mv (.t 0)⟩,
    ⟨(some 4), none, .mv (.t 12)⟩])
  .ret)
  .skip))
  (.seq (.seq (.reg [] [⟨(some 13), none, .mv (.t 1)⟩,
    ⟨(some 14), none, .len .str (.t 13)⟩,
    ⟨(some 15), none, .bin .eql (.t 14) (.c (.v (.int .i64 1)))⟩,
    ⟨(some 16), none, .mv (.t 15)⟩,
    ⟨(some 17), (some (16, true)), .mv (.t 1)⟩,
    ⟨(some 18), (some (16, true)), .ixS (.t 17) (.c (.v (.int .i64 0)))⟩,
    ⟨(some 19), (some (16, true)), .bin .lss (.t 18) (.c (.v (.int .u8 128)))⟩,
    ⟨(some 20), none, .pick (.t 16) (.t 19) (.c (.v (.bool false)))⟩])
  (.cond (.t 20) (.seq (.reg [] [⟨(some 21), none, .mv (.t 0)⟩,
    ⟨(some 22), none, .mv (.t 1)⟩,
    ⟨(some 23), none, .ixS (.t 22) (.c (.v (.int .i64 0)))⟩,
    ⟨(some 24), none, .call 236 [(.t 21), (.t 23)]⟩,
    ⟨(some 25), none, .mv (.t 1)⟩,
    ⟨(some 26), none, .ixS (.t 25) (.c (.v (.int .i64 0)))⟩,
    ⟨(some 27), none, .call 235 [(.t 24), (.t 26)]⟩,
    ⟨(some 4), none, .mv (.t 27)⟩])
  .ret)
  .skip))
  (.seq (.seq (.reg [] [⟨(some 29), none, .mv (.t 1)⟩,
    ⟨(some 30), none, .call 237 [(.t 29)]⟩,
    ⟨(some 28), none, .mv (.t 30)⟩,
    ⟨(some 31), none, .ext (.t 28) 0⟩,
    ⟨(some 32), none, .ext (.t 28) 1⟩,
    ⟨(some 5), none, .box (.c (.agg [(.v (.bool false)), (.v (.bool false)), (.v (.bool false)), (.v (.bool false)), (.v (.bool false)), (.v (.bool false)), (.v (.bool false)), (.v (.bool false)), (.v (.bool false)), (.v (.bool false)), (.v (.bool false)), (.v (.bool false)), (.v (.bool false)), (.v (.bool false)), (.v (.bool false)), (.v (.bool false)), (.v (.bool false)), (.v (.bool false)), (.v (.bool false)), (.v (.bool false)), (.v (.bool false)), (.v (.bool false)), (.v (.bool false)), (.v (.bool false)), (.v (.bool false)), (.v (.bool false)), (.v (.bool false)), (.v (.bool false)), (.v (.bool false)), (.v (.bool false)), (.v (.bool false)), (.v (.bool false)), (.v (.bool false)), (.v (.bool false)), (.v (.bool false)), (.v (.bool false)), (.v (.bool false)), (.v (.bool false)), (.v (.bool false)), (.v (.bool false)), (.v (.bool false)), (.v (.bool false)), (.v (.bool false)), (.v (.bool false)), (.v (.bool false)), (.v (.bool false)), (.v (.bool false)), (.v (.bool false)), (.v (.bool false)), (.v (.bool false)), (.v (.bool false)), (.v (.bool false)), (.v (.bool false)), (.v (.bool false)), (.v (.bool false)), (.v (.bool false)), (.v (.bool false)), (.v (.bool false)), (.v (.bool false)), (.v (.bool false)), (.v (.bool false)), (.v (.bool false)), (.v (.bool false)), (.v (.bool false)), (.v (.bool false)), (.v (.bool false)), (.v (.bool false)), (.v (.bool false)), (.v (.bool false)), (.v (.bool false)), (.v (.bool false)), (.v (.bool false)), (.v (.bool false)), (.v (.bool false)), (.v (.bool false)), (.v (.bool false)), (.v (.bool false)), (.v (.bool false)), (.v (.bool false)), (.v (.bool false)), (.v (.bool false)), (.v (.bool false)), (.v (.bool false)), (.v (.bool false)), (.v (.bool false)), (.v (.bool false)), (.v (.bool false)), (.v (.bool false)), (.v (.bool false)), (.v (.bool false)), (.v (.bool false)), (.v (.bool false)), (.v (.bool false)), (.v (.bool false)), (.v (.bool false)), (.v (.bool false)), (.v (.bool false)), (.v (.bool false)), (.v (.bool false)), (.v (.bool false)), (.v (.bool false)), (.v (.bool false)), (.v (.bool false)), (.v (.bool false)), (.v (.bool false)), (.v (.bool false)), (.v (.bool false)), (.v (.bool false)), (.v (.bool false)), (.v (.bool false)), (.v (.bool false)), (.v (.bool false)), (.v (.bool false)), (.v (.bool false)), (.v (.bool false)), (.v (.bool false)), (.v (.bool false)), (.v (.bool false)), (.v (.bool false)), (.v (.bool false)), (.v (.bool false)), (.v (.bool false)), (.v (.bool false)), (.v (.bool false)), (.v (.bool false)), (.v (.bool false)), (.v (.bool false)), (.v (.bool false)), (.v (.bool false)), (.v (.bool false)), (.v (.bool false)), (.v (.bool false)), (.v (.bool false)), (.v (.bool false)), (.v (.bool false)), (.v (.bool false)), (.v (.bool false)), (.v (.bool false)), (.v (.bool false)), (.v (.bool false)), (.v (.bool false)), (.v (.bool false)), (.v (.bool false)), (.v (.bool false)), (.v (.bool false)), (.v (.bool false)), (.v (.bool false)), (.v (.bool false)), (.v (.bool false)), (.v (.bool false)), (.v (.bool false)), (.v (.bool false)), (.v (.bool false)), (.v (.bool false)), (.v (.bool false)), (.v (.bool false)), (.v (.bool false)), (.v (.bool false)), (.v (.bool false)), (.v (.bool false)), (.v (.bool false)), (.v (.bool false)), (.v (.bool false)), (.v (.bool false)), (.v (.bool false)), (.v (.bool false)), (.v (.bool false)), (.v (.bool false)), (.v (.bool false)), (.v (.bool false)), (.v (.bool false)), (.v (.bool false)), (.v (.bool false)), (.v (.bool false)), (.v (.bool false)), (.v (.bool false)), (.v (.bool false)), (.v (.bool false)), (.v (.bool false)), (.v (.bool false)), (.v (.bool false)), (.v (.bool false)), (.v (.bool false)), (.v (.bool false)), (.v (.bool false)), (.v (.bool false)), (.v (.bool false)), (.v (.bool false)), (.v (.bool false)), (.v (.bool false)), (.v (.bool false)), (.v (.bool false)), (.v (.bool false)), (.v (.bool false)), (.v (.bool false)), (.v (.bool false)), (.v (.bool false)), (.v (.bool false)), (.v (.bool false)), (.v (.bool false)), (.v (.bool false)), (.v (.bool false)), (.v (.bool false)), (.v (.bool false)), (.v (.bool false)), (.v (.bool false)), (.v (.bool false)), (.v (.bool false)), (.v (.bool false)), (.v (.bool false)), (.v (.bool false)), (.v (.bool false)), (.v (.bool false)), (.v (.bool false)), (.v (.bool false)), (.v (.bool false)), (.v (.bool false)), (.v (.bool false)), (.v (.bool false)), (.v (.bool false)), (.v (.bool false)), (.v (.bool false)), (.v (.bool false)), (.v (.bool false)), (.v (.bool false)), (.v (.bool false)), (.v (.bool false)), (.v (.bool false)), (.v (.bool false)), (.v (.bool false)), (.v (.bool false)), (.v (.bool false)), (.v (.bool false)), (.v (.bool false)), (.v (.bool false)), (.v (.bool false)), (.v (.bool false)), (.v (.bool false)), (.v (.bool false)), (.v (.bool false)), (.v (.bool false)), (.v (.bool false)), (.v (.bool false)), (.v (.bool false)), (.v (.bool false)), (.v (.bool false)), (.v (.bool false)), (.v (.bool false)), (.v (.bool false)), (.v (.bool false)), (.v (.bool false)), (.v (.bool false)), (.v (.bool false)), (.v (.bool false)), (.v (.bool false)), (.v (.bool false))]))⟩,
    ⟨none, none, .store 256 (.t 5) (.t 31)⟩,
    ⟨(some 6), none, .mv (.t 32)⟩])
  (.seq (.reg [] [⟨(some 33), none, .mv (.t 6)⟩])
  (.cond (.t 33) (.seq (.reg [] [⟨(some 34), none, .mv (.t 0)⟩,
    ⟨(some 35), none, .call 239 [(.t 34), (.t 5)]⟩,
    ⟨(some 36), none, .call 238 [(.t 35), (.t 5)]⟩,
    ⟨(some 4), none, .mv (.t 36)⟩])
  .ret)
  .skip)))
  (.seq (.reg [] [⟨(some 37), none, .mv (.t 0)⟩,
    ⟨(some 38), none, .mv (.t 1)⟩,
    ⟨(some 39), none, .call 241 [(.t 37), (.t 38)]⟩,
    ⟨(some 40), none, .mv (.t 1)⟩,
    ⟨(some 41), none, .call 240 [(.t 39), (.t 40)]⟩,
    ⟨(some 4), none, .mv (.t 41)⟩])
  .ret)))))), [.tmp 4]⟩
noncomputable def k198 : List (List Nat) := []
theorem t198 : toRFn C k198 198 = some r198 := by kernel_rfl
/-- linkboy/object.every[string] -/
noncomputable def r199 : RFn := ⟨9, (.seq (.reg [] [⟨(some 3), none, .box (.t 1)⟩,
    ⟨(some 4), none, .mv (.c (.v (.bool false)))⟩])
  (.seq (.reg [] [⟨(some 5), none, .mv (.t 0)⟩,
    ⟨(some 6), none, .fn (.func 243) [] [(.t 3)]⟩,
    ⟨(some 7), none, .call 242 [(.t 5), (.t 6)]⟩,
    ⟨(some 8), none, .un .not (.t 7)⟩,
    ⟨(some 4), none, .mv (.t 8)⟩])
  .ret)), [.tmp 4]⟩
noncomputable def k199 : List (List Nat) := []
theorem t199 : toRFn C k199 199 = some r199 := by kernel_rfl
/-- slices.IsSorted[[]string,string] -/
noncomputable def r200 : RFn := ⟨21, (.seq (.reg [] [⟨(some 2), none, .mv (.c (.v (.bool false)))⟩])
  (.seq (.seq (.reg [] [⟨(some 4), none, .mv (.t 0)⟩,
    ⟨(some 5), none, .len .sl (.t 4)⟩,
    ⟨(some 6), none, .bin .sub (.t 5) (.c (.v (.int .i64 1)))⟩,
    ⟨(some 3), none, .mv (.t 6)⟩])
  (.block 0 (.loop [0, 3] (.seq (.seq (.reg [] [⟨(some 7), none, .mv (.t 3)⟩,
    ⟨(some 8), none, .bin .gtr (.t 7) (.c (.v (.int .i64 0)))⟩])
  (.cond (.t 8) .skip
  (.exit 0)))
  (.seq (.block 1 (.seq (.reg [] [⟨(some 11), none, .mv (.t 0)⟩,
    ⟨(some 12), none, .mv (.t 3)⟩,
    ⟨(some 13), none, .iaS 1 (.t 11) (.t 12)⟩,
    ⟨(some 14), none, .load none (.t 13)⟩,
    ⟨(some 15), none, .mv (.t 0)⟩,
    ⟨(some 16), none, .mv (.t 3)⟩,
    ⟨(some 17), none, .bin .sub (.t 16) (.c (.v (.int .i64 1)))⟩,
    ⟨(some 18), none, .iaS 1 (.t 15) (.t 17)⟩,
    ⟨(some 19), none, .load none (.t 18)⟩,
    ⟨(some 20), none, .call 244 [(.t 14), (.t 19)]⟩])
  (.cond (.t 20) (.seq (.reg [] [⟨(some 2), none, .mv (.c (.v (.bool false)))⟩])
  .ret)
  .skip)))
  (.reg [] [⟨(some 9), none, .mv (.t 3)⟩,
    ⟨(some 10), none, .bin .sub (.t 9) (.c (.v (.int .i64 1)))⟩,
    ⟨(some 3), none, .mv (.t 10)⟩]))))))
  (.seq (.reg [] [⟨(some 2), none, .mv (.c (.v (.bool true)))⟩])
  .ret))), [.tmp 2]⟩
noncomputable def k200 : List (List Nat) := [[0, 3]]
theorem t200 : toRFn C k200 200 = some r200 := by kernel_rfl
/-- linkboy/object.unlike[string,string] -/
noncomputable def r201 : RFn := ⟨27, (.seq (.reg [] [⟨(some 4), none, .mv (.c (.v (.bool false)))⟩])
  (.seq (.reg [] [⟨(some 8), none, .mkmap⟩,
    ⟨(some 5), none, .mv (.t 8)⟩])
  (.seq (.seq (.reg [] [⟨(some 9), none, .mv (.t 0)⟩,
    ⟨(some 10), none, .len .sl (.t 9)⟩,
    ⟨(some 11), none, .mv (.c (.v (.int .i64 0)))⟩])
  (.block 0 (.loop [0, 1, 5, 9, 10, 11] (.seq (.reg [] [⟨(some 12), none, .bin .lss (.t 11) (.t 10)⟩])
  (.seq (.cond (.t 12) .skip
  (.exit 0))
  (.seq (.block 1 (.seq (.reg [] [⟨(some 13), none, .iaS 1 (.t 9) (.t 11)⟩,
    ⟨(some 14), none, .load none (.t 13)⟩,
    ⟨(some 7), none, .mv (.t 14)⟩])
  (.reg [] [⟨(some 15), none, .mv (.t 5)⟩,
    ⟨(some 16), none, .mv (.t 1)⟩,
    ⟨(some 17), none, .mv (.t 7)⟩,
    ⟨(some 18), none, .callv (.t 16) [(.t 17)]⟩,
    ⟨(some 19), none, .look false [.str] (.v (.int .i64 0)) false (.t 15) (.t 18)⟩,
    ⟨(some 20), none, .bin .add (.t 19) (.c (.v (.int .i64 1)))⟩,
    ⟨none, none, .mset false [.str] (.t 15) (.t 18) (.t 20)⟩])))
  (.reg [] [⟨(some 21), none, .bin .add (.t 11) (.c (.v (.int .i64 1)))⟩,
    ⟨(some 11), none, .mv (.t 21)⟩])))))))
  (.seq (.reg [] [⟨(some 22), none, .mv (.t 5)⟩,
    ⟨(some 23), none, .len .map (.t 22)⟩,
    ⟨(some 24), none, .mv (.t 0)⟩,
    ⟨(some 25), none, .len .sl (.t 24)⟩,
    ⟨(some 26), none, .bin .eql (.t 23) (.t 25)⟩,
    ⟨(some 4), none, .mv (.t 26)⟩])
  .ret)))), [.tmp 4]⟩
noncomputable def k201 : List (List Nat) := [[0, 1, 5, 9, 10, 11]]
theorem t201 : toRFn C k201 201 = some r201 := by kernel_rfl
/-- linkboy/object.zoned$1 -/
noncomputable def r202 : RFn := ⟨4, (.seq (.reg [] [⟨(some 2), none, .mv (.c (.v (.string ⟨⟨[]⟩⟩)))⟩])
  (.seq (.reg [] [⟨(some 3), none, .mv (.t 0)⟩,
    ⟨(some 2), none, .mv (.t 3)⟩])
  .ret)), [.tmp 2]⟩
noncomputable def k202 : List (List Nat) := []
theorem t202 : toRFn C k202 202 = some r202 := by kernel_rfl
/-- linkboy/object.unlike[linkboy/object.Port,string] -/
noncomputable def r203 : RFn := ⟨27, (.seq (.reg [] [⟨(some 4), none, .mv (.c (.v (.bool false)))⟩])
  (.seq (.reg [] [⟨(some 8), none, .mkmap⟩,
    ⟨(some 5), none, .mv (.t 8)⟩])
  (.seq (.seq (.reg [] [⟨(some 9), none, .mv (.t 0)⟩,
    ⟨(some 10), none, .len .sl (.t 9)⟩,
    ⟨(some 11), none, .mv (.c (.v (.int .i64 0)))⟩])
  (.block 0 (.loop [0, 1, 5, 9, 10, 11] (.seq (.reg [] [⟨(some 12), none, .bin .lss (.t 11) (.t 10)⟩])
  (.seq (.cond (.t 12) .skip
  (.exit 0))
  (.seq (.block 1 (.seq (.reg [] [⟨(some 13), none, .iaS 4 (.t 9) (.t 11)⟩,
    ⟨(some 14), none, .load (some 4) (.t 13)⟩,
    ⟨(some 7), none, .box (.c (.agg [(.v (.string ⟨⟨[]⟩⟩)), (.v (.int .i64 0)), (.v (.int .i64 0)), (.v (.int .i64 0))]))⟩,
    ⟨none, none, .store 4 (.t 7) (.t 14)⟩])
  (.reg [] [⟨(some 15), none, .mv (.t 5)⟩,
    ⟨(some 16), none, .mv (.t 1)⟩,
    ⟨(some 17), none, .load (some 4) (.t 7)⟩,
    ⟨(some 18), none, .callv (.t 16) [(.t 17)]⟩,
    ⟨(some 19), none, .look false [.str] (.v (.int .i64 0)) false (.t 15) (.t 18)⟩,
    ⟨(some 20), none, .bin .add (.t 19) (.c (.v (.int .i64 1)))⟩,
    ⟨none, none, .mset false [.str] (.t 15) (.t 18) (.t 20)⟩])))
  (.reg [] [⟨(some 21), none, .bin .add (.t 11) (.c (.v (.int .i64 1)))⟩,
    ⟨(some 11), none, .mv (.t 21)⟩])))))))
  (.seq (.reg [] [⟨(some 22), none, .mv (.t 5)⟩,
    ⟨(some 23), none, .len .map (.t 22)⟩,
    ⟨(some 24), none, .mv (.t 0)⟩,
    ⟨(some 25), none, .len .sl (.t 24)⟩,
    ⟨(some 26), none, .bin .eql (.t 23) (.t 25)⟩,
    ⟨(some 4), none, .mv (.t 26)⟩])
  .ret)))), [.tmp 4]⟩
noncomputable def k203 : List (List Nat) := [[0, 1, 5, 9, 10, 11]]
theorem t203 : toRFn C k203 203 = some r203 := by kernel_rfl
/-- linkboy/object.named$1 -/
noncomputable def r204 : RFn := ⟨5, (.seq (.reg [] [⟨(some 1), none, .box (.t 0)⟩,
    ⟨(some 2), none, .mv (.c (.v (.string ⟨⟨[]⟩⟩)))⟩])
  (.seq (.reg [] [⟨(some 3), none, .fa 0 (.t 1)⟩,
    ⟨(some 4), none, .load none (.t 3)⟩,
    ⟨(some 2), none, .mv (.t 4)⟩])
  .ret)), [.tmp 2]⟩
noncomputable def k204 : List (List Nat) := []
theorem t204 : toRFn C k204 204 = some r204 := by kernel_rfl
/-- slices.ContainsFunc[[][]linkboy/api.Addr,[]linkboy/api.Addr] -/
noncomputable def r208 : RFn := ⟨9, (.seq (.reg [] [⟨(some 4), none, .mv (.c (.v (.bool false)))⟩])
  (.seq (.reg [] [⟨(some 5), none, .mv (.t 0)⟩,
    ⟨(some 6), none, .mv (.t 1)⟩,
    ⟨(some 7), none, .call 245 [(.t 5), (.t 6)]⟩,
    ⟨(some 8), none, .bin .geq (.t 7) (.c (.v (.int .i64 0)))⟩,
    ⟨(some 4), none, .mv (.t 8)⟩])
  .ret)), [.tmp 4]⟩
noncomputable def k208 : List (List Nat) := []
theorem t208 : toRFn C k208 208 = some r208 := by kernel_rfl
/-- linkboy/object.every[[]linkboy/api.Addr]$1 -/
noncomputable def r209 : RFn := ⟨8, (.seq (.reg [] [⟨(some 3), none, .mv (.c (.v (.bool false)))⟩])
  (.seq (.reg [] [⟨(some 4), none, .load none (.t 1)⟩,
    ⟨(some 5), none, .mv (.t 0)⟩,
    ⟨(some 6), none, .callv (.t 4) [(.t 5)]⟩,
    ⟨(some 7), none, .un .not (.t 6)⟩,
    ⟨(some 3), none, .mv (.t 7)⟩])
  .ret)), [.tmp 3]⟩
noncomputable def k209 : List (List Nat) := []
theorem t209 : toRFn C k209 209 = some r209 := by kernel_rfl
/-- slices.ContainsFunc[[]linkboy/api.Cidr,linkboy/api.Cidr] -/
noncomputable def r210 : RFn := ⟨9, (.seq (.reg [] [⟨(some 4), none, .mv (.c (.v (.bool false)))⟩])
  (.seq (.reg [] [⟨(some 5), none, .mv (.t 0)⟩,
    ⟨(some 6), none, .mv (.t 1)⟩,
    ⟨(some 7), none, .call 246 [(.t 5), (.t 6)]⟩,
    ⟨(some 8), none, .bin .geq (.t 7) (.c (.v (.int .i64 0)))⟩,
    ⟨(some 4), none, .mv (.t 8)⟩])
  .ret)), [.tmp 4]⟩
noncomputable def k210 : List (List Nat) := []
theorem t210 : toRFn C k210 210 = some r210 := by kernel_rfl
/-- linkboy/object.every[linkboy/api.Cidr]$1 -/
noncomputable def r211 : RFn := ⟨8, (.seq (.reg [] [⟨(some 2), none, .box (.t 0)⟩,
    ⟨(some 3), none, .mv (.c (.v (.bool false)))⟩])
  (.seq (.reg [] [⟨(some 4), none, .load none (.t 1)⟩,
    ⟨(some 5), none, .load (some 18) (.t 2)⟩,
    ⟨(some 6), none, .callv (.t 4) [(.t 5)]⟩,
    ⟨(some 7), none, .un .not (.t 6)⟩,
    ⟨(some 3), none, .mv (.t 7)⟩])
  .ret)), [.tmp 3]⟩
noncomputable def k211 : List (List Nat) := []
theorem t211 : toRFn C k211 211 = some r211 := by kernel_rfl
/-- linkboy/cidr.fits -/
noncomputable def r212 : RFn := ⟨13, (.seq (.reg [] [⟨(some 2), none, .box (.t 0)⟩,
    ⟨(some 4), none, .mv (.c (.v (.bool false)))⟩])
  (.seq (.reg [] [⟨(some 5), none, .mv (.t 1)⟩,
    ⟨(some 6), none, .bin .geq (.t 5) (.c (.v (.int .i64 0)))⟩,
    ⟨(some 7), none, .mv (.t 6)⟩,
    ⟨(some 8), (some (7, true)), .mv (.t 1)⟩,
    ⟨(some 9), (some (7, true)), .load (some 17) (.t 2)⟩,
    ⟨(some 10), (some (7, true)), .call 247 [(.t 9)]⟩,
    ⟨(some 11), (some (7, true)), .bin .leq (.t 8) (.t 10)⟩,
    ⟨(some 12), none, .pick (.t 7) (.t 11) (.c (.v (.bool false)))⟩,
    ⟨(some 4), none, .mv (.t 12)⟩])
  .ret)), [.tmp 4]⟩
noncomputable def k212 : List (List Nat) := []
theorem t212 : toRFn C k212 212 = some r212 := by kernel_rfl
/-- linkboy/cidr.cut -/
noncomputable def r213 : RFn := ⟨28, (.seq (.reg [] [⟨(some 2), none, .box (.t 0)⟩,
    ⟨(some 4), none, .box (.c (.agg [(.v (.bool false)), (.v (.int .u8 0)), (.v (.int .u8 0)), (.v (.int .u8 0)), (.v (.int .u8 0)), (.v (.int .u8 0)), (.v (.int .u8 0)), (.v (.int .u8 0)), (.v (.int .u8 0)), (.v (.int .u8 0)), (.v (.int .u8 0)), (.v (.int .u8 0)), (.v (.int .u8 0)), (.v (.int .u8 0)), (.v (.int .u8 0)), (.v (.int .u8 0)), (.v (.int .u8 0))]))⟩])
  (.seq (.seq (.reg [] [⟨(some 7), none, .mv (.c (.v (.int .i64 0)))⟩])
  (.block 0 (.loop [1, 2, 4, 7] (.seq (.reg [] [⟨(some 8), none, .bin .lss (.t 7) (.c (.v (.int .i64 16)))⟩])
  (.seq (.cond (.t 8) .skip
  (.exit 0))
  (.seq (.block 1 (.seq (.reg [] [⟨(some 9), none, .mv (.t 7)⟩,
    ⟨(some 5), none, .mv (.t 9)⟩])
  (.seq (.reg [] [⟨(some 10), none, .mv (.t 1)⟩,
    ⟨(some 11), none, .mv (.t 5)⟩,
    ⟨(some 12), none, .bin .mul (.c (.v (.int .i64 8))) (.t 11)⟩,
    ⟨(some 13), none, .bin .sub (.t 10) (.t 12)⟩,
    ⟨(some 14), none, .mm true [(.t 13), (.c (.v (.int .i64 0)))]⟩,
    ⟨(some 15), none, .mm false [(.t 14), (.c (.v (.int .i64 8)))]⟩,
    ⟨(some 6), none, .mv (.t 15)⟩])
  (.reg [] [⟨(some 16), none, .mv (.t 5)⟩,
    ⟨(some 17), none, .fa 1 (.t 2)⟩,
    ⟨(some 18), none, .iaA 1 16 (.t 17) (.t 16)⟩,
    ⟨(some 19), none, .load none (.t 18)⟩,
    ⟨(some 20), none, .mv (.t 6)⟩,
    ⟨(some 21), none, .bin .shr (.c (.v (.int .u16 65280))) (.t 20)⟩,
    ⟨(some 22), none, .cint .u8 (.t 21)⟩,
    ⟨(some 23), none, .bin .and (.t 19) (.t 22)⟩,
    ⟨(some 24), none, .fa 1 (.t 2)⟩,
    ⟨(some 25), none, .iaA 1 16 (.t 24) (.t 16)⟩,
    ⟨none, none, .store 1 (.t 25) (.t 23)⟩]))))
  (.reg [] [⟨(some 26), none, .bin .add (.t 7) (.c (.v (.int .i64 1)))⟩,
    ⟨(some 7), none, .mv (.t 26)⟩])))))))
  (.seq (.reg [] [⟨(some 27), none, .load (some 17) (.t 2)⟩,
    ⟨none, none, .store 17 (.t 4) (.t 27)⟩])
  .ret))), [.cell 4 (some 17)]⟩
noncomputable def k213 : List (List Nat) := [[1, 2, 4, 7]]
theorem t213 : toRFn C k213 213 = some r213 := by kernel_rfl
/-- linkboy/object.unlike[linkboy/object.Port,[2]int] -/
noncomputable def r214 : RFn := ⟨29, (.seq (.reg [] [⟨(some 4), none, .mv (.c (.v (.bool false)))⟩])
  (.seq (.reg [] [⟨(some 8), none, .mkmap⟩,
    ⟨(some 5), none, .mv (.t 8)⟩])
  (.seq (.seq (.reg [] [⟨(some 9), none, .mv (.t 0)⟩,
    ⟨(some 10), none, .len .sl (.t 9)⟩,
    ⟨(some 11), none, .mv (.c (.v (.int .i64 0)))⟩])
  (.block 0 (.loop [0, 1, 5, 9, 10, 11] (.seq (.reg [] [⟨(some 12), none, .bin .lss (.t 11) (.t 10)⟩])
  (.seq (.cond (.t 12) .skip
  (.exit 0))
  (.seq (.block 1 (.seq (.reg [] [⟨(some 13), none, .iaS 4 (.t 9) (.t 11)⟩,
    ⟨(some 14), none, .load (some 4) (.t 13)⟩,
    ⟨(some 7), none, .box (.c (.agg [(.v (.string ⟨⟨[]⟩⟩)), (.v (.int .i64 0)), (.v (.int .i64 0)), (.v (.int .i64 0))]))⟩,
    ⟨none, none, .store 4 (.t 7) (.t 14)⟩])
  (.reg [(4, 6)] [⟨(some 15), none, .mv (.t 5)⟩,
    ⟨(some 16), none, .mv (.t 1)⟩,
    ⟨(some 17), none, .load (some 4) (.t 7)⟩,
    ⟨(some 18), none, .callv (.t 16) [(.t 17)]⟩,
    ⟨(some 19), none, .look true [.int, .int] (.v (.int .i64 0)) false (.t 15) (.t 18)⟩,
    ⟨(some 20), none, .bin .add (.t 19) (.c (.v (.int .i64 1)))⟩,
    ⟨(some 21), none, .ment true [.int, .int] (.v (.int .i64 0)) (.t 15) (.t 18)⟩,
    ⟨(some 22), none, .ext (.t 21) 1⟩,
    ⟨none, none, .mst (.t 15) (.t 22) (.t 20)⟩])))
  (.reg [] [⟨(some 23), none, .bin .add (.t 11) (.c (.v (.int .i64 1)))⟩,
    ⟨(some 11), none, .mv (.t 23)⟩])))))))
  (.seq (.reg [] [⟨(some 24), none, .mv (.t 5)⟩,
    ⟨(some 25), none, .len .map (.t 24)⟩,
    ⟨(some 26), none, .mv (.t 0)⟩,
    ⟨(some 27), none, .len .sl (.t 26)⟩,
    ⟨(some 28), none, .bin .eql (.t 25) (.t 27)⟩,
    ⟨(some 4), none, .mv (.t 28)⟩])
  .ret)))), [.tmp 4]⟩
noncomputable def k214 : List (List Nat) := [[0, 1, 5, 9, 10, 11]]
theorem t214 : toRFn C k214 214 = some r214 := by kernel_rfl
/-- linkboy/object.ported$1 -/
noncomputable def r215 : RFn := ⟨8, (.seq (.reg [] [⟨(some 1), none, .box (.t 0)⟩,
    ⟨(some 2), none, .box (.c (.agg [(.v (.int .i64 0)), (.v (.int .i64 0))]))⟩])
  (.seq (.reg [] [⟨(some 3), none, .fa 1 (.t 1)⟩,
    ⟨(some 4), none, .load none (.t 3)⟩,
    ⟨(some 5), none, .fa 2 (.t 1)⟩,
    ⟨(some 6), none, .load none (.t 5)⟩,
    ⟨(some 7), none, .build [(.v (.int .i64 0)), (.v (.int .i64 0))] [(0, 1, (.t 4)), (1, 1, (.t 6))]⟩,
    ⟨none, none, .store 2 (.t 2) (.t 7)⟩])
  .ret)), [.cell 2 (some 2)]⟩
noncomputable def k215 : List (List Nat) := []
theorem t215 : toRFn C k215 215 = some r215 := by kernel_rfl
/-- linkboy/object.outer -/
noncomputable def r216 : RFn := ⟨7, (.seq (.reg [] [⟨(some 1), none, .box (.t 0)⟩,
    ⟨(some 2), none, .mv (.c (.v (.bool false)))⟩])
  (.seq (.reg [] [⟨(some 3), none, .fa 7 (.t 1)⟩,
    ⟨(some 4), none, .load none (.t 3)⟩,
    ⟨(some 5), none, .fn (.func 248) [] [(.t 1)]⟩,
    ⟨(some 6), none, .call 112 [(.t 4), (.t 5)]⟩,
    ⟨(some 2), none, .mv (.t 6)⟩])
  .ret)), [.tmp 2]⟩
noncomputable def k216 : List (List Nat) := []
theorem t216 : toRFn C k216 216 = some r216 := by kernel_rfl
/-- bytes.Clone -/
noncomputable def r220 : RFn := ⟨8, (.seq (.reg [] [⟨(some 2), none, .mv (.c (.sl [] .nil))⟩])
  (.seq (.seq (.reg [] [⟨(some 3), none, .mv (.t 0)⟩,
    ⟨(some 4), none, .isn false 0 (.t 3)⟩])
  (.cond (.t 4) (.seq (.reg [] [⟨(some 2), none, .mv (.c (.sl [] .nil))⟩])
  .ret)
  .skip))
  (.seq (.reg [] [⟨(some 5), none, .bsl 1 0 (.v (.int .u8 0)) []⟩,
    ⟨(some 6), none, .mv (.t 0)⟩,
    ⟨(some 7), none, .app 1 1073741824 (.t 5) (.t 6)⟩,
    ⟨(some 2), none, .mv (.t 7)⟩])
  .ret))), [.tmp 2]⟩
noncomputable def k220 : List (List Nat) := []
theorem t220 : toRFn C k220 220 = some r220 := by kernel_rfl
/-- linkboy/addr.size -/
noncomputable def r221 : RFn := ⟨5, (.seq (.reg [] [⟨(some 1), none, .box (.t 0)⟩,
    ⟨(some 2), none, .mv (.c (.v (.int .i64 0)))⟩])
  (.seq (.seq (.reg [] [⟨(some 3), none, .fa 0 (.t 1)⟩,
    ⟨(some 4), none, .load none (.t 3)⟩])
  (.cond (.t 4) (.seq (.reg [] [⟨(some 2), none, .mv (.c (.v (.int .i64 16)))⟩])
  .ret)
  .skip))
  (.seq (.reg [] [⟨(some 2), none, .mv (.c (.v (.int .i64 4)))⟩])
  .ret))), [.tmp 2]⟩
noncomputable def k221 : List (List Nat) := []
theorem t221 : toRFn C k221 221 = some r221 := by kernel_rfl
/-- strings.trimLeftByte -/
noncomputable def r222 : RFn := ⟨17, (.seq (.reg [] [⟨(some 4), none, .mv (.c (.v (.string ⟨⟨[]⟩⟩)))⟩])
  (.seq (.block 0 (.loop [0, 1] (.seq (.seq (.reg [] [⟨(some 5), none, .mv (.t 0)⟩,
    ⟨(some 6), none, .len .str (.t 5)⟩,
    ⟨(some 7), none, .bin .gtr (.t 6) (.c (.v (.int .i64 0)))⟩,
    ⟨(some 8), none, .mv (.t 7)⟩,
    ⟨(some 9), (some (8, true)), .mv (.t 0)⟩,
    ⟨(some 10), (some (8, true)), .ixS (.t 9) (.c (.v (.int .i64 0)))⟩,
    ⟨(some 11), (some (8, true)), .mv (.t 1)⟩,
    ⟨(some 12), (some (8, true)), .bin .eql (.t 10) (.t 11)⟩,
    ⟨(some 13), none, .pick (.t 8) (.t 12) (.c (.v (.bool false)))⟩])
  (.cond (.t 13) .skip
  (.exit 0)))
  (.block 1 (.reg [] [⟨(some 14), none, .mv (.t 0)⟩,
    ⟨(some 15), none, .slStr (.t 14) (some (.c (.v (.int .i64 1)))) none⟩,
    ⟨(some 0), none, .mv (.t 15)⟩])))))
  (.seq (.reg [] [⟨(some 16), none, .mv (.t 0)⟩,
    ⟨(some 4), none, .mv (.t 16)⟩])
  .ret))), [.tmp 4]⟩
noncomputable def k222 : List (List Nat) := [[0, 1]]
theorem t222 : toRFn C k222 222 = some r222 := by kernel_rfl
/-- strings.trimRightByte -/
noncomputable def r223 : RFn := ⟨23, (.seq (.reg [] [⟨(some 4), none, .mv (.c (.v (.string ⟨⟨[]⟩⟩)))⟩])
  (.seq (.block 0 (.loop [0, 1] (.seq (.seq (.reg [] [⟨(some 5), none, .mv (.t 0)⟩,
    ⟨(some 6), none, .len .str (.t 5)⟩,
    ⟨(some 7), none, .bin .gtr (.t 6) (.c (.v (.int .i64 0)))⟩,
    ⟨(some 8), none, .mv (.t 7)⟩,
    ⟨(some 9), (some (8, true)), .mv (.t 0)⟩,
    ⟨(some 10), (some (8, true)), .mv (.t 0)⟩,
    ⟨(some 11), (some (8, true)), .len .str (.t 10)⟩,
    ⟨(some 12), (some (8, true)), .bin .sub (.t 11) (.c (.v (.int .i64 1)))⟩,
    ⟨(some 13), (some (8, true)), .ixS (.t 9) (.t 12)⟩,
    ⟨(some 14), (some (8, true)), .mv (.t 1)⟩,
    ⟨(some 15), (some (8, true)), .bin .eql (.t 13) (.t 14)⟩,
    ⟨(some 16), none, .pick (.t 8) (.t 15) (.c (.v (.bool false)))⟩])
  (.cond (.t 16) .skip
  (.exit 0)))
  (.block 1 (.reg [] [⟨(some 17), none, .mv (.t 0)⟩,
    ⟨(some 18), none, .mv (.t 0)⟩,
    ⟨(some 19), none, .len .str (.t 18)⟩,
    ⟨(some 20), none, .bin .sub (.t 19) (.c (.v (.int .i64 1)))⟩,
    ⟨(some 21), none, .slStr (.t 17) none (some (.t 20))⟩,
    ⟨(some 0), none, .mv (.t 21)⟩])))))
  (.seq (.reg [] [⟨(some 22), none, .mv (.t 0)⟩,
    ⟨(some 4), none, .mv (.t 22)⟩])
  .ret))), [.tmp 4]⟩
noncomputable def k223 : List (List Nat) := [[0, 1]]
theorem t223 : toRFn C k223 223 = some r223 := by kernel_rfl
/-- strings.makeASCIISet -/
noncomputable def r224 : RFn := ⟨21, (.seq (.reg [] [⟨(some 2), none, .box (.c (.agg [(.v (.bool false)), (.v (.bool false)), (.v (.bool false)), (.v (.bool false)), (.v (.bool false)), (.v (.bool false)), (.v (.bool false)), (.v (.bool false)), (.v (.bool false)), (.v (.bool false)), (.v (.bool false)), (.v (.bool false)), (.v (.bool false)), (.v (.bool false)), (.v (.bool false)), (.v (.bool false)), (.v (.bool false)), (.v (.bool false)), (.v (.bool false)), (.v (.bool false)), (.v (.bool false)), (.v (.bool false)), (.v (.bool false)), (.v (.bool false)), (.v (.bool false)), (.v (.bool false)), (.v (.bool false)), (.v (.bool false)), (.v (.bool false)), (.v (.bool false)), (.v (.bool false)), (.v (.bool false)), (.v (.bool false)), (.v (.bool false)), (.v (.bool false)), (.v (.bool false)), (.v (.bool false)), (.v (.bool false)), (.v (.bool false)), (.v (.bool false)), (.v (.bool false)), (.v (.bool false)), (.v (.bool false)), (.v (.bool false)), (.v (.bool false)), (.v (.bool false)), (.v (.bool false)), (.v (.bool false)), (.v (.bool false)), (.v (.bool false)), (.v (.bool false)), (.v (.bool false)), (.v (.bool false)), (.v (.bool false)), (.v (.bool false)), (.v (.bool false)), (.v (.bool false)), (.v (.bool false)), (.v (.bool false)), (.v (.bool false)), (.v (.bool false)), (.v (.bool false)), (.v (.bool false)), (.v (.bool false)), (.v (.bool false)), (.v (.bool false)), (.v (.bool false)), (.v (.bool false)), (.v (.bool false)), (.v (.bool false)), (.v (.bool false)), (.v (.bool false)), (.v (.bool false)), (.v (.bool false)), (.v (.bool false)), (.v (.bool false)), (.v (.bool false)), (.v (.bool false)), (.v (.bool false)), (.v (.bool false)), (.v (.bool false)), (.v (.bool false)), (.v (.bool false)), (.v (.bool false)), (.v (.bool false)), (.v (.bool false)), (.v (.bool false)), (.v (.bool false)), (.v (.bool false)), (.v (.bool false)), (.v (.bool false)), (.v (.bool false)), (.v (.bool false)), (.v (.bool false)), (.v (.bool false)), (.v (.bool false)), (.v (.bool false)), (.v (.bool false)), (.v (.bool false)), (.v (.bool false)), (.v (.bool false)), (.v (.bool false)), (.v (.bool false)), (.v (.bool false)), (.v (.bool false)), (.v (.bool false)), (.v (.bool false)), (.v (.bool false)), (.v (.bool false)), (.v (.bool false)), (.v (.bool false)), (.v (.bool false)), (.v (.bool false)), (.v (.bool false)), (.v (.bool false)), (.v (.bool false)), (.v (.bool false)), (.v (.bool false)), (.v (.bool false)), (.v (.bool false)), (.v (.bool false)), (.v (.bool false)), (.v (.bool false)), (.v (.bool false)), (.v (.bool false)), (.v (.bool false)), (.v (.bool false)), (.v (.bool false)), (.v (.bool false)), (.v (.bool false)), (.v (.bool false)), (.v (.bool false)), (.v (.bool false)), (.v (.bool false)), (.v (.bool false)), (.v (.bool false)), (.v (.bool false)), (.v (.bool false)), (.v (.bool false)), (.v (.bool false)), (.v (.bool false)), (.v (.bool false)), (.v (.bool false)), (.v (.bool false)), (.v (.bool false)), (.v (.bool false)), (.v (.bool false)), (.v (.bool false)), (.v (.bool false)), (.v (.bool false)), (.v (.bool false)), (.v (.bool false)), (.v (.bool false)), (.v (.bool false)), (.v (.bool false)), (.v (.bool false)), (.v (.bool false)), (.v (.bool false)), (.v (.bool false)), (.v (.bool false)), (.v (.bool false)), (.v (.bool false)), (.v (.bool false)), (.v (.bool false)), (.v (.bool false)), (.v (.bool false)), (.v (.bool false)), (.v (.bool false)), (.v (.bool false)), (.v (.bool false)), (.v (.bool false)), (.v (.bool false)), (.v (.bool false)), (.v (.bool false)), (.v (.bool false)), (.v (.bool false)), (.v (.bool false)), (.v (.bool false)), (.v (.bool false)), (.v (.bool false)), (.v (.bool false)), (.v (.bool false)), (.v (.bool false)), (.v (.bool false)), (.v (.bool false)), (.v (.bool false)), (.v (.bool false)), (.v (.bool false)), (.v (.bool false)), (.v (.bool false)), (.v (.bool false)), (.v (.bool false)), (.v (.bool false)), (.v (.bool false)), (.v (.bool false)), (.v (.bool false)), (.v (.bool false)), (.v (.bool false)), (.v (.bool false)), (.v (.bool false)), (.v (.bool false)), (.v (.bool false)), (.v (.bool false)), (.v (.bool false)), (.v (.bool false)), (.v (.bool false)), (.v (.bool false)), (.v (.bool false)), (.v (.bool false)), (.v (.bool false)), (.v (.bool false)), (.v (.bool false)), (.v (.bool false)), (.v (.bool false)), (.v (.bool false)), (.v (.bool false)), (.v (.bool false)), (.v (.bool false)), (.v (.bool false)), (.v (.bool false)), (.v (.bool false)), (.v (.bool false)), (.v (.bool false)), (.v (.bool false)), (.v (.bool false)), (.v (.bool false)), (.v (.bool false)), (.v (.bool false)), (.v (.bool false)), (.v (.bool false)), (.v (.bool false)), (.v (.bool false)), (.v (.bool false)), (.v (.bool false)), (.v (.bool false)), (.v (.bool false)), (.v (.bool false)), (.v (.bool false)), (.v (.bool false)), (.v (.bool false)), (.v (.bool false)), (.v (.bool false)), (.v (.bool false)), (.v (.bool false)), (.v (.bool false)), (.v (.bool false)), (.v (.bool false)), (.v (.bool false)), (.v (.bool false)), (.v (.bool false)), (.v (.bool false)), (.v (.bool false)), (.v (.bool false)), (.v (.bool false)), (.v (.bool false)), (.v (.bool false))]))⟩,
    ⟨(some 3), none, .mv (.c (.v (.bool false)))⟩])
  (.seq (.seq (.reg [] [⟨(some 4), none, .mv (.c (.v (.int .i64 0)))⟩])
  (.block 0 (.loop [0, 2, 4] (.seq (.seq (.reg [] [⟨(some 6), none, .mv (.t 4)⟩,
    ⟨(some 7), none, .mv (.t 0)⟩,
    ⟨(some 8), none, .len .str (.t 7)⟩,
    ⟨(some 9), none, .bin .lss (.t 6) (.t 8)⟩])
  (.cond (.t 9) .skip
  (.exit 0)))
  (.seq (.block 1 (.seq (.reg [] [⟨(some 12), none, .mv (.t 0)⟩,
    ⟨(some 13), none, .mv (.t 4)⟩,
    ⟨(some 14), none, .ixS (.t 12) (.t 13)⟩,
    ⟨(some 5), none, .mv (.t 14)⟩])
  (.seq (.seq (.reg [] [⟨(some 15), none, .mv (.t 5)⟩,
    ⟨(some 16), none, .bin .geq (.t 15) (.c (.v (.int .u8 128)))⟩])
  (.cond (.t 16) (.seq (.reg [] [⟨(some 17), none, .load (some 256) (.t 2)⟩,
    ⟨none, none, .store 256 (.t 2) (.t 17)⟩,
    ⟨(some 3), none, .mv (.c (.v (.bool false)))⟩])
  .ret)
  .skip))
  (.reg [] [⟨(some 18), none, .mv (.t 5)⟩,
    ⟨(some 19), none, .iaA 1 256 (.t 2) (.t 18)⟩,
    ⟨none, none, .store 1 (.t 19) (.c (.v (.bool true)))⟩]))))
  (.reg [] [⟨(some 10), none, .mv (.t 4)⟩,
    ⟨(some 11), none, .bin .add (.t 10) (.c (.v (.int .i64 1)))⟩,
    ⟨(some 4), none, .mv (.t 11)⟩]))))))
  (.seq (.reg [] [⟨(some 20), none, .load (some 256) (.t 2)⟩,
    ⟨none, none, .store 256 (.t 2) (.t 20)⟩,
    ⟨(some 3), none, .mv (.c (.v (.bool true)))⟩])
  .ret))), [.cell 2 (some 256), .tmp 3]⟩
noncomputable def k224 : List (List Nat) := [[0, 2, 4]]
theorem t224 : toRFn C k224 224 = some r224 := by kernel_rfl
/-- strings.trimLeftASCII -/
noncomputable def r225 : RFn := ⟨16, (.seq (.reg [] [⟨(some 4), none, .mv (.c (.v (.string ⟨⟨[]⟩⟩)))⟩])
  (.seq (.block 0 (.loop [0, 1] (.seq (.seq (.reg [] [⟨(some 5), none, .mv (.t 0)⟩,
    ⟨(some 6), none, .len .str (.t 5)⟩,
    ⟨(some 7), none, .bin .gtr (.t 6) (.c (.v (.int .i64 0)))⟩])
  (.cond (.t 7) .skip
  (.exit 0)))
  (.block 1 (.seq (.seq (.reg [] [⟨(some 8), none, .mv (.t 1)⟩,
    ⟨(some 9), none, .mv (.t 0)⟩,
    ⟨(some 10), none, .ixS (.t 9) (.c (.v (.int .i64 0)))⟩,
    ⟨(some 11), none, .call 250 [(.t 8), (.t 10)]⟩,
    ⟨(some 12), none, .un .not (.t 11)⟩])
  (.cond (.t 12) (.exit 0)
  .skip))
  (.reg [] [⟨(some 13), none, .mv (.t 0)⟩,
    ⟨(some 14), none, .slStr (.t 13) (some (.c (.v (.int .i64 1)))) none⟩,
    ⟨(some 0), none, .mv (.t 14)⟩]))))))
  (.seq (.reg [] [⟨(some 15), none, .mv (.t 0)⟩,
    ⟨(some 4), none, .mv (.t 15)⟩])
  .ret))), [.tmp 4]⟩
noncomputable def k225 : List (List Nat) := [[0, 1]]
theorem t225 : toRFn C k225 225 = some r225 := by kernel_rfl
/-- strings.trimRightASCII -/
noncomputable def r226 : RFn := ⟨22, (.seq (.reg [] [⟨(some 4), none, .mv (.c (.v (.string ⟨⟨[]⟩⟩)))⟩])
  (.seq (.block 0 (.loop [0, 1] (.seq (.seq (.reg [] [⟨(some 5), none, .mv (.t 0)⟩,
    ⟨(some 6), none, .len .str (.t 5)⟩,
    ⟨(some 7), none, .bin .gtr (.t 6) (.c (.v (.int .i64 0)))⟩])
  (.cond (.t 7) .skip
  (.exit 0)))
  (.block 1 (.seq (.seq (.reg [] [⟨(some 8), none, .mv (.t 1)⟩,
    ⟨(some 9), none, .mv (.t 0)⟩,
    ⟨(some 10), none, .mv (.t 0)⟩,
    ⟨(some 11), none, .len .str (.t 10)⟩,
    ⟨(some 12), none, .bin .sub (.t 11) (.c (.v (.int .i64 1)))⟩,
    ⟨(some 13), none, .ixS (.t 9) (.t 12)⟩,
    ⟨(some 14), none, .call 250 [(.t 8), (.t 13)]⟩,
    ⟨(some 15), none, .un .not (.t 14)⟩])
  (.cond (.t 15) (.exit 0)
  .skip))
  (.reg [] [⟨(some 16), none, .mv (.t 0)⟩,
    ⟨(some 17), none, .mv (.t 0)⟩,
    ⟨(some 18), none, .len .str (.t 17)⟩,
    ⟨(some 19), none, .bin .sub (.t 18) (.c (.v (.int .i64 1)))⟩,
    ⟨(some 20), none, .slStr (.t 16) none (some (.t 19))⟩,
    ⟨(some 0), none, .mv (.t 20)⟩]))))))
  (.seq (.reg [] [⟨(some 21), none, .mv (.t 0)⟩,
    ⟨(some 4), none, .mv (.t 21)⟩])
  .ret))), [.tmp 4]⟩
noncomputable def k226 : List (List Nat) := [[0, 1]]
theorem t226 : toRFn C k226 226 = some r226 := by kernel_rfl
/-- strings.trimLeftUnicode -/
noncomputable def r227 : RFn := ⟨23, (.seq (.reg [] [⟨(some 4), none, .mv (.c (.v (.string ⟨⟨[]⟩⟩)))⟩])
  (.seq (.block 0 (.loop [0, 1] (.seq (.seq (.reg [] [⟨(some 7), none, .mv (.t 0)⟩,
    ⟨(some 8), none, .len .str (.t 7)⟩,
    ⟨(some 9), none, .bin .gtr (.t 8) (.c (.v (.int .i64 0)))⟩])
  (.cond (.t 9) .skip
  (.exit 0)))
  (.block 1 (.seq (.reg [] [⟨(some 11), none, .mv (.t 0)⟩,
    ⟨(some 12), none, .call 251 [(.t 11)]⟩,
    ⟨(some 10), none, .mv (.t 12)⟩,
    ⟨(some 13), none, .ext (.t 10) 0⟩,
    ⟨(some 14), none, .ext (.t 10) 1⟩,
    ⟨(some 5), none, .mv (.t 13)⟩,
    ⟨(some 6), none, .mv (.t 14)⟩])
  (.seq (.seq (.reg [] [⟨(some 15), none, .mv (.t 1)⟩,
    ⟨(some 16), none, .mv (.t 5)⟩,
    ⟨(some 17), none, .call 252 [(.t 15), (.t 16)]⟩,
    ⟨(some 18), none, .un .not (.t 17)⟩])
  (.cond (.t 18) (.exit 0)
  .skip))
  (.reg [] [⟨(some 19), none, .mv (.t 0)⟩,
    ⟨(some 20), none, .mv (.t 6)⟩,
    ⟨(some 21), none, .slStr (.t 19) (some (.t 20)) none⟩,
    ⟨(some 0), none, .mv (.t 21)⟩])))))))
  (.seq (.reg [] [⟨(some 22), none, .mv (.t 0)⟩,
    ⟨(some 4), none, .mv (.t 22)⟩])
  .ret))), [.tmp 4]⟩
noncomputable def k227 : List (List Nat) := [[0, 1]]
theorem t227 : toRFn C k227 227 = some r227 := by kernel_rfl
/-- strings.trimRightUnicode -/
noncomputable def r228 : RFn := ⟨34, (.seq (.reg [] [⟨(some 4), none, .mv (.c (.v (.string ⟨⟨[]⟩⟩)))⟩])
  (.seq (.block 0 (.loop [0, 1] (.seq (.seq (.reg [] [⟨(some 7), none, .mv (.t 0)⟩,
    ⟨(some 8), none, .len .str (.t 7)⟩,
    ⟨(some 9), none, .bin .gtr (.t 8) (.c (.v (.int .i64 0)))⟩])
  (.cond (.t 9) .skip
  (.exit 0)))
  (.block 1 (.seq (.reg [] [⟨(some 10), none, .mv (.t 0)⟩,
    ⟨(some 11), none, .mv (.t 0)⟩,
    ⟨(some 12), none, .len .str (.t 11)⟩,
    ⟨(some 13), none, .bin .sub (.t 12) (.c (.v (.int .i64 1)))⟩,
    ⟨(some 14), none, .ixS (.t 10) (.t 13)⟩,
    ⟨(some 15), none, .cint .i32 (.t 14)⟩,
    ⟨(some 5), none, .mv (.t 15)⟩,
    ⟨(some 6), none, .mv (.c (.v (.int .i64 1)))⟩])
  (.seq (.seq (.reg [] [⟨(some 16), none, .mv (.t 5)⟩,
    ⟨(some 17), none, .bin .geq (.t 16) (.c (.v (.int .i32 128)))⟩])
  (.cond (.t 17) (.reg [] [⟨(some 19), none, .mv (.t 0)⟩,
    ⟨(some 20), none, .call 253 [(.t 19)]⟩,
    ⟨(some 18), none, .mv (.t 20)⟩,
    ⟨(some 21), none, .ext (.t 18) 0⟩,
    ⟨(some 22), none, .ext (.t 18) 1⟩,
    ⟨(some 5), none, .mv (.t 21)⟩,
    ⟨(some 6), none, .mv (.t 22)⟩])
  .skip))
  (.seq (.seq (.reg [] [⟨(some 23), none, .mv (.t 1)⟩,
    ⟨(some 24), none, .mv (.t 5)⟩,
    ⟨(some 25), none, .call 252 [(.t 23), (.t 24)]⟩,
    ⟨(some 26), none, .un .not (.t 25)⟩])
  (.cond (.t 26) (.exit 0)
  .skip))
  (.reg [] [⟨(some 27), none, .mv (.t 0)⟩,
    ⟨(some 28), none, .mv (.t 0)⟩,
    ⟨(some 29), none, .len .str (.t 28)⟩,
    ⟨(some 30), none, .mv (.t 6)⟩,
    ⟨(some 31), none, .bin .sub (.t 29) (.t 30)⟩,
    ⟨(some 32), none, .slStr (.t 27) none (some (.t 31))⟩,
    ⟨(some 0), none, .mv (.t 32)⟩]))))))))
  (.seq (.reg [] [⟨(some 33), none, .mv (.t 0)⟩,
    ⟨(some 4), none, .mv (.t 33)⟩])
  .ret))), [.tmp 4]⟩
noncomputable def k228 : List (List Nat) := [[0, 1]]
theorem t228 : toRFn C k228 228 = some r228 := by kernel_rfl
/-- internal/stringslite.HasPrefix -/
noncomputable def r229 : RFn := ⟨18, (.seq (.reg [] [⟨(some 4), none, .mv (.c (.v (.bool false)))⟩])
  (.seq (.reg [] [⟨(some 5), none, .mv (.t 0)⟩,
    ⟨(some 6), none, .len .str (.t 5)⟩,
    ⟨(some 7), none, .mv (.t 1)⟩,
    ⟨(some 8), none, .len .str (.t 7)⟩,
    ⟨(some 9), none, .bin .geq (.t 6) (.t 8)⟩,
    ⟨(some 10), none, .mv (.t 9)⟩,
    ⟨(some 11), (some (10, true)), .mv (.t 0)⟩,
    ⟨(some 12), (some (10, true)), .mv (.t 1)⟩,
    ⟨(some 13), (some (10, true)), .len .str (.t 12)⟩,
    ⟨(some 14), (some (10, true)), .slStr (.t 11) none (some (.t 13))⟩,
    ⟨(some 15), (some (10, true)), .mv (.t 1)⟩,
    ⟨(some 16), (some (10, true)), .bin .eql (.t 14) (.t 15)⟩,
    ⟨(some 17), none, .pick (.t 10) (.t 16) (.c (.v (.bool false)))⟩,
    ⟨(some 4), none, .mv (.t 17)⟩])
  .ret)), [.tmp 4]⟩
noncomputable def k229 : List (List Nat) := []
theorem t229 : toRFn C k229 229 = some r229 := by kernel_rfl
/-- internal/stringslite.HasSuffix -/
noncomputable def r230 : RFn := ⟨21, (.seq (.reg [] [⟨(some 4), none, .mv (.c (.v (.bool false)))⟩])
  (.seq (.reg [] [⟨(some 5), none, .mv (.t 0)⟩,
    ⟨(some 6), none, .len .str (.t 5)⟩,
    ⟨(some 7), none, .mv (.t 1)⟩,
    ⟨(some 8), none, .len .str (.t 7)⟩,
    ⟨(some 9), none, .bin .geq (.t 6) (.t 8)⟩,
    ⟨(some 10), none, .mv (.t 9)⟩,
    ⟨(some 11), (some (10, true)), .mv (.t 0)⟩,
    ⟨(some 12), (some (10, true)), .mv (.t 0)⟩,
    ⟨(some 13), (some (10, true)), .len .str (.t 12)⟩,
    ⟨(some 14), (some (10, true)), .mv (.t 1)⟩,
    ⟨(some 15), (some (10, true)), .len .str (.t 14)⟩,
    ⟨(some 16), (some (10, true)), .bin .sub (.t 13) (.t 15)⟩,
    ⟨(some 17), (some (10, true)), .slStr (.t 11) (some (.t 16)) none⟩,
    ⟨(some 18), (some (10, true)), .mv (.t 1)⟩,
    ⟨(some 19), (some (10, true)), .bin .eql (.t 17) (.t 18)⟩,
    ⟨(some 20), none, .pick (.t 10) (.t 19) (.c (.v (.bool false)))⟩,
    ⟨(some 4), none, .mv (.t 20)⟩])
  .ret)), [.tmp 4]⟩
noncomputable def k230 : List (List Nat) := []
theorem t230 : toRFn C k230 230 = some r230 := by kernel_rfl
/-- slices.ContainsFunc[[]linkboy/api.Addr,linkboy/api.Addr] -/
noncomputable def r231 : RFn := ⟨9, (.seq (.reg [] [⟨(some 4), none, .mv (.c (.v (.bool false)))⟩])
  (.seq (.reg [] [⟨(some 5), none, .mv (.t 0)⟩,
    ⟨(some 6), none, .mv (.t 1)⟩,
    ⟨(some 7), none, .call 254 [(.t 5), (.t 6)]⟩,
    ⟨(some 8), none, .bin .geq (.t 7) (.c (.v (.int .i64 0)))⟩,
    ⟨(some 4), none, .mv (.t 8)⟩])
  .ret)), [.tmp 4]⟩
noncomputable def k231 : List (List Nat) := []
theorem t231 : toRFn C k231 231 = some r231 := by kernel_rfl
/-- linkboy/object.every[linkboy/api.Addr]$1 -/
noncomputable def r232 : RFn := ⟨8, (.seq (.reg [] [⟨(some 2), none, .box (.t 0)⟩,
    ⟨(some 3), none, .mv (.c (.v (.bool false)))⟩])
  (.seq (.reg [] [⟨(some 4), none, .load none (.t 1)⟩,
    ⟨(some 5), none, .load (some 17) (.t 2)⟩,
    ⟨(some 6), none, .callv (.t 4) [(.t 5)]⟩,
    ⟨(some 7), none, .un .not (.t 6)⟩,
    ⟨(some 3), none, .mv (.t 7)⟩])
  .ret)), [.tmp 3]⟩
noncomputable def k232 : List (List Nat) := []
theorem t232 : toRFn C k232 232 = some r232 := by kernel_rfl
/-- slices.IndexFunc[[]linkboy/object.Port,linkboy/object.Port] -/
noncomputable def r233 : RFn := ⟨19, (.seq (.reg [] [⟨(some 4), none, .mv (.c (.v (.int .i64 0)))⟩])
  (.seq (.seq (.reg [] [⟨(some 6), none, .mv (.t 0)⟩,
    ⟨(some 7), none, .len .sl (.t 6)⟩,
    ⟨(some 8), none, .mv (.c (.v (.int .i64 0)))⟩])
  (.block 0 (.loop [0, 1, 7, 8] (.seq (.reg [] [⟨(some 9), none, .bin .lss (.t 8) (.t 7)⟩])
  (.seq (.cond (.t 9) .skip
  (.exit 0))
  (.seq (.block 1 (.seq (.reg [] [⟨(some 10), none, .mv (.t 8)⟩,
    ⟨(some 5), none, .mv (.t 10)⟩])
  (.seq (.reg [] [⟨(some 11), none, .mv (.t 1)⟩,
    ⟨(some 12), none, .mv (.t 0)⟩,
    ⟨(some 13), none, .mv (.t 5)⟩,
    ⟨(some 14), none, .iaS 4 (.t 12) (.t 13)⟩,
    ⟨(some 15), none, .load (some 4) (.t 14)⟩,
    ⟨(some 16), none, .callv (.t 11) [(.t 15)]⟩])
  (.cond (.t 16) (.seq (.reg [] [⟨(some 17), none, .mv (.t 5)⟩,
    ⟨(some 4), none, .mv (.t 17)⟩])
  .ret)
  .skip))))
  (.reg [] [⟨(some 18), none, .bin .add (.t 8) (.c (.v (.int .i64 1)))⟩,
    ⟨(some 8), none, .mv (.t 18)⟩])))))))
  (.seq (.reg [] [⟨(some 4), none, .mv (.c (.v (.int .i64 (-1))))⟩])
  .ret))), [.tmp 4]⟩
noncomputable def k233 : List (List Nat) := [[0, 1, 7, 8]]
theorem t233 : toRFn C k233 233 = some r233 := by kernel_rfl
/-- slices.IndexFunc[[]linkboy/object.Endpoint,linkboy/object.Endpoint] -/
noncomputable def r234 : RFn := ⟨19, (.seq (.reg [] [⟨(some 4), none, .mv (.c (.v (.int .i64 0)))⟩])
  (.seq (.seq (.reg [] [⟨(some 6), none, .mv (.t 0)⟩,
    ⟨(some 7), none, .len .sl (.t 6)⟩,
    ⟨(some 8), none, .mv (.c (.v (.int .i64 0)))⟩])
  (.block 0 (.loop [0, 1, 7, 8] (.seq (.reg [] [⟨(some 9), none, .bin .lss (.t 8) (.t 7)⟩])
  (.seq (.cond (.t 9) .skip
  (.exit 0))
  (.seq (.block 1 (.seq (.reg [] [⟨(some 10), none, .mv (.t 8)⟩,
    ⟨(some 5), none, .mv (.t 10)⟩])
  (.seq (.reg [] [⟨(some 11), none, .mv (.t 1)⟩,
    ⟨(some 12), none, .mv (.t 0)⟩,
    ⟨(some 13), none, .mv (.t 5)⟩,
    ⟨(some 14), none, .iaS 22 (.t 12) (.t 13)⟩,
    ⟨(some 15), none, .load (some 22) (.t 14)⟩,
    ⟨(some 16), none, .callv (.t 11) [(.t 15)]⟩])
  (.cond (.t 16) (.seq (.reg [] [⟨(some 17), none, .mv (.t 5)⟩,
    ⟨(some 4), none, .mv (.t 17)⟩])
  .ret)
  .skip))))
  (.reg [] [⟨(some 18), none, .bin .add (.t 8) (.c (.v (.int .i64 1)))⟩,
    ⟨(some 8), none, .mv (.t 18)⟩])))))))
  (.seq (.reg [] [⟨(some 4), none, .mv (.c (.v (.int .i64 (-1))))⟩])
  .ret))), [.tmp 4]⟩
noncomputable def k234 : List (List Nat) := [[0, 1, 7, 8]]
theorem t234 : toRFn C k234 234 = some r234 := by kernel_rfl
/-- bytes.trimLeftByte -/
noncomputable def r235 : RFn := ⟨21, (.seq (.reg [] [⟨(some 4), none, .mv (.c (.sl [] .nil))⟩])
  (.seq (.block 0 (.loop [0, 1] (.seq (.seq (.reg [] [⟨(some 5), none, .mv (.t 0)⟩,
    ⟨(some 6), none, .len .sl (.t 5)⟩,
    ⟨(some 7), none, .bin .gtr (.t 6) (.c (.v (.int .i64 0)))⟩,
    ⟨(some 8), none, .mv (.t 7)⟩,
    ⟨(some 9), (some (8, true)), .mv (.t 0)⟩,
    ⟨(some 10), (some (8, true)), .iaS 1 (.t 9) (.c (.v (.int .i64 0)))⟩,
    ⟨(some 11), (some (8, true)), .load none (.t 10)⟩,
    ⟨(some 12), (some (8, true)), .mv (.t 1)⟩,
    ⟨(some 13), (some (8, true)), .bin .eql (.t 11) (.t 12)⟩,
    ⟨(some 14), none, .pick (.t 8) (.t 13) (.c (.v (.bool false)))⟩])
  (.cond (.t 14) .skip
  (.exit 0)))
  (.block 1 (.reg [] [⟨(some 15), none, .mv (.t 0)⟩,
    ⟨(some 16), none, .slX 1 (.t 15) (some (.c (.v (.int .i64 1)))) none none⟩,
    ⟨(some 0), none, .mv (.t 16)⟩])))))
  (.seq (.seq (.reg [] [⟨(some 17), none, .mv (.t 0)⟩,
    ⟨(some 18), none, .len .sl (.t 17)⟩,
    ⟨(some 19), none, .bin .eql (.t 18) (.c (.v (.int .i64 0)))⟩])
  (.cond (.t 19) (.seq (.reg [] [⟨(some 4), none, .mv (.c (.sl [] .nil))⟩])
  .ret)
  .skip))
  (.seq (.reg [] [⟨(some 20), none, .mv (.t 0)⟩,
    ⟨(some 4), none, .mv (.t 20)⟩])
  .ret)))), [.tmp 4]⟩
noncomputable def k235 : List (List Nat) := [[0, 1]]
theorem t235 : toRFn C k235 235 = some r235 := by kernel_rfl
/-- bytes.trimRightByte -/
noncomputable def r236 : RFn := ⟨24, (.seq (.reg [] [⟨(some 4), none, .mv (.c (.sl [] .nil))⟩])
  (.seq (.block 0 (.loop [0, 1] (.seq (.seq (.reg [] [⟨(some 5), none, .mv (.t 0)⟩,
    ⟨(some 6), none, .len .sl (.t 5)⟩,
    ⟨(some 7), none, .bin .gtr (.t 6) (.c (.v (.int .i64 0)))⟩,
    ⟨(some 8), none, .mv (.t 7)⟩,
    ⟨(some 9), (some (8, true)), .mv (.t 0)⟩,
    ⟨(some 10), (some (8, true)), .mv (.t 0)⟩,
    ⟨(some 11), (some (8, true)), .len .sl (.t 10)⟩,
    ⟨(some 12), (some (8, true)), .bin .sub (.t 11) (.c (.v (.int .i64 1)))⟩,
    ⟨(some 13), (some (8, true)), .iaS 1 (.t 9) (.t 12)⟩,
    ⟨(some 14), (some (8, true)), .load none (.t 13)⟩,
    ⟨(some 15), (some (8, true)), .mv (.t 1)⟩,
    ⟨(some 16), (some (8, true)), .bin .eql (.t 14) (.t 15)⟩,
    ⟨(some 17), none, .pick (.t 8) (.t 16) (.c (.v (.bool false)))⟩])
  (.cond (.t 17) .skip
  (.exit 0)))
  (.block 1 (.reg [] [⟨(some 18), none, .mv (.t 0)⟩,
    ⟨(some 19), none, .mv (.t 0)⟩,
    ⟨(some 20), none, .len .sl (.t 19)⟩,
    ⟨(some 21), none, .bin .sub (.t 20) (.c (.v (.int .i64 1)))⟩,
    ⟨(some 22), none, .slX 1 (.t 18) none (some (.t 21)) none⟩,
    ⟨(some 0), none, .mv (.t 22)⟩])))))
  (.seq (.reg [] [⟨(some 23), none, .mv (.t 0)⟩,
    ⟨(some 4), none, .mv (.t 23)⟩])
  .ret))), [.tmp 4]⟩
noncomputable def k236 : List (List Nat) := [[0, 1]]
theorem t236 : toRFn C k236 236 = some r236 := by kernel_rfl
/-- bytes.makeASCIISet -/
noncomputable def r237 : RFn := ⟨21, (.seq (.reg [] [⟨(some 2), none, .box (.c (.agg [(.v (.bool false)), (.v (.bool false)), (.v (.bool false)), (.v (.bool false)), (.v (.bool false)), (.v (.bool false)), (.v (.bool false)), (.v (.bool false)), (.v (.bool false)), (.v (.bool false)), (.v (.bool false)), (.v (.bool false)), (.v (.bool false)), (.v (.bool false)), (.v (.bool false)), (.v (.bool false)), (.v (.bool false)), (.v (.bool false)), (.v (.bool false)), (.v (.bool false)), (.v (.bool false)), (.v (.bool false)), (.v (.bool false)), (.v (.bool false)), (.v (.bool false)), (.v (.bool false)), (.v (.bool false)), (.v (.bool false)), (.v (.bool false)), (.v (.bool false)), (.v (.bool false)), (.v (.bool false)), (.v (.bool false)), (.v (.bool false)), (.v (.bool false)), (.v (.bool false)), (.v (.bool false)), (.v (.bool false)), (.v (.bool false)), (.v (.bool false)), (.v (.bool false)), (.v (.bool false)), (.v (.bool false)), (.v (.bool false)), (.v (.bool false)), (.v (.bool false)), (.v (.bool false)), (.v (.bool false)), (.v (.bool false)), (.v (.bool false)), (.v (.bool false)), (.v (.bool false)), (.v (.bool false)), (.v (.bool false)), (.v (.bool false)), (.v (.bool false)), (.v (.bool false)), (.v (.bool false)), (.v (.bool false)), (.v (.bool false)), (.v (.bool false)), (.v (.bool false)), (.v (.bool false)), (.v (.bool false)), (.v (.bool false)), (.v (.bool false)), (.v (.bool false)), (.v (.bool false)), (.v (.bool false)), (.v (.bool false)), (.v (.bool false)), (.v (.bool false)), (.v (.bool false)), (.v (.bool false)), (.v (.bool false)), (.v (.bool false)), (.v (.bool false)), (.v (.bool false)), (.v (.bool false)), (.v (.bool false)), (.v (.bool false)), (.v (.bool false)), (.v (.bool false)), (.v (.bool false)), (.v (.bool false)), (.v (.bool false)), (.v (.bool false)), (.v (.bool false)), (.v (.bool false)), (.v (.bool false)), (.v (.bool false)), (.v (.bool false)), (.v (.bool false)), (.v (.bool false)), (.v (.bool false)), (.v (.bool false)), (.v (.bool false)), (.v (.bool false)), (.v (.bool false)), (.v (.bool false)), (.v (.bool false)), (.v (.bool false)), (.v (.bool false)), (.v (.bool false)), (.v (.bool false)), (.v (.bool false)), (.v (.bool false)), (.v (.bool false)), (.v (.bool false)), (.v (.bool false)), (.v (.bool false)), (.v (.bool false)), (.v (.bool false)), (.v (.bool false)), (.v (.bool false)), (.v (.bool false)), (.v (.bool false)), (.v (.bool false)), (.v (.bool false)), (.v (.bool false)), (.v (.bool false)), (.v (.bool false)), (.v (.bool false)), (.v (.bool false)), (.v (.bool false)), (.v (.bool false)), (.v (.bool false)), (.v (.bool false)), (.v (.bool false)), (.v (.bool false)), (.v (.bool false)), (.v (.bool false)), (.v (.bool false)), (.v (.bool false)), (.v (.bool false)), (.v (.bool false)), (.v (.bool false)), (.v (.bool false)), (.v (.bool false)), (.v (.bool false)), (.v (.bool false)), (.v (.bool false)), (.v (.bool false)), (.v (.bool false)), (.v (.bool false)), (.v (.bool false)), (.v (.bool false)), (.v (.bool false)), (.v (.bool false)), (.v (.bool false)), (.v (.bool false)), (.v (.bool false)), (.v (.bool false)), (.v (.bool false)), (.v (.bool false)), (.v (.bool false)), (.v (.bool false)), (.v (.bool false)), (.v (.bool false)), (.v (.bool false)), (.v (.bool false)), (.v (.bool false)), (.v (.bool false)), (.v (.bool false)), (.v (.bool false)), (.v (.bool false)), (.v (.bool false)), (.v (.bool false)), (.v (.bool false)), (.v (.bool false)), (.v (.bool false)), (.v (.bool false)), (.v (.bool false)), (.v (.bool false)), (.v (.bool false)), (.v (.bool false)), (.v (.bool false)), (.v (.bool false)), (.v (.bool false)), (.v (.bool false)), (.v (.bool false)), (.v (.bool false)), (.v (.bool false)), (.v (.bool false)), (.v (.bool false)), (.v (.bool false)), (.v (.bool false)), (.v (.bool false)), (.v (.bool false)), (.v (.bool false)), (.v (.bool false)), (.v (.bool false)), (.v (.bool false)), (.v (.bool false)), (.v (.bool false)), (.v (.bool false)), (.v (.bool false)), (.v (.bool false)), (.v (.bool false)), (.v (.bool false)), (.v (.bool false)), (.v (.bool false)), (.v (.bool false)), (.v (.bool false)), (.v (.bool false)), (.v (.bool false)), (.v (.bool false)), (.v (.bool false)), (.v (.bool false)), (.v (.bool false)), (.v (.bool false)), (.v (.bool false)), (.v (.bool false)), (.v (.bool false)), (.v (.bool false)), (.v (.bool false)), (.v (.bool false)), (.v (.bool false)), (.v (.bool false)), (.v (.bool false)), (.v (.bool false)), (.v (.bool false)), (.v (.bool false)), (.v (.bool false)), (.v (.bool false)), (.v (.bool false)), (.v (.bool false)), (.v (.bool false)), (.v (.bool false)), (.v (.bool false)), (.v (.bool false)), (.v (.bool false)), (.v (.bool false)), (.v (.bool false)), (.v (.bool false)), (.v (.bool false)), (.v (.bool false)), (.v (.bool false)), (.v (.bool false)), (.v (.bool false)), (.v (.bool false)), (.v (.bool false)), (.v (.bool false)), (.v (.bool false)), (.v (.bool false)), (.v (.bool false)), (.v (.bool false)), (.v (.bool false)), (.v (.bool false)), (.v (.bool false)), (.v (.bool false)), (.v (.bool false)), (.v (.bool false)), (.v (.bool false)), (.v (.bool false)), (.v (.bool false))]))⟩,
    ⟨(some 3), none, .mv (.c (.v (.bool false)))⟩])
  (.seq (.seq (.reg [] [⟨(some 4), none, .mv (.c (.v (.int .i64 0)))⟩])
  (.block 0 (.loop [0, 2, 4] (.seq (.seq (.reg [] [⟨(some 6), none, .mv (.t 4)⟩,
    ⟨(some 7), none, .mv (.t 0)⟩,
    ⟨(some 8), none, .len .str (.t 7)⟩,
    ⟨(some 9), none, .bin .lss (.t 6) (.t 8)⟩])
  (.cond (.t 9) .skip
  (.exit 0)))
  (.seq (.block 1 (.seq (.reg [] [⟨(some 12), none, .mv (.t 0)⟩,
    ⟨(some 13), none, .mv (.t 4)⟩,
    ⟨(some 14), none, .ixS (.t 12) (.t 13)⟩,
    ⟨(some 5), none, .mv (.t 14)⟩])
  (.seq (.seq (.reg [] [⟨(some 15), none, .mv (.t 5)⟩,
    ⟨(some 16), none, .bin .geq (.t 15) (.c (.v (.int .u8 128)))⟩])
  (.cond (.t 16) (.seq (.reg [] [⟨(some 17), none, .load (some 256) (.t 2)⟩,
    ⟨none, none, .store 256 (.t 2) (.t 17)⟩,
    ⟨(some 3), none, .mv (.c (.v (.bool false)))⟩])
  .ret)
  .skip))
  (.reg [] [⟨(some 18), none, .mv (.t 5)⟩,
    ⟨(some 19), none, .iaA 1 256 (.t 2) (.t 18)⟩,
    ⟨none, none, .store 1 (.t 19) (.c (.v (.bool true)))⟩]))))
  (.reg [] [⟨(some 10), none, .mv (.t 4)⟩,
    ⟨(some 11), none, .bin .add (.t 10) (.c (.v (.int .i64 1)))⟩,
    ⟨(some 4), none, .mv (.t 11)⟩]))))))
  (.seq (.reg [] [⟨(some 20), none, .load (some 256) (.t 2)⟩,
    ⟨none, none, .store 256 (.t 2) (.t 20)⟩,
    ⟨(some 3), none, .mv (.c (.v (.bool true)))⟩])
  .ret))), [.cell 2 (some 256), .tmp 3]⟩
noncomputable def k237 : List (List Nat) := [[0, 2, 4]]
theorem t237 : toRFn C k237 237 = some r237 := by kernel_rfl
/-- bytes.trimLeftASCII -/
noncomputable def r238 : RFn := ⟨20, (.seq (.reg [] [⟨(some 4), none, .mv (.c (.sl [] .nil))⟩])
  (.seq (.block 0 (.loop [0, 1] (.seq (.seq (.reg [] [⟨(some 5), none, .mv (.t 0)⟩,
    ⟨(some 6), none, .len .sl (.t 5)⟩,
    ⟨(some 7), none, .bin .gtr (.t 6) (.c (.v (.int .i64 0)))⟩])
  (.cond (.t 7) .skip
  (.exit 0)))
  (.block 1 (.seq (.seq (.reg [] [⟨(some 8), none, .mv (.t 1)⟩,
    ⟨(some 9), none, .mv (.t 0)⟩,
    ⟨(some 10), none, .iaS 1 (.t 9) (.c (.v (.int .i64 0)))⟩,
    ⟨(some 11), none, .load none (.t 10)⟩,
    ⟨(some 12), none, .call 255 [(.t 8), (.t 11)]⟩,
    ⟨(some 13), none, .un .not (.t 12)⟩])
  (.cond (.t 13) (.exit 0)
  .skip))
  (.reg [] [⟨(some 14), none, .mv (.t 0)⟩,
    ⟨(some 15), none, .slX 1 (.t 14) (some (.c (.v (.int .i64 1)))) none none⟩,
    ⟨(some 0), none, .mv (.t 15)⟩]))))))
  (.seq (.seq (.reg [] [⟨(some 16), none, .mv (.t 0)⟩,
    ⟨(some 17), none, .len .sl (.t 16)⟩,
    ⟨(some 18), none, .bin .eql (.t 17) (.c (.v (.int .i64 0)))⟩])
  (.cond (.t 18) (.seq (.reg [] [⟨(some 4), none, .mv (.c (.sl [] .nil))⟩])
  .ret)
  .skip))
  (.seq (.reg [] [⟨(some 19), none, .mv (.t 0)⟩,
    ⟨(some 4), none, .mv (.t 19)⟩])
  .ret)))), [.tmp 4]⟩
noncomputable def k238 : List (List Nat) := [[0, 1]]
theorem t238 : toRFn C k238 238 = some r238 := by kernel_rfl
/-- bytes.trimRightASCII -/
noncomputable def r239 : RFn := ⟨23, (.seq (.reg [] [⟨(some 4), none, .mv (.c (.sl [] .nil))⟩])
  (.seq (.block 0 (.loop [0, 1] (.seq (.seq (.reg [] [⟨(some 5), none, .mv (.t 0)⟩,
    ⟨(some 6), none, .len .sl (.t 5)⟩,
    ⟨(some 7), none, .bin .gtr (.t 6) (.c (.v (.int .i64 0)))⟩])
  (.cond (.t 7) .skip
  (.exit 0)))
  (.block 1 (.seq (.seq (.reg [] [⟨(some 8), none, .mv (.t 1)⟩,
    ⟨(some 9), none, .mv (.t 0)⟩,
    ⟨(some 10), none, .mv (.t 0)⟩,
    ⟨(some 11), none, .len .sl (.t 10)⟩,
    ⟨(some 12), none, .bin .sub (.t 11) (.c (.v (.int .i64 1)))⟩,
    ⟨(some 13), none, .iaS 1 (.t 9) (.t 12)⟩,
    ⟨(some 14), none, .load none (.t 13)⟩,
    ⟨(some 15), none, .call 255 [(.t 8), (.t 14)]⟩,
    ⟨(some 16), none, .un .not (.t 15)⟩])
  (.cond (.t 16) (.exit 0)
  .skip))
  (.reg [] [⟨(some 17), none, .mv (.t 0)⟩,
    ⟨(some 18), none, .mv (.t 0)⟩,
    ⟨(some 19), none, .len .sl (.t 18)⟩,
    ⟨(some 20), none, .bin .sub (.t 19) (.c (.v (.int .i64 1)))⟩,
    ⟨(some 21), none, .slX 1 (.t 17) none (some (.t 20)) none⟩,
    ⟨(some 0), none, .mv (.t 21)⟩]))))))
  (.seq (.reg [] [⟨(some 22), none, .mv (.t 0)⟩,
    ⟨(some 4), none, .mv (.t 22)⟩])
  .ret))), [.tmp 4]⟩
noncomputable def k239 : List (List Nat) := [[0, 1]]
theorem t239 : toRFn C k239 239 = some r239 := by kernel_rfl
/-- bytes.trimLeftUnicode -/
noncomputable def r240 : RFn := ⟨26, (.seq (.reg [] [⟨(some 4), none, .mv (.c (.sl [] .nil))⟩])
  (.seq (.block 0 (.loop [0, 1] (.seq (.seq (.reg [] [⟨(some 7), none, .mv (.t 0)⟩,
    ⟨(some 8), none, .len .sl (.t 7)⟩,
    ⟨(some 9), none, .bin .gtr (.t 8) (.c (.v (.int .i64 0)))⟩])
  (.cond (.t 9) .skip
  (.exit 0)))
  (.block 1 (.seq (.reg [] [⟨(some 11), none, .mv (.t 0)⟩,
    ⟨(some 12), none, .call 256 [(.t 11)]⟩,
    ⟨(some 10), none, .mv (.t 12)⟩,
    ⟨(some 13), none, .ext (.t 10) 0⟩,
    ⟨(some 14), none, .ext (.t 10) 1⟩,
    ⟨(some 5), none, .mv (.t 13)⟩,
    ⟨(some 6), none, .mv (.t 14)⟩])
  (.seq (.seq (.reg [] [⟨(some 15), none, .mv (.t 1)⟩,
    ⟨(some 16), none, .mv (.t 5)⟩,
    ⟨(some 17), none, .call 257 [(.t 15), (.t 16)]⟩,
    ⟨(some 18), none, .un .not (.t 17)⟩])
  (.cond (.t 18) (.exit 0)
  .skip))
  (.reg [] [⟨(some 19), none, .mv (.t 0)⟩,
    ⟨(some 20), none, .mv (.t 6)⟩,
    ⟨(some 21), none, .slX 1 (.t 19) (some (.t 20)) none none⟩,
    ⟨(some 0), none, .mv (.t 21)⟩])))))))
  (.seq (.seq (.reg [] [⟨(some 22), none, .mv (.t 0)⟩,
    ⟨(some 23), none, .len .sl (.t 22)⟩,
    ⟨(some 24), none, .bin .eql (.t 23) (.c (.v (.int .i64 0)))⟩])
  (.cond (.t 24) (.seq (.reg [] [⟨(some 4), none, .mv (.c (.sl [] .nil))⟩])
  .ret)
  .skip))
  (.seq (.reg [] [⟨(some 25), none, .mv (.t 0)⟩,
    ⟨(some 4), none, .mv (.t 25)⟩])
  .ret)))), [.tmp 4]⟩
noncomputable def k240 : List (List Nat) := [[0, 1]]
theorem t240 : toRFn C k240 240 = some r240 := by kernel_rfl
/-- bytes.trimRightUnicode -/
noncomputable def r241 : RFn := ⟨35, (.seq (.reg [] [⟨(some 4), none, .mv (.c (.sl [] .nil))⟩])
  (.seq (.block 0 (.loop [0, 1] (.seq (.seq (.reg [] [⟨(some 7), none, .mv (.t 0)⟩,
    ⟨(some 8), none, .len .sl (.t 7)⟩,
    ⟨(some 9), none, .bin .gtr (.t 8) (.c (.v (.int .i64 0)))⟩])
  (.cond (.t 9) .skip
  (.exit 0)))
  (.block 1 (.seq (.reg [] [⟨(some 10), none, .mv (.t 0)⟩,
    ⟨(some 11), none, .mv (.t 0)⟩,
    ⟨(some 12), none, .len .sl (.t 11)⟩,
    ⟨(some 13), none, .bin .sub (.t 12) (.c (.v (.int .i64 1)))⟩,
    ⟨(some 14), none, .iaS 1 (.t 10) (.t 13)⟩,
    ⟨(some 15), none, .load none (.t 14)⟩,
    ⟨(some 16), none, .cint .i32 (.t 15)⟩,
    ⟨(some 5), none, .mv (.t 16)⟩,
    ⟨(some 6), none, .mv (.c (.v (.int .i64 1)))⟩])
  (.seq (.seq (.reg [] [⟨(some 17), none, .mv (.t 5)⟩,
    ⟨(some 18), none, .bin .geq (.t 17) (.c (.v (.int .i32 128)))⟩])
  (.cond (.t 18) (.reg [] [⟨(some 20), none, .mv (.t 0)⟩,
    ⟨(some 21), none, .call 258 [(.t 20)]⟩,
    ⟨(some 19), none, .mv (.t 21)⟩,
    ⟨(some 22), none, .ext (.t 19) 0⟩,
    ⟨(some 23), none, .ext (.t 19) 1⟩,
    ⟨(some 5), none, .mv (.t 22)⟩,
    ⟨(some 6), none, .mv (.t 23)⟩])
  .skip))
  (.seq (.seq (.reg [] [⟨(some 24), none, .mv (.t 1)⟩,
    ⟨(some 25), none, .mv (.t 5)⟩,
    ⟨(some 26), none, .call 257 [(.t 24), (.t 25)]⟩,
    ⟨(some 27), none, .un .not (.t 26)⟩])
  (.cond (.t 27) (.exit 0)
  .skip))
  (.reg [] [⟨(some 28), none, .mv (.t 0)⟩,
    ⟨(some 29), none, .mv (.t 0)⟩,
    ⟨(some 30), none, .len .sl (.t 29)⟩,
    ⟨(some 31), none, .mv (.t 6)⟩,
    ⟨(some 32), none, .bin .sub (.t 30) (.t 31)⟩,
    ⟨(some 33), none, .slX 1 (.t 28) none (some (.t 32)) none⟩,
    ⟨(some 0), none, .mv (.t 33)⟩]))))))))
  (.seq (.reg [] [⟨(some 34), none, .mv (.t 0)⟩,
    ⟨(some 4), none, .mv (.t 34)⟩])
  .ret))), [.tmp 4]⟩
noncomputable def k241 : List (List Nat) := [[0, 1]]
theorem t241 : toRFn C k241 241 = some r241 := by kernel_rfl
/-- slices.ContainsFunc[[]string,string] -/
noncomputable def r242 : RFn := ⟨9, (.seq (.reg [] [⟨(some 4), none, .mv (.c (.v (.bool false)))⟩])
  (.seq (.reg [] [⟨(some 5), none, .mv (.t 0)⟩,
    ⟨(some 6), none, .mv (.t 1)⟩,
    ⟨(some 7), none, .call 259 [(.t 5), (.t 6)]⟩,
    ⟨(some 8), none, .bin .geq (.t 7) (.c (.v (.int .i64 0)))⟩,
    ⟨(some 4), none, .mv (.t 8)⟩])
  .ret)), [.tmp 4]⟩
noncomputable def k242 : List (List Nat) := []
theorem t242 : toRFn C k242 242 = some r242 := by kernel_rfl
/-- linkboy/object.every[string]$1 -/
noncomputable def r243 : RFn := ⟨8, (.seq (.reg [] [⟨(some 3), none, .mv (.c (.v (.bool false)))⟩])
  (.seq (.reg [] [⟨(some 4), none, .load none (.t 1)⟩,
    ⟨(some 5), none, .mv (.t 0)⟩,
    ⟨(some 6), none, .callv (.t 4) [(.t 5)]⟩,
    ⟨(some 7), none, .un .not (.t 6)⟩,
    ⟨(some 3), none, .mv (.t 7)⟩])
  .ret)), [.tmp 3]⟩
noncomputable def k243 : List (List Nat) := []
theorem t243 : toRFn C k243 243 = some r243 := by kernel_rfl
/-- cmp.Less[string] -/
noncomputable def r244 : RFn := ⟨17, (.seq (.reg [] [⟨(some 4), none, .mv (.c (.v (.bool false)))⟩])
  (.seq (.reg [] [⟨(some 5), none, .mv (.t 0)⟩,
    ⟨(some 6), none, .call 260 [(.t 5)]⟩,
    ⟨(some 7), none, .mv (.t 6)⟩,
    ⟨(some 8), (some (7, true)), .mv (.t 1)⟩,
    ⟨(some 9), (some (7, true)), .call 260 [(.t 8)]⟩,
    ⟨(some 10), (some (7, true)), .un .not (.t 9)⟩,
    ⟨(some 11), none, .pick (.t 7) (.t 10) (.c (.v (.bool false)))⟩,
    ⟨(some 12), none, .mv (.t 11)⟩,
    ⟨(some 13), (some (12, false)), .mv (.t 0)⟩,
    ⟨(some 14), (some (12, false)), .mv (.t 1)⟩,
    ⟨(some 15), (some (12, false)), .bin .lss (.t 13) (.t 14)⟩,
    ⟨(some 16), none, .pick (.t 12) (.c (.v (.bool true))) (.t 15)⟩,
    ⟨(some 4), none, .mv (.t 16)⟩])
  .ret)), [.tmp 4]⟩
noncomputable def k244 : List (List Nat) := []
theorem t244 : toRFn C k244 244 = some r244 := by kernel_rfl
/-- slices.IndexFunc[[][]linkboy/api.Addr,[]linkboy/api.Addr] -/
noncomputable def r245 : RFn := ⟨19, (.seq (.reg [] [⟨(some 4), none, .mv (.c (.v (.int .i64 0)))⟩])
  (.seq (.seq (.reg [] [⟨(some 6), none, .mv (.t 0)⟩,
    ⟨(some 7), none, .len .sl (.t 6)⟩,
    ⟨(some 8), none, .mv (.c (.v (.int .i64 0)))⟩])
  (.block 0 (.loop [0, 1, 7, 8] (.seq (.reg [] [⟨(some 9), none, .bin .lss (.t 8) (.t 7)⟩])
  (.seq (.cond (.t 9) .skip
  (.exit 0))
  (.seq (.block 1 (.seq (.reg [] [⟨(some 10), none, .mv (.t 8)⟩,
    ⟨(some 5), none, .mv (.t 10)⟩])
  (.seq (.reg [] [⟨(some 11), none, .mv (.t 1)⟩,
    ⟨(some 12), none, .mv (.t 0)⟩,
    ⟨(some 13), none, .mv (.t 5)⟩,
    ⟨(some 14), none, .iaS 1 (.t 12) (.t 13)⟩,
    ⟨(some 15), none, .load none (.t 14)⟩,
    ⟨(some 16), none, .callv (.t 11) [(.t 15)]⟩])
  (.cond (.t 16) (.seq (.reg [] [⟨(some 17), none, .mv (.t 5)⟩,
    ⟨(some 4), none, .mv (.t 17)⟩])
  .ret)
  .skip))))
  (.reg [] [⟨(some 18), none, .bin .add (.t 8) (.c (.v (.int .i64 1)))⟩,
    ⟨(some 8), none, .mv (.t 18)⟩])))))))
  (.seq (.reg [] [⟨(some 4), none, .mv (.c (.v (.int .i64 (-1))))⟩])
  .ret))), [.tmp 4]⟩
noncomputable def k245 : List (List Nat) := [[0, 1, 7, 8]]
theorem t245 : toRFn C k245 245 = some r245 := by kernel_rfl
/-- slices.IndexFunc[[]linkboy/api.Cidr,linkboy/api.Cidr] -/
noncomputable def r246 : RFn := ⟨19, (.seq (.reg [] [⟨(some 4), none, .mv (.c (.v (.int .i64 0)))⟩])
  (.seq (.seq (.reg [] [⟨(some 6), none, .mv (.t 0)⟩,
    ⟨(some 7), none, .len .sl (.t 6)⟩,
    ⟨(some 8), none, .mv (.c (.v (.int .i64 0)))⟩])
  (.block 0 (.loop [0, 1, 7, 8] (.seq (.reg [] [⟨(some 9), none, .bin .lss (.t 8) (.t 7)⟩])
  (.seq (.cond (.t 9) .skip
  (.exit 0))
  (.seq (.block 1 (.seq (.reg [] [⟨(some 10), none, .mv (.t 8)⟩,
    ⟨(some 5), none, .mv (.t 10)⟩])
  (.seq (.reg [] [⟨(some 11), none, .mv (.t 1)⟩,
    ⟨(some 12), none, .mv (.t 0)⟩,
    ⟨(some 13), none, .mv (.t 5)⟩,
    ⟨(some 14), none, .iaS 18 (.t 12) (.t 13)⟩,
    ⟨(some 15), none, .load (some 18) (.t 14)⟩,
    ⟨(some 16), none, .callv (.t 11) [(.t 15)]⟩])
  (.cond (.t 16) (.seq (.reg [] [⟨(some 17), none, .mv (.t 5)⟩,
    ⟨(some 4), none, .mv (.t 17)⟩])
  .ret)
  .skip))))
  (.reg [] [⟨(some 18), none, .bin .add (.t 8) (.c (.v (.int .i64 1)))⟩,
    ⟨(some 8), none, .mv (.t 18)⟩])))))))
  (.seq (.reg [] [⟨(some 4), none, .mv (.c (.v (.int .i64 (-1))))⟩])
  .ret))), [.tmp 4]⟩
noncomputable def k246 : List (List Nat) := [[0, 1, 7, 8]]
theorem t246 : toRFn C k246 246 = some r246 := by kernel_rfl
/-- linkboy/addr.Bits -/
noncomputable def r247 : RFn := ⟨6, (.seq (.reg [] [⟨(some 1), none, .box (.t 0)⟩,
    ⟨(some 2), none, .mv (.c (.v (.int .i64 0)))⟩])
  (.seq (.reg [] [⟨(some 3), none, .load (some 17) (.t 1)⟩,
    ⟨(some 4), none, .call 221 [(.t 3)]⟩,
    ⟨(some 5), none, .bin .mul (.c (.v (.int .i64 8))) (.t 4)⟩,
    ⟨(some 2), none, .mv (.t 5)⟩])
  .ret)), [.tmp 2]⟩
noncomputable def k247 : List (List Nat) := []
theorem t247 : toRFn C k247 247 = some r247 := by kernel_rfl
/-- linkboy/object.outer$1 -/
noncomputable def r248 : RFn := ⟨17, (.seq (.reg [] [⟨(some 2), none, .box (.t 0)⟩,
    ⟨(some 3), none, .mv (.c (.v (.bool false)))⟩])
  (.seq (.reg [] [⟨(some 4), none, .fa 3 (.t 2)⟩,
    ⟨(some 5), none, .load none (.t 4)⟩,
    ⟨(some 6), none, .bin .eql (.t 5) (.c (.v (.int .i64 0)))⟩,
    ⟨(some 7), none, .mv (.t 6)⟩,
    ⟨(some 8), (some (7, false)), .fa 2 (.t 1)⟩,
    ⟨(some 9), (some (7, false)), .load none (.t 8)⟩,
    ⟨(some 10), (some (7, false)), .bin .neq (.t 9) (.c (.v (.int .i64 0)))⟩,
    ⟨(some 11), (some (7, false)), .mv (.t 10)⟩,
    ⟨(some 12), (some (11, true)), .fa 3 (.t 2)⟩,
    ⟨(some 13), (some (11, true)), .load none (.t 12)⟩,
    ⟨(some 14), (some (11, true)), .call 195 [(.t 13)]⟩,
    ⟨(some 15), (some (7, false)), .pick (.t 11) (.t 14) (.c (.v (.bool false)))⟩,
    ⟨(some 16), none, .pick (.t 7) (.c (.v (.bool true))) (.t 15)⟩,
    ⟨(some 3), none, .mv (.t 16)⟩])
  .ret)), [.tmp 3]⟩
noncomputable def k248 : List (List Nat) := []
theorem t248 : toRFn C k248 248 = some r248 := by kernel_rfl
/-- (*strings.asciiSet).contains -/
noncomputable def r250 : RFn := ⟨10, (.seq (.reg [] [⟨(some 4), none, .mv (.c (.v (.bool false)))⟩])
  (.seq (.reg [] [⟨(some 5), none, .mv (.t 0)⟩,
    ⟨(some 6), none, .mv (.t 1)⟩,
    ⟨(some 7), none, .nilc (.t 5)⟩,
    ⟨(some 8), none, .iaA 1 256 (.t 7) (.t 6)⟩,
    ⟨(some 9), none, .load none (.t 8)⟩,
    ⟨(some 4), none, .mv (.t 9)⟩])
  .ret)), [.tmp 4]⟩
noncomputable def k250 : List (List Nat) := []
theorem t250 : toRFn C k250 250 = some r250 := by kernel_rfl
/-- unicode/utf8.DecodeRuneInString -/
noncomputable def r251 : RFn := ⟨19, (.seq (.reg [] [⟨(some 2), none, .mv (.c (.v (.int .i32 0)))⟩,
    ⟨(some 3), none, .mv (.c (.v (.int .i64 0)))⟩])
  (.seq (.seq (.reg [] [⟨(some 4), none, .mv (.t 0)⟩,
    ⟨(some 5), none, .bin .neq (.t 4) (.c (.v (.string ⟨⟨[]⟩⟩)))⟩,
    ⟨(some 6), none, .mv (.t 5)⟩,
    ⟨(some 7), (some (6, true)), .mv (.t 0)⟩,
    ⟨(some 8), (some (6, true)), .ixS (.t 7) (.c (.v (.int .i64 0)))⟩,
    ⟨(some 9), (some (6, true)), .bin .lss (.t 8) (.c (.v (.int .u8 128)))⟩,
    ⟨(some 10), none, .pick (.t 6) (.t 9) (.c (.v (.bool false)))⟩])
  (.cond (.t 10) (.seq (.reg [] [⟨(some 11), none, .mv (.t 0)⟩,
    ⟨(some 12), none, .ixS (.t 11) (.c (.v (.int .i64 0)))⟩,
    ⟨(some 13), none, .cint .i32 (.t 12)⟩,
    ⟨(some 2), none, .mv (.t 13)⟩,
    ⟨(some 3), none, .mv (.c (.v (.int .i64 1)))⟩])
  .ret)
  (.reg [] [⟨(some 15), none, .mv (.t 0)⟩,
    ⟨(some 16), none, .call 261 [(.t 15)]⟩,
    ⟨(some 14), none, .mv (.t 16)⟩,
    ⟨(some 17), none, .ext (.t 14) 0⟩,
    ⟨(some 18), none, .ext (.t 14) 1⟩,
    ⟨(some 2), none, .mv (.t 17)⟩,
    ⟨(some 3), none, .mv (.t 18)⟩])))
  .ret)), [.tmp 2, .tmp 3]⟩
noncomputable def k251 : List (List Nat) := []
theorem t251 : toRFn C k251 251 = some r251 := by kernel_rfl
/-- strings.ContainsRune -/
noncomputable def r252 : RFn := ⟨9, (.seq (.reg [] [⟨(some 4), none, .mv (.c (.v (.bool false)))⟩])
  (.seq (.reg [] [⟨(some 5), none, .mv (.t 0)⟩,
    ⟨(some 6), none, .mv (.t 1)⟩,
    ⟨(some 7), none, .call 262 [(.t 5), (.t 6)]⟩,
    ⟨(some 8), none, .bin .geq (.t 7) (.c (.v (.int .i64 0)))⟩,
    ⟨(some 4), none, .mv (.t 8)⟩])
  .ret)), [.tmp 4]⟩
noncomputable def k252 : List (List Nat) := []
theorem t252 : toRFn C k252 252 = some r252 := by kernel_rfl
/-- unicode/utf8.DecodeLastRuneInString -/
noncomputable def r253 : RFn := ⟨51, (.seq (.reg [] [⟨(some 2), none, .mv (.c (.v (.int .i32 0)))⟩,
    ⟨(some 3), none, .mv (.c (.v (.int .i64 0)))⟩])
  (.seq (.reg [] [⟨(some 7), none, .mv (.t 0)⟩,
    ⟨(some 8), none, .len .str (.t 7)⟩,
    ⟨(some 4), none, .mv (.t 8)⟩])
  (.seq (.seq (.reg [] [⟨(some 9), none, .mv (.t 4)⟩,
    ⟨(some 10), none, .bin .eql (.t 9) (.c (.v (.int .i64 0)))⟩])
  (.cond (.t 10) (.seq (.reg [] [⟨(some 2), none, .mv (.c (.v (.int .i32 65533)))⟩,
    ⟨(some 3), none, .mv (.c (.v (.int .i64 0)))⟩])
  .ret)
  .skip))
  (.seq (.reg [] [⟨(some 11), none, .mv (.t 4)⟩,
    ⟨(some 12), none, .bin .sub (.t 11) (.c (.v (.int .i64 1)))⟩,
    ⟨(some 5), none, .mv (.t 12)⟩])
  (.seq (.reg [] [⟨(some 13), none, .mv (.t 0)⟩,
    ⟨(some 14), none, .mv (.t 5)⟩,
    ⟨(some 15), none, .ixS (.t 13) (.t 14)⟩,
    ⟨(some 16), none, .cint .i32 (.t 15)⟩,
    ⟨(some 2), none, .mv (.t 16)⟩])
  (.seq (.seq (.reg [] [⟨(some 17), none, .mv (.t 2)⟩,
    ⟨(some 18), none, .bin .lss (.t 17) (.c (.v (.int .i32 128)))⟩])
  (.cond (.t 18) (.seq (.reg [] [⟨(some 19), none, .mv (.t 2)⟩,
    ⟨(some 2), none, .mv (.t 19)⟩,
    ⟨(some 3), none, .mv (.c (.v (.int .i64 1)))⟩])
  .ret)
  .skip))
  (.seq (.reg [] [⟨(some 20), none, .mv (.t 4)⟩,
    ⟨(some 21), none, .bin .sub (.t 20) (.c (.v (.int .i64 4)))⟩,
    ⟨(some 22), none, .mm true [(.t 21), (.c (.v (.int .i64 0)))]⟩,
    ⟨(some 6), none, .mv (.t 22)⟩])
  (.seq (.seq (.reg [] [⟨(some 23), none, .mv (.t 5)⟩,
    ⟨(some 24), none, .bin .sub (.t 23) (.c (.v (.int .i64 1)))⟩,
    ⟨(some 5), none, .mv (.t 24)⟩])
  (.block 0 (.loop [0, 4, 5, 6] (.seq (.seq (.reg [] [⟨(some 25), none, .mv (.t 5)⟩,
    ⟨(some 26), none, .mv (.t 6)⟩,
    ⟨(some 27), none, .bin .geq (.t 25) (.t 26)⟩])
  (.cond (.t 27) .skip
  (.exit 0)))
  (.seq (.block 1 (.seq (.reg [] [⟨(some 30), none, .mv (.t 0)⟩,
    ⟨(some 31), none, .mv (.t 5)⟩,
    ⟨(some 32), none, .ixS (.t 30) (.t 31)⟩,
    ⟨(some 33), none, .call 263 [(.t 32)]⟩])
  (.cond (.t 33) (.exit 0)
  .skip)))
  (.reg [] [⟨(some 28), none, .mv (.t 5)⟩,
    ⟨(some 29), none, .bin .sub (.t 28) (.c (.v (.int .i64 1)))⟩,
    ⟨(some 5), none, .mv (.t 29)⟩]))))))
  (.seq (.seq (.reg [] [⟨(some 34), none, .mv (.t 5)⟩,
    ⟨(some 35), none, .bin .lss (.t 34) (.c (.v (.int .i64 0)))⟩])
  (.cond (.t 35) (.reg [] [⟨(some 5), none, .mv (.c (.v (.int .i64 0)))⟩])
  .skip))
  (.seq (.reg [] [⟨(some 37), none, .mv (.t 0)⟩,
    ⟨(some 38), none, .mv (.t 5)⟩,
    ⟨(some 39), none, .mv (.t 4)⟩,
    ⟨(some 40), none, .slStr (.t 37) (some (.t 38)) (some (.t 39))⟩,
    ⟨(some 41), none, .call 251 [(.t 40)]⟩,
    ⟨(some 36), none, .mv (.t 41)⟩,
    ⟨(some 42), none, .ext (.t 36) 0⟩,
    ⟨(some 43), none, .ext (.t 36) 1⟩,
    ⟨(some 2), none, .mv (.t 42)⟩,
    ⟨(some 3), none, .mv (.t 43)⟩])
  (.seq (.seq (.reg [] [⟨(some 44), none, .mv (.t 5)⟩,
    ⟨(some 45), none, .mv (.t 3)⟩,
    ⟨(some 46), none, .bin .add (.t 44) (.t 45)⟩,
    ⟨(some 47), none, .mv (.t 4)⟩,
    ⟨(some 48), none, .bin .neq (.t 46) (.t 47)⟩])
  (.cond (.t 48) (.seq (.reg [] [⟨(some 2), none, .mv (.c (.v (.int .i32 65533)))⟩,
    ⟨(some 3), none, .mv (.c (.v (.int .i64 1)))⟩])
  .ret)
  .skip))
  (.seq (.reg [] [⟨(some 49), none, .mv (.t 2)⟩,
    ⟨(some 50), none, .mv (.t 3)⟩,
    ⟨(some 2), none, .mv (.t 49)⟩,
    ⟨(some 3), none, .mv (.t 50)⟩])
  .ret)))))))))))), [.tmp 2, .tmp 3]⟩
noncomputable def k253 : List (List Nat) := [[0, 4, 5, 6]]
theorem t253 : toRFn C k253 253 = some r253 := by kernel_rfl
/-- slices.IndexFunc[[]linkboy/api.Addr,linkboy/api.Addr] -/
noncomputable def r254 : RFn := ⟨19, (.seq (.reg [] [⟨(some 4), none, .mv (.c (.v (.int .i64 0)))⟩])
  (.seq (.seq (.reg [] [⟨(some 6), none, .mv (.t 0)⟩,
    ⟨(some 7), none, .len .sl (.t 6)⟩,
    ⟨(some 8), none, .mv (.c (.v (.int .i64 0)))⟩])
  (.block 0 (.loop [0, 1, 7, 8] (.seq (.reg [] [⟨(some 9), none, .bin .lss (.t 8) (.t 7)⟩])
  (.seq (.cond (.t 9) .skip
  (.exit 0))
  (.seq (.block 1 (.seq (.reg [] [⟨(some 10), none, .mv (.t 8)⟩,
    ⟨(some 5), none, .mv (.t 10)⟩])
  (.seq (.reg [] [⟨(some 11), none, .mv (.t 1)⟩,
    ⟨(some 12), none, .mv (.t 0)⟩,
    ⟨(some 13), none, .mv (.t 5)⟩,
    ⟨(some 14), none, .iaS 17 (.t 12) (.t 13)⟩,
    ⟨(some 15), none, .load (some 17) (.t 14)⟩,
    ⟨(some 16), none, .callv (.t 11) [(.t 15)]⟩])
  (.cond (.t 16) (.seq (.reg [] [⟨(some 17), none, .mv (.t 5)⟩,
    ⟨(some 4), none, .mv (.t 17)⟩])
  .ret)
  .skip))))
  (.reg [] [⟨(some 18), none, .bin .add (.t 8) (.c (.v (.int .i64 1)))⟩,
    ⟨(some 8), none, .mv (.t 18)⟩])))))))
  (.seq (.reg [] [⟨(some 4), none, .mv (.c (.v (.int .i64 (-1))))⟩])
  .ret))), [.tmp 4]⟩
noncomputable def k254 : List (List Nat) := [[0, 1, 7, 8]]
theorem t254 : toRFn C k254 254 = some r254 := by kernel_rfl
/-- (*bytes.asciiSet).contains -/
noncomputable def r255 : RFn := ⟨10, (.seq (.reg [] [⟨(some 4), none, .mv (.c (.v (.bool false)))⟩])
  (.seq (.reg [] [⟨(some 5), none, .mv (.t 0)⟩,
    ⟨(some 6), none, .mv (.t 1)⟩,
    ⟨(some 7), none, .nilc (.t 5)⟩,
    ⟨(some 8), none, .iaA 1 256 (.t 7) (.t 6)⟩,
    ⟨(some 9), none, .load none (.t 8)⟩,
    ⟨(some 4), none, .mv (.t 9)⟩])
  .ret)), [.tmp 4]⟩
noncomputable def k255 : List (List Nat) := []
theorem t255 : toRFn C k255 255 = some r255 := by kernel_rfl
/-- unicode/utf8.DecodeRune -/
noncomputable def r256 : RFn := ⟨22, (.seq (.reg [] [⟨(some 2), none, .mv (.c (.v (.int .i32 0)))⟩,
    ⟨(some 3), none, .mv (.c (.v (.int .i64 0)))⟩])
  (.seq (.seq (.reg [] [⟨(some 6), none, .mv (.t 0)⟩,
    ⟨(some 7), none, .len .sl (.t 6)⟩,
    ⟨(some 8), none, .mv (.c (.v (.int .i64 0)))⟩])
  (.block 0 (.loop [0, 6, 7, 8] (.seq (.reg [] [⟨(some 9), none, .bin .lss (.t 8) (.t 7)⟩])
  (.seq (.cond (.t 9) .skip
  (.exit 0))
  (.seq (.block 1 (.seq (.reg [] [⟨(some 10), none, .iaS 1 (.t 6) (.t 8)⟩,
    ⟨(some 11), none, .load none (.t 10)⟩,
    ⟨(some 5), none, .mv (.t 11)⟩])
  (.seq (.seq (.reg [] [⟨(some 12), none, .mv (.t 5)⟩,
    ⟨(some 13), none, .bin .lss (.t 12) (.c (.v (.int .u8 128)))⟩])
  (.cond (.t 13) (.seq (.reg [] [⟨(some 14), none, .mv (.t 5)⟩,
    ⟨(some 15), none, .cint .i32 (.t 14)⟩,
    ⟨(some 2), none, .mv (.t 15)⟩,
    ⟨(some 3), none, .mv (.c (.v (.int .i64 1)))⟩])
  .ret)
  .skip))
  (.exit 0))))
  (.reg [] [⟨(some 16), none, .bin .add (.t 8) (.c (.v (.int .i64 1)))⟩,
    ⟨(some 8), none, .mv (.t 16)⟩])))))))
  (.seq (.reg [] [⟨(some 18), none, .mv (.t 0)⟩,
    ⟨(some 19), none, .call 264 [(.t 18)]⟩,
    ⟨(some 17), none, .mv (.t 19)⟩,
    ⟨(some 20), none, .ext (.t 17) 0⟩,
    ⟨(some 21), none, .ext (.t 17) 1⟩,
    ⟨(some 2), none, .mv (.t 20)⟩,
    ⟨(some 3), none, .mv (.t 21)⟩])
  .ret))), [.tmp 2, .tmp 3]⟩
noncomputable def k256 : List (List Nat) := [[0, 6, 7, 8]]
theorem t256 : toRFn C k256 256 = some r256 := by kernel_rfl
/-- bytes.containsRune -/
noncomputable def r257 : RFn := ⟨15, (.seq (.reg [] [⟨(some 4), none, .mv (.c (.v (.bool false)))⟩])
  (.seq (.seq (.reg [] [⟨(some 7), none, .mv (.t 0)⟩,
    ⟨(some 8), none, .bad⟩])
  (.block 0 (.loop [1] (.seq (.reg [] [⟨(some 9), none, .bad⟩,
    ⟨(some 10), none, .ext (.t 9) 0⟩])
  (.seq (.cond (.t 10) .skip
  (.exit 0))
  (.block 1 (.seq (.reg [] [⟨(some 11), none, .ext (.t 9) 2⟩,
    ⟨(some 6), none, .mv (.t 11)⟩])
  (.seq (.reg [] [⟨(some 12), none, .mv (.t 6)⟩,
    ⟨(some 13), none, .mv (.t 1)⟩,
    ⟨(some 14), none, .bin .eql (.t 12) (.t 13)⟩])
  (.cond (.t 14) (.seq (.reg [] [⟨(some 4), none, .mv (.c (.v (.bool true)))⟩])
  .ret)
  .skip)))))))))
  (.seq (.reg [] [⟨(some 4), none, .mv (.c (.v (.bool false)))⟩])
  .ret))), [.tmp 4]⟩
noncomputable def k257 : List (List Nat) := [[1]]
theorem t257 : toRFn C k257 257 = some r257 := by kernel_rfl
/-- unicode/utf8.DecodeLastRune -/
noncomputable def r258 : RFn := ⟨53, (.seq (.reg [] [⟨(some 2), none, .mv (.c (.v (.int .i32 0)))⟩,
    ⟨(some 3), none, .mv (.c (.v (.int .i64 0)))⟩])
  (.seq (.reg [] [⟨(some 7), none, .mv (.t 0)⟩,
    ⟨(some 8), none, .len .sl (.t 7)⟩,
    ⟨(some 4), none, .mv (.t 8)⟩])
  (.seq (.seq (.reg [] [⟨(some 9), none, .mv (.t 4)⟩,
    ⟨(some 10), none, .bin .eql (.t 9) (.c (.v (.int .i64 0)))⟩])
  (.cond (.t 10) (.seq (.reg [] [⟨(some 2), none, .mv (.c (.v (.int .i32 65533)))⟩,
    ⟨(some 3), none, .mv (.c (.v (.int .i64 0)))⟩])
  .ret)
  .skip))
  (.seq (.reg [] [⟨(some 11), none, .mv (.t 4)⟩,
    ⟨(some 12), none, .bin .sub (.t 11) (.c (.v (.int .i64 1)))⟩,
    ⟨(some 5), none, .mv (.t 12)⟩])
  (.seq (.reg [] [⟨(some 13), none, .mv (.t 0)⟩,
    ⟨(some 14), none, .mv (.t 5)⟩,
    ⟨(some 15), none, .iaS 1 (.t 13) (.t 14)⟩,
    ⟨(some 16), none, .load none (.t 15)⟩,
    ⟨(some 17), none, .cint .i32 (.t 16)⟩,
    ⟨(some 2), none, .mv (.t 17)⟩])
  (.seq (.seq (.reg [] [⟨(some 18), none, .mv (.t 2)⟩,
    ⟨(some 19), none, .bin .lss (.t 18) (.c (.v (.int .i32 128)))⟩])
  (.cond (.t 19) (.seq (.reg [] [⟨(some 20), none, .mv (.t 2)⟩,
    ⟨(some 2), none, .mv (.t 20)⟩,
    ⟨(some 3), none, .mv (.c (.v (.int .i64 1)))⟩])
  .ret)
  .skip))
  (.seq (.reg [] [⟨(some 21), none, .mv (.t 4)⟩,
    ⟨(some 22), none, .bin .sub (.t 21) (.c (.v (.int .i64 4)))⟩,
    ⟨(some 23), none, .mm true [(.t 22), (.c (.v (.int .i64 0)))]⟩,
    ⟨(some 6), none, .mv (.t 23)⟩])
  (.seq (.seq (.reg [] [⟨(some 24), none, .mv (.t 5)⟩,
    ⟨(some 25), none, .bin .sub (.t 24) (.c (.v (.int .i64 1)))⟩,
    ⟨(some 5), none, .mv (.t 25)⟩])
  (.block 0 (.loop [0, 4, 5, 6] (.seq (.seq (.reg [] [⟨(some 26), none, .mv (.t 5)⟩,
    ⟨(some 27), none, .mv (.t 6)⟩,
    ⟨(some 28), none, .bin .geq (.t 26) (.t 27)⟩])
  (.cond (.t 28) .skip
  (.exit 0)))
  (.seq (.block 1 (.seq (.reg [] [⟨(some 31), none, .mv (.t 0)⟩,
    ⟨(some 32), none, .mv (.t 5)⟩,
    ⟨(some 33), none, .iaS 1 (.t 31) (.t 32)⟩,
    ⟨(some 34), none, .load none (.t 33)⟩,
    ⟨(some 35), none, .call 263 [(.t 34)]⟩])
  (.cond (.t 35) (.exit 0)
  .skip)))
  (.reg [] [⟨(some 29), none, .mv (.t 5)⟩,
    ⟨(some 30), none, .bin .sub (.t 29) (.c (.v (.int .i64 1)))⟩,
    ⟨(some 5), none, .mv (.t 30)⟩]))))))
  (.seq (.seq (.reg [] [⟨(some 36), none, .mv (.t 5)⟩,
    ⟨(some 37), none, .bin .lss (.t 36) (.c (.v (.int .i64 0)))⟩])
  (.cond (.t 37) (.reg [] [⟨(some 5), none, .mv (.c (.v (.int .i64 0)))⟩])
  .skip))
  (.seq (.reg [] [⟨(some 39), none, .mv (.t 0)⟩,
    ⟨(some 40), none, .mv (.t 5)⟩,
    ⟨(some 41), none, .mv (.t 4)⟩,
    ⟨(some 42), none, .slX 1 (.t 39) (some (.t 40)) (some (.t 41)) none⟩,
    ⟨(some 43), none, .call 256 [(.t 42)]⟩,
    ⟨(some 38), none, .mv (.t 43)⟩,
    ⟨(some 44), none, .ext (.t 38) 0⟩,
    ⟨(some 45), none, .ext (.t 38) 1⟩,
    ⟨(some 2), none, .mv (.t 44)⟩,
    ⟨(some 3), none, .mv (.t 45)⟩])
  (.seq (.seq (.reg [] [⟨(some 46), none, .mv (.t 5)⟩,
    ⟨(some 47), none, .mv (.t 3)⟩,
    ⟨(some 48), none, .bin .add (.t 46) (.t 47)⟩,
    ⟨(some 49), none, .mv (.t 4)⟩,
    ⟨(some 50), none, .bin .neq (.t 48) (.t 49)⟩])
  (.cond (.t 50) (.seq (.reg [] [⟨(some 2), none, .mv (.c (.v (.int .i32 65533)))⟩,
    ⟨(some 3), none, .mv (.c (.v (.int .i64 1)))⟩])
  .ret)
  .skip))
  (.seq (.reg [] [⟨(some 51), none, .mv (.t 2)⟩,
    ⟨(some 52), none, .mv (.t 3)⟩,
    ⟨(some 2), none, .mv (.t 51)⟩,
    ⟨(some 3), none, .mv (.t 52)⟩])
  .ret)))))))))))), [.tmp 2, .tmp 3]⟩
noncomputable def k258 : List (List Nat) := [[0, 4, 5, 6]]
theorem t258 : toRFn C k258 258 = some r258 := by kernel_rfl
/-- slices.IndexFunc[[]string,string] -/
noncomputable def r259 : RFn := ⟨19, (.seq (.reg [] [⟨(some 4), none, .mv (.c (.v (.int .i64 0)))⟩])
  (.seq (.seq (.reg [] [⟨(some 6), none, .mv (.t 0)⟩,
    ⟨(some 7), none, .len .sl (.t 6)⟩,
    ⟨(some 8), none, .mv (.c (.v (.int .i64 0)))⟩])
  (.block 0 (.loop [0, 1, 7, 8] (.seq (.reg [] [⟨(some 9), none, .bin .lss (.t 8) (.t 7)⟩])
  (.seq (.cond (.t 9) .skip
  (.exit 0))
  (.seq (.block 1 (.seq (.reg [] [⟨(some 10), none, .mv (.t 8)⟩,
    ⟨(some 5), none, .mv (.t 10)⟩])
  (.seq (.reg [] [⟨(some 11), none, .mv (.t 1)⟩,
    ⟨(some 12), none, .mv (.t 0)⟩,
    ⟨(some 13), none, .mv (.t 5)⟩,
    ⟨(some 14), none, .iaS 1 (.t 12) (.t 13)⟩,
    ⟨(some 15), none, .load none (.t 14)⟩,
    ⟨(some 16), none, .callv (.t 11) [(.t 15)]⟩])
  (.cond (.t 16) (.seq (.reg [] [⟨(some 17), none, .mv (.t 5)⟩,
    ⟨(some 4), none, .mv (.t 17)⟩])
  .ret)
  .skip))))
  (.reg [] [⟨(some 18), none, .bin .add (.t 8) (.c (.v (.int .i64 1)))⟩,
    ⟨(some 8), none, .mv (.t 18)⟩])))))))
  (.seq (.reg [] [⟨(some 4), none, .mv (.c (.v (.int .i64 (-1))))⟩])
  .ret))), [.tmp 4]⟩
noncomputable def k259 : List (List Nat) := [[0, 1, 7, 8]]
theorem t259 : toRFn C k259 259 = some r259 := by kernel_rfl
/-- cmp.isNaN[string] -/
noncomputable def r260 : RFn := ⟨6, (.seq (.reg [] [⟨(some 2), none, .mv (.c (.v (.bool false)))⟩])
  (.seq (.reg [] [⟨(some 3), none, .mv (.t 0)⟩,
    ⟨(some 4), none, .mv (.t 0)⟩,
    ⟨(some 5), none, .bin .neq (.t 3) (.t 4)⟩,
    ⟨(some 2), none, .mv (.t 5)⟩])
  .ret)), [.tmp 2]⟩
noncomputable def k260 : List (List Nat) := []
theorem t260 : toRFn C k260 260 = some r260 := by kernel_rfl
/-- unicode/utf8.decodeRuneInStringSlow -/
noncomputable def r261 : RFn := ⟨117, (.seq (.reg [] [⟨(some 2), none, .mv (.c (.v (.int .i32 0)))⟩,
    ⟨(some 3), none, .mv (.c (.v (.int .i64 0)))⟩])
  (.seq (.reg [] [⟨(some 13), none, .mv (.t 0)⟩,
    ⟨(some 14), none, .len .str (.t 13)⟩,
    ⟨(some 4), none, .mv (.t 14)⟩])
  (.seq (.seq (.reg [] [⟨(some 15), none, .mv (.t 4)⟩,
    ⟨(some 16), none, .bin .lss (.t 15) (.c (.v (.int .i64 1)))⟩])
  (.cond (.t 16) (.seq (.reg [] [⟨(some 2), none, .mv (.c (.v (.int .i32 65533)))⟩,
    ⟨(some 3), none, .mv (.c (.v (.int .i64 0)))⟩])
  .ret)
  .skip))
  (.seq (.reg [] [⟨(some 17), none, .mv (.t 0)⟩,
    ⟨(some 18), none, .ixS (.t 17) (.c (.v (.int .i64 0)))⟩,
    ⟨(some 5), none, .mv (.t 18)⟩])
  (.seq (.reg [] [⟨(some 19), none, .mv (.t 5)⟩,
    ⟨(some 20), none, .bad⟩,
    ⟨(some 21), none, .load none (.t 20)⟩,
    ⟨(some 6), none, .mv (.t 21)⟩])
  (.seq (.seq (.reg [] [⟨(some 22), none, .mv (.t 6)⟩,
    ⟨(some 23), none, .bin .geq (.t 22) (.c (.v (.int .u8 240)))⟩])
  (.cond (.t 23) (.seq (.reg [] [⟨(some 24), none, .mv (.t 6)⟩,
    ⟨(some 25), none, .cint .i32 (.t 24)⟩,
    ⟨(some 26), none, .bin .shl (.t 25) (.c (.v (.int .u64 31)))⟩,
    ⟨(some 27), none, .bin .shr (.t 26) (.c (.v (.int .u64 31)))⟩,
    ⟨(some 7), none, .mv (.t 27)⟩])
  (.seq (.reg [] [⟨(some 28), none, .mv (.t 0)⟩,
    ⟨(some 29), none, .ixS (.t 28) (.c (.v (.int .i64 0)))⟩,
    ⟨(some 30), none, .cint .i32 (.t 29)⟩,
    ⟨(some 31), none, .mv (.t 7)⟩,
    ⟨(some 32), none, .bin .andNot (.t 30) (.t 31)⟩,
    ⟨(some 33), none, .mv (.t 7)⟩,
    ⟨(some 34), none, .bin .and (.c (.v (.int .i32 65533))) (.t 33)⟩,
    ⟨(some 35), none, .bin .or (.t 32) (.t 34)⟩,
    ⟨(some 2), none, .mv (.t 35)⟩,
    ⟨(some 3), none, .mv (.c (.v (.int .i64 1)))⟩])
  .ret))
  .skip))
  (.seq (.reg [] [⟨(some 36), none, .mv (.t 6)⟩,
    ⟨(some 37), none, .bin .and (.t 36) (.c (.v (.int .u8 7)))⟩,
    ⟨(some 38), none, .cint .i64 (.t 37)⟩,
    ⟨(some 8), none, .mv (.t 38)⟩])
  (.seq (.reg [] [⟨(some 39), none, .mv (.t 6)⟩,
    ⟨(some 40), none, .bin .shr (.t 39) (.c (.v (.int .u64 4)))⟩,
    ⟨(some 41), none, .bad⟩,
    ⟨(some 42), none, .load (some 2) (.t 41)⟩,
    ⟨(some 9), none, .box (.c (.agg [(.v (.int .u8 0)), (.v (.int .u8 0))]))⟩,
    ⟨none, none, .store 2 (.t 9) (.t 42)⟩])
  (.seq (.seq (.reg [] [⟨(some 43), none, .mv (.t 4)⟩,
    ⟨(some 44), none, .mv (.t 8)⟩,
    ⟨(some 45), none, .bin .lss (.t 43) (.t 44)⟩])
  (.cond (.t 45) (.seq (.reg [] [⟨(some 2), none, .mv (.c (.v (.int .i32 65533)))⟩,
    ⟨(some 3), none, .mv (.c (.v (.int .i64 1)))⟩])
  .ret)
  .skip))
  (.seq (.reg [] [⟨(some 46), none, .mv (.t 0)⟩,
    ⟨(some 47), none, .ixS (.t 46) (.c (.v (.int .i64 1)))⟩,
    ⟨(some 10), none, .mv (.t 47)⟩])
  (.seq (.seq (.reg [] [⟨(some 48), none, .mv (.t 10)⟩,
    ⟨(some 49), none, .fa 0 (.t 9)⟩,
    ⟨(some 50), none, .load none (.t 49)⟩,
    ⟨(some 51), none, .bin .lss (.t 48) (.t 50)⟩,
    ⟨(some 52), none, .mv (.t 51)⟩,
    ⟨(some 53), (some (52, false)), .fa 1 (.t 9)⟩,
    ⟨(some 54), (some (52, false)), .load none (.t 53)⟩,
    ⟨(some 55), (some (52, false)), .mv (.t 10)⟩,
    ⟨(some 56), (some (52, false)), .bin .lss (.t 54) (.t 55)⟩,
    ⟨(some 57), none, .pick (.t 52) (.c (.v (.bool true))) (.t 56)⟩])
  (.cond (.t 57) (.seq (.reg [] [⟨(some 2), none, .mv (.c (.v (.int .i32 65533)))⟩,
    ⟨(some 3), none, .mv (.c (.v (.int .i64 1)))⟩])
  .ret)
  .skip))
  (.seq (.seq (.reg [] [⟨(some 58), none, .mv (.t 8)⟩,
    ⟨(some 59), none, .bin .leq (.t 58) (.c (.v (.int .i64 2)))⟩])
  (.cond (.t 59) (.seq (.reg [] [⟨(some 60), none, .mv (.t 5)⟩,
    ⟨(some 61), none, .bin .and (.t 60) (.c (.v (.int .u8 31)))⟩,
    ⟨(some 62), none, .cint .i32 (.t 61)⟩,
    ⟨(some 63), none, .bin .shl (.t 62) (.c (.v (.int .u64 6)))⟩,
    ⟨(some 64), none, .mv (.t 10)⟩,
    ⟨(some 65), none, .bin .and (.t 64) (.c (.v (.int .u8 63)))⟩,
    ⟨(some 66), none, .cint .i32 (.t 65)⟩,
    ⟨(some 67), none, .bin .or (.t 63) (.t 66)⟩,
    ⟨(some 2), none, .mv (.t 67)⟩,
    ⟨(some 3), none, .mv (.c (.v (.int .i64 2)))⟩])
  .ret)
  .skip))
  (.seq (.reg [] [⟨(some 68), none, .mv (.t 0)⟩,
    ⟨(some 69), none, .ixS (.t 68) (.c (.v (.int .i64 2)))⟩,
    ⟨(some 11), none, .mv (.t 69)⟩])
  (.seq (.seq (.reg [] [⟨(some 70), none, .mv (.t 11)⟩,
    ⟨(some 71), none, .bin .lss (.t 70) (.c (.v (.int .u8 128)))⟩,
    ⟨(some 72), none, .mv (.t 71)⟩,
    ⟨(some 73), (some (72, false)), .mv (.t 11)⟩,
    ⟨(some 74), (some (72, false)), .bin .lss (.c (.v (.int .u8 191))) (.t 73)⟩,
    ⟨(some 75), none, .pick (.t 72) (.c (.v (.bool true))) (.t 74)⟩])
  (.cond (.t 75) (.seq (.reg [] [⟨(some 2), none, .mv (.c (.v (.int .i32 65533)))⟩,
    ⟨(some 3), none, .mv (.c (.v (.int .i64 1)))⟩])
  .ret)
  .skip))
  (.seq (.seq (.reg [] [⟨(some 76), none, .mv (.t 8)⟩,
    ⟨(some 77), none, .bin .leq (.t 76) (.c (.v (.int .i64 3)))⟩])
  (.cond (.t 77) (.seq (.reg [] [⟨(some 78), none, .mv (.t 5)⟩,
    ⟨(some 79), none, .bin .and (.t 78) (.c (.v (.int .u8 15)))⟩,
    ⟨(some 80), none, .cint .i32 (.t 79)⟩,
    ⟨(some 81), none, .bin .shl (.t 80) (.c (.v (.int .u64 12)))⟩,
    ⟨(some 82), none, .mv (.t 10)⟩,
    ⟨(some 83), none, .bin .and (.t 82) (.c (.v (.int .u8 63)))⟩,
    ⟨(some 84), none, .cint .i32 (.t 83)⟩,
    ⟨(some 85), none, .bin .shl (.t 84) (.c (.v (.int .u64 6)))⟩,
    ⟨(some 86), none, .bin .or (.t 81) (.t 85)⟩,
    ⟨(some 87), none, .mv (.t 11)⟩,
    ⟨(some 88), none, .bin .and (.t 87) (.c (.v (.int .u8 63)))⟩,
    ⟨(some 89), none, .cint .i32 (.t 88)⟩,
    ⟨(some 90), none, .bin .or (.t 86) (.t 89)⟩,
    ⟨(some 2), none, .mv (.t 90)⟩,
    ⟨(some 3), none, .mv (.c (.v (.int .i64 3)))⟩])
  .ret)
  .skip))
  (.seq (.reg [] [⟨(some 91), none, .mv (.t 0)⟩,
    ⟨(some 92), none, .ixS (.t 91) (.c (.v (.int .i64 3)))⟩,
    ⟨(some 12), none, .mv (.t 92)⟩])
  (.seq (.seq (.reg [] [⟨(some 93), none, .mv (.t 12)⟩,
    ⟨(some 94), none, .bin .lss (.t 93) (.c (.v (.int .u8 128)))⟩,
    ⟨(some 95), none, .mv (.t 94)⟩,
    ⟨(some 96), (some (95, false)), .mv (.t 12)⟩,
    ⟨(some 97), (some (95, false)), .bin .lss (.c (.v (.int .u8 191))) (.t 96)⟩,
    ⟨(some 98), none, .pick (.t 95) (.c (.v (.bool true))) (.t 97)⟩])
  (.cond (.t 98) (.seq (.reg [] [⟨(some 2), none, .mv (.c (.v (.int .i32 65533)))⟩,
    ⟨(some 3), none, .mv (.c (.v (.int .i64 1)))⟩])
  .ret)
  .skip))
  (.seq (.reg [] [⟨(some 99), none, .mv (.t 5)⟩,
    ⟨(some 100), none, .bin .and (.t 99) (.c (.v (.int .u8 7)))⟩,
    ⟨(some 101), none, .cint .i32 (.t 100)⟩,
    ⟨(some 102), none, .bin .shl (.t 101) (.c (.v (.int .u64 18)))⟩,
    ⟨(some 103), none, .mv (.t 10)⟩,
    ⟨(some 104), none, .bin .and (.t 103) (.c (.v (.int .u8 63)))⟩,
    ⟨(some 105), none, .cint .i32 (.t 104)⟩,
    ⟨(some 106), none, .bin .shl (.t 105) (.c (.v (.int .u64 12)))⟩,
    ⟨(some 107), none, .bin .or (.t 102) (.t 106)⟩,
    ⟨(some 108), none, .mv (.t 11)⟩,
    ⟨(some 109), none, .bin .and (.t 108) (.c (.v (.int .u8 63)))⟩,
    ⟨(some 110), none, .cint .i32 (.t 109)⟩,
    ⟨(some 111), none, .bin .shl (.t 110) (.c (.v (.int .u64 6)))⟩,
    ⟨(some 112), none, .bin .or (.t 107) (.t 111)⟩,
    ⟨(some 113), none, .mv (.t 12)⟩,
    ⟨(some 114), none, .bin .and (.t 113) (.c (.v (.int .u8 63)))⟩,
    ⟨(some 115), none, .cint .i32 (.t 114)⟩,
    ⟨(some 116), none, .bin .or (.t 112) (.t 115)⟩,
    ⟨(some 2), none, .mv (.t 116)⟩,
    ⟨(some 3), none, .mv (.c (.v (.int .i64 4)))⟩])
  .ret)))))))))))))))))), [.tmp 2, .tmp 3]⟩
noncomputable def k261 : List (List Nat) := []
theorem t261 : toRFn C k261 261 = some r261 := by kernel_rfl
/-- unicode/utf8.RuneStart -/
noncomputable def r263 : RFn := ⟨6, (.seq (.reg [] [⟨(some 2), none, .mv (.c (.v (.bool false)))⟩])
  (.seq (.reg [] [⟨(some 3), none, .mv (.t 0)⟩,
    ⟨(some 4), none, .bin .and (.t 3) (.c (.v (.int .u8 192)))⟩,
    ⟨(some 5), none, .bin .neq (.t 4) (.c (.v (.int .u8 128)))⟩,
    ⟨(some 2), none, .mv (.t 5)⟩])
  .ret)), [.tmp 2]⟩
noncomputable def k263 : List (List Nat) := []
theorem t263 : toRFn C k263 263 = some r263 := by kernel_rfl
/-- unicode/utf8.decodeRuneSlow -/
noncomputable def r264 : RFn := ⟨122, (.seq (.reg [] [⟨(some 2), none, .mv (.c (.v (.int .i32 0)))⟩,
    ⟨(some 3), none, .mv (.c (.v (.int .i64 0)))⟩])
  (.seq (.reg [] [⟨(some 13), none, .mv (.t 0)⟩,
    ⟨(some 14), none, .len .sl (.t 13)⟩,
    ⟨(some 4), none, .mv (.t 14)⟩])
  (.seq (.seq (.reg [] [⟨(some 15), none, .mv (.t 4)⟩,
    ⟨(some 16), none, .bin .lss (.t 15) (.c (.v (.int .i64 1)))⟩])
  (.cond (.t 16) (.seq (.reg [] [⟨(some 2), none, .mv (.c (.v (.int .i32 65533)))⟩,
    ⟨(some 3), none, .mv (.c (.v (.int .i64 0)))⟩])
  .ret)
  .skip))
  (.seq (.reg [] [⟨(some 17), none, .mv (.t 0)⟩,
    ⟨(some 18), none, .iaS 1 (.t 17) (.c (.v (.int .i64 0)))⟩,
    ⟨(some 19), none, .load none (.t 18)⟩,
    ⟨(some 5), none, .mv (.t 19)⟩])
  (.seq (.reg [] [⟨(some 20), none, .mv (.t 5)⟩,
    ⟨(some 21), none, .bad⟩,
    ⟨(some 22), none, .load none (.t 21)⟩,
    ⟨(some 6), none, .mv (.t 22)⟩])
  (.seq (.seq (.reg [] [⟨(some 23), none, .mv (.t 6)⟩,
    ⟨(some 24), none, .bin .geq (.t 23) (.c (.v (.int .u8 240)))⟩])
  (.cond (.t 24) (.seq (.reg [] [⟨(some 25), none, .mv (.t 6)⟩,
    ⟨(some 26), none, .cint .i32 (.t 25)⟩,
    ⟨(some 27), none, .bin .shl (.t 26) (.c (.v (.int .u64 31)))⟩,
    ⟨(some 28), none, .bin .shr (.t 27) (.c (.v (.int .u64 31)))⟩,
    ⟨(some 7), none, .mv (.t 28)⟩])
  (.seq (.reg [] [⟨(some 29), none, .mv (.t 0)⟩,
    ⟨(some 30), none, .iaS 1 (.t 29) (.c (.v (.int .i64 0)))⟩,
    ⟨(some 31), none, .load none (.t 30)⟩,
    ⟨(some 32), none, .cint .i32 (.t 31)⟩,
    ⟨(some 33), none, .mv (.t 7)⟩,
    ⟨(some 34), none, .bin .andNot (.t 32) (.t 33)⟩,
    ⟨(some 35), none, .mv (.t 7)⟩,
    ⟨(some 36), none, .bin .and (.c (.v (.int .i32 65533))) (.t 35)⟩,
    ⟨(some 37), none, .bin .or (.t 34) (.t 36)⟩,
    ⟨(some 2), none, .mv (.t 37)⟩,
    ⟨(some 3), none, .mv (.c (.v (.int .i64 1)))⟩])
  .ret))
  .skip))
  (.seq (.reg [] [⟨(some 38), none, .mv (.t 6)⟩,
    ⟨(some 39), none, .bin .and (.t 38) (.c (.v (.int .u8 7)))⟩,
    ⟨(some 40), none, .cint .i64 (.t 39)⟩,
    ⟨(some 8), none, .mv (.t 40)⟩])
  (.seq (.reg [] [⟨(some 41), none, .mv (.t 6)⟩,
    ⟨(some 42), none, .bin .shr (.t 41) (.c (.v (.int .u64 4)))⟩,
    ⟨(some 43), none, .bad⟩,
    ⟨(some 44), none, .load (some 2) (.t 43)⟩,
    ⟨(some 9), none, .box (.c (.agg [(.v (.int .u8 0)), (.v (.int .u8 0))]))⟩,
    ⟨none, none, .store 2 (.t 9) (.t 44)⟩])
  (.seq (.seq (.reg [] [⟨(some 45), none, .mv (.t 4)⟩,
    ⟨(some 46), none, .mv (.t 8)⟩,
    ⟨(some 47), none, .bin .lss (.t 45) (.t 46)⟩])
  (.cond (.t 47) (.seq (.reg [] [⟨(some 2), none, .mv (.c (.v (.int .i32 65533)))⟩,
    ⟨(some 3), none, .mv (.c (.v (.int .i64 1)))⟩])
  .ret)
  .skip))
  (.seq (.reg [] [⟨(some 48), none, .mv (.t 0)⟩,
    ⟨(some 49), none, .iaS 1 (.t 48) (.c (.v (.int .i64 1)))⟩,
    ⟨(some 50), none, .load none (.t 49)⟩,
    ⟨(some 10), none, .mv (.t 50)⟩])
  (.seq (.seq (.reg [] [⟨(some 51), none, .mv (.t 10)⟩,
    ⟨(some 52), none, .fa 0 (.t 9)⟩,
    ⟨(some 53), none, .load none (.t 52)⟩,
    ⟨(some 54), none, .bin .lss (.t 51) (.t 53)⟩,
    ⟨(some 55), none, .mv (.t 54)⟩,
    ⟨(some 56), (some (55, false)), .fa 1 (.t 9)⟩,
    ⟨(some 57), (some (55, false)), .load none (.t 56)⟩,
    ⟨(some 58), (some (55, false)), .mv (.t 10)⟩,
    ⟨(some 59), (some (55, false)), .bin .lss (.t 57) (.t 58)⟩,
    ⟨(some 60), none, .pick (.t 55) (.c (.v (.bool true))) (.t 59)⟩])
  (.cond (.t 60) (.seq (.reg [] [⟨(some 2), none, .mv (.c (.v (.int .i32 65533)))⟩,
    ⟨(some 3), none, .mv (.c (.v (.int .i64 1)))⟩])
  .ret)
  .skip))
  (.seq (.seq (.reg [] [⟨(some 61), none, .mv (.t 8)⟩,
    ⟨(some 62), none, .bin .leq (.t 61) (.c (.v (.int .i64 2)))⟩])
  (.cond (.t 62) (.seq (.reg [] [⟨(some 63), none, .mv (.t 5)⟩,
    ⟨(some 64), none, .bin .and (.t 63) (.c (.v (.int .u8 31)))⟩,
    ⟨(some 65), none, .cint .i32 (.t 64)⟩,
    ⟨(some 66), none, .bin .shl (.t 65) (.c (.v (.int .u64 6)))⟩,
    ⟨(some 67), none, .mv (.t 10)⟩,
    ⟨(some 68), none, .bin .and (.t 67) (.c (.v (.int .u8 63)))⟩,
    ⟨(some 69), none, .cint .i32 (.t 68)⟩,
    ⟨(some 70), none, .bin .or (.t 66) (.t 69)⟩,
    ⟨(some 2), none, .mv (.t 70)⟩,
    ⟨(some 3), none, .mv (.c (.v (.int .i64 2)))⟩])
  .ret)
  .skip))
  (.seq (.reg [] [⟨(some 71), none, .mv (.t 0)⟩,
    ⟨(some 72), none, .iaS 1 (.t 71) (.c (.v (.int .i64 2)))⟩,
    ⟨(some 73), none, .load none (.t 72)⟩,
    ⟨(some 11), none, .mv (.t 73)⟩])
  (.seq (.seq (.reg [] [⟨(some 74), none, .mv (.t 11)⟩,
    ⟨(some 75), none, .bin .lss (.t 74) (.c (.v (.int .u8 128)))⟩,
    ⟨(some 76), none, .mv (.t 75)⟩,
    ⟨(some 77), (some (76, false)), .mv (.t 11)⟩,
    ⟨(some 78), (some (76, false)), .bin .lss (.c (.v (.int .u8 191))) (.t 77)⟩,
    ⟨(some 79), none, .pick (.t 76) (.c (.v (.bool true))) (.t 78)⟩])
  (.cond (.t 79) (.seq (.reg [] [⟨(some 2), none, .mv (.c (.v (.int .i32 65533)))⟩,
    ⟨(some 3), none, .mv (.c (.v (.int .i64 1)))⟩])
  .ret)
  .skip))
  (.seq (.seq (.reg [] [⟨(some 80), none, .mv (.t 8)⟩,
    ⟨(some 81), none, .bin .leq (.t 80) (.c (.v (.int .i64 3)))⟩])
  (.cond (.t 81) (.seq (.reg [] [⟨(some 82), none, .mv (.t 5)⟩,
    ⟨(some 83), none, .bin .and (.t 82) (.c (.v (.int .u8 15)))⟩,
    ⟨(some 84), none, .cint .i32 (.t 83)⟩,
    ⟨(some 85), none, .bin .shl (.t 84) (.c (.v (.int .u64 12)))⟩,
    ⟨(some 86), none, .mv (.t 10)⟩,
    ⟨(some 87), none, .bin .and (.t 86) (.c (.v (.int .u8 63)))⟩,
    ⟨(some 88), none, .cint .i32 (.t 87)⟩,
    ⟨(some 89), none, .bin .shl (.t 88) (.c (.v (.int .u64 6)))⟩,
    ⟨(some 90), none, .bin .or (.t 85) (.t 89)⟩,
    ⟨(some 91), none, .mv (.t 11)⟩,
    ⟨(some 92), none, .bin .and (.t 91) (.c (.v (.int .u8 63)))⟩,
    ⟨(some 93), none, .cint .i32 (.t 92)⟩,
    ⟨(some 94), none, .bin .or (.t 90) (.t 93)⟩,
    ⟨(some 2), none, .mv (.t 94)⟩,
    ⟨(some 3), none, .mv (.c (.v (.int .i64 3)))⟩])
  .ret)
  .skip))
  (.seq (.reg [] [⟨(some 95), none, .mv (.t 0)⟩,
    ⟨(some 96), none, .iaS 1 (.t 95) (.c (.v (.int .i64 3)))⟩,
    ⟨(some 97), none, .load none (.t 96)⟩,
    ⟨(some 12), none, .mv (.t 97)⟩])
  (.seq (.seq (.reg [] [⟨(some 98), none, .mv (.t 12)⟩,
    ⟨(some 99), none, .bin .lss (.t 98) (.c (.v (.int .u8 128)))⟩,
    ⟨(some 100), none, .mv (.t 99)⟩,
    ⟨(some 101), (some (100, false)), .mv (.t 12)⟩,
    ⟨(some 102), (some (100, false)), .bin .lss (.c (.v (.int .u8 191))) (.t 101)⟩,
    ⟨(some 103), none, .pick (.t 100) (.c (.v (.bool true))) (.t 102)⟩])
  (.cond (.t 103) (.seq (.reg [] [⟨(some 2), none, .mv (.c (.v (.int .i32 65533)))⟩,
    ⟨(some 3), none, .mv (.c (.v (.int .i64 1)))⟩])
  .ret)
  .skip))
  (.seq (.reg [] [⟨(some 104), none, .mv (.t 5)⟩,
    ⟨(some 105), none, .bin .and (.t 104) (.c (.v (.int .u8 7)))⟩,
    ⟨(some 106), none, .cint .i32 (.t 105)⟩,
    ⟨(some 107), none, .bin .shl (.t 106) (.c (.v (.int .u64 18)))⟩,
    ⟨(some 108), none, .mv (.t 10)⟩,
    ⟨(some 109), none, .bin .and (.t 108) (.c (.v (.int .u8 63)))⟩,
    ⟨(some 110), none, .cint .i32 (.t 109)⟩,
    ⟨(some 111), none, .bin .shl (.t 110) (.c (.v (.int .u64 12)))⟩,
    ⟨(some 112), none, .bin .or (.t 107) (.t 111)⟩,
    ⟨(some 113), none, .mv (.t 11)⟩,
    ⟨(some 114), none, .bin .and (.t 113) (.c (.v (.int .u8 63)))⟩,
    ⟨(some 115), none, .cint .i32 (.t 114)⟩,
    ⟨(some 116), none, .bin .shl (.t 115) (.c (.v (.int .u64 6)))⟩,
    ⟨(some 117), none, .bin .or (.t 112) (.t 116)⟩,
    ⟨(some 118), none, .mv (.t 12)⟩,
    ⟨(some 119), none, .bin .and (.t 118) (.c (.v (.int .u8 63)))⟩,
    ⟨(some 120), none, .cint .i32 (.t 119)⟩,
    ⟨(some 121), none, .bin .or (.t 117) (.t 120)⟩,
    ⟨(some 2), none, .mv (.t 121)⟩,
    ⟨(some 3), none, .mv (.c (.v (.int .i64 4)))⟩])
  .ret)))))))))))))))))), [.tmp 2, .tmp 3]⟩
noncomputable def k264 : List (List Nat) := []
theorem t264 : toRFn C k264 264 = some r264 := by kernel_rfl
/-- strings.IndexByte -/
noncomputable def r265 : RFn := ⟨8, (.seq (.reg [] [⟨(some 4), none, .mv (.c (.v (.int .i64 0)))⟩])
  (.seq (.reg [] [⟨(some 5), none, .mv (.t 0)⟩,
    ⟨(some 6), none, .mv (.t 1)⟩,
    ⟨(some 7), none, .call 269 [(.t 5), (.t 6)]⟩,
    ⟨(some 4), none, .mv (.t 7)⟩])
  .ret)), [.tmp 4]⟩
noncomputable def k265 : List (List Nat) := []
theorem t265 : toRFn C k265 265 = some r265 := by kernel_rfl
/-- unicode/utf8.ValidRune -/
noncomputable def r266 : RFn := ⟨17, (.seq (.reg [] [⟨(some 2), none, .mv (.c (.v (.bool false)))⟩])
  (.seq (.block 0 (.seq (.reg [] [⟨(some 4), none, .mv (.t 0)⟩,
    ⟨(some 5), none, .bin .leq (.c (.v (.int .i32 0))) (.t 4)⟩,
    ⟨(some 6), none, .mv (.t 5)⟩,
    ⟨(some 7), (some (6, true)), .mv (.t 0)⟩,
    ⟨(some 8), (some (6, true)), .bin .lss (.t 7) (.c (.v (.int .i32 55296)))⟩,
    ⟨(some 9), none, .pick (.t 6) (.t 8) (.c (.v (.bool false)))⟩,
    ⟨(some 3), none, .mv (.t 9)⟩])
  (.cond (.t 3) (.seq (.reg [] [⟨(some 2), none, .mv (.c (.v (.bool true)))⟩])
  .ret)
  (.seq (.reg [] [⟨(some 11), none, .mv (.t 0)⟩,
    ⟨(some 12), none, .bin .lss (.c (.v (.int .i32 57343))) (.t 11)⟩,
    ⟨(some 13), none, .mv (.t 12)⟩,
    ⟨(some 14), (some (13, true)), .mv (.t 0)⟩,
    ⟨(some 15), (some (13, true)), .bin .leq (.t 14) (.c (.v (.int .i32 1114111)))⟩,
    ⟨(some 16), none, .pick (.t 13) (.t 15) (.c (.v (.bool false)))⟩,
    ⟨(some 10), none, .mv (.t 16)⟩])
  (.cond (.t 10) (.seq (.reg [] [⟨(some 2), none, .mv (.c (.v (.bool true)))⟩])
  .ret)
  .skip)))))
  (.seq (.reg [] [⟨(some 2), none, .mv (.c (.v (.bool false)))⟩])
  .ret))), [.tmp 2]⟩
noncomputable def k266 : List (List Nat) := []
theorem t266 : toRFn C k266 266 = some r266 := by kernel_rfl
/-- internal/stringslite.IndexByte -/
noncomputable def r269 : RFn := ⟨8, (.seq (.reg [] [⟨(some 4), none, .mv (.c (.v (.int .i64 0)))⟩])
  (.seq (.reg [] [⟨(some 5), none, .mv (.t 0)⟩,
    ⟨(some 6), none, .mv (.t 1)⟩,
    ⟨(some 7), none, .call 270 [(.t 5), (.t 6)]⟩,
    ⟨(some 4), none, .mv (.t 7)⟩])
  .ret)), [.tmp 4]⟩
noncomputable def k269 : List (List Nat) := []
theorem t269 : toRFn C k269 269 = some r269 := by kernel_rfl
noncomputable def tb : Tb := (.node (.node (.node (.node (.node (.node (.node .nil 6 r6 .nil) 23 r23 (.node .nil 24 r24 .nil)) 35 r35 (.node (.node .nil 36 r36 .nil) 39 r39 (.node .nil 40 r40 .nil))) 49 r49 (.node (.node (.node .nil 50 r50 .nil) 57 r57 (.node .nil 78 r78 .nil)) 79 r79 (.node (.node .nil 80 r80 .nil) 81 r81 (.node .nil 82 r82 .nil)))) 83 r83 (.node (.node (.node (.node .nil 84 r84 .nil) 85 r85 (.node .nil 103 r103 .nil)) 106 r106 (.node (.node .nil 107 r107 .nil) 108 r108 (.node .nil 109 r109 .nil))) 110 r110 (.node (.node (.node .nil 111 r111 .nil) 112 r112 (.node .nil 113 r113 .nil)) 114 r114 (.node (.node .nil 115 r115 .nil) 116 r116 .nil)))) 117 r117 (.node (.node (.node (.node (.node .nil 118 r118 .nil) 119 r119 (.node .nil 120 r120 .nil)) 144 r144 (.node (.node .nil 145 r145 .nil) 146 r146 (.node .nil 147 r147 .nil))) 148 r148 (.node (.node (.node .nil 149 r149 .nil) 150 r150 (.node .nil 151 r151 .nil)) 152 r152 (.node (.node .nil 163 r163 .nil) 164 r164 (.node .nil 165 r165 .nil)))) 166 r166 (.node (.node (.node (.node .nil 167 r167 .nil) 181 r181 (.node .nil 182 r182 .nil)) 183 r183 (.node (.node .nil 184 r184 .nil) 185 r185 (.node .nil 186 r186 .nil))) 191 r191 (.node (.node (.node .nil 192 r192 .nil) 193 r193 (.node .nil 194 r194 .nil)) 195 r195 (.node (.node .nil 196 r196 .nil) 197 r197 .nil))))) 198 r198 (.node (.node (.node (.node (.node (.node .nil 199 r199 .nil) 200 r200 (.node .nil 201 r201 .nil)) 202 r202 (.node (.node .nil 203 r203 .nil) 204 r204 (.node .nil 208 r208 .nil))) 209 r209 (.node (.node (.node .nil 210 r210 .nil) 211 r211 (.node .nil 212 r212 .nil)) 213 r213 (.node (.node .nil 214 r214 .nil) 215 r215 (.node .nil 216 r216 .nil)))) 220 r220 (.node (.node (.node (.node .nil 221 r221 .nil) 222 r222 (.node .nil 223 r223 .nil)) 224 r224 (.node (.node .nil 225 r225 .nil) 226 r226 (.node .nil 227 r227 .nil))) 228 r228 (.node (.node (.node .nil 229 r229 .nil) 230 r230 (.node .nil 231 r231 .nil)) 232 r232 (.node (.node .nil 233 r233 .nil) 234 r234 .nil)))) 235 r235 (.node (.node (.node (.node (.node .nil 236 r236 .nil) 237 r237 (.node .nil 238 r238 .nil)) 239 r239 (.node (.node .nil 240 r240 .nil) 241 r241 (.node .nil 242 r242 .nil))) 243 r243 (.node (.node (.node .nil 244 r244 .nil) 245 r245 (.node .nil 246 r246 .nil)) 247 r247 (.node (.node .nil 248 r248 .nil) 250 r250 (.node .nil 251 r251 .nil)))) 252 r252 (.node (.node (.node (.node .nil 253 r253 .nil) 254 r254 (.node .nil 255 r255 .nil)) 256 r256 (.node (.node .nil 257 r257 .nil) 258 r258 (.node .nil 259 r259 .nil))) 260 r260 (.node (.node (.node .nil 261 r261 .nil) 263 r263 (.node .nil 264 r264 .nil)) 265 r265 (.node (.node .nil 266 r266 .nil) 269 r269 .nil))))))
noncomputable abbrev tab : FuncId → Option RFn := tb.get
theorem tab_ok (hm : C.P.follows .mixedOrders = true) : TabOk C (DrawOk C) tab := tb_ok hm ⟨⟨⟨⟨⟨⟨⟨trivial, ⟨_, t6⟩, trivial⟩, ⟨_, t23⟩, ⟨trivial, ⟨_, t24⟩, trivial⟩⟩, ⟨_, t35⟩, ⟨⟨trivial, ⟨_, t36⟩, trivial⟩, ⟨_, t39⟩, ⟨trivial, ⟨_, t40⟩, trivial⟩⟩⟩, ⟨_, t49⟩, ⟨⟨⟨trivial, ⟨_, t50⟩, trivial⟩, ⟨_, t57⟩, ⟨trivial, ⟨_, t78⟩, trivial⟩⟩, ⟨_, t79⟩, ⟨⟨trivial, ⟨_, t80⟩, trivial⟩, ⟨_, t81⟩, ⟨trivial, ⟨_, t82⟩, trivial⟩⟩⟩⟩, ⟨_, t83⟩, ⟨⟨⟨⟨trivial, ⟨_, t84⟩, trivial⟩, ⟨_, t85⟩, ⟨trivial, ⟨_, t103⟩, trivial⟩⟩, ⟨_, t106⟩, ⟨⟨trivial, ⟨_, t107⟩, trivial⟩, ⟨_, t108⟩, ⟨trivial, ⟨_, t109⟩, trivial⟩⟩⟩, ⟨_, t110⟩, ⟨⟨⟨trivial, ⟨_, t111⟩, trivial⟩, ⟨_, t112⟩, ⟨trivial, ⟨_, t113⟩, trivial⟩⟩, ⟨_, t114⟩, ⟨⟨trivial, ⟨_, t115⟩, trivial⟩, ⟨_, t116⟩, trivial⟩⟩⟩⟩, ⟨_, t117⟩, ⟨⟨⟨⟨⟨trivial, ⟨_, t118⟩, trivial⟩, ⟨_, t119⟩, ⟨trivial, ⟨_, t120⟩, trivial⟩⟩, ⟨_, t144⟩, ⟨⟨trivial, ⟨_, t145⟩, trivial⟩, ⟨_, t146⟩, ⟨trivial, ⟨_, t147⟩, trivial⟩⟩⟩, ⟨_, t148⟩, ⟨⟨⟨trivial, ⟨_, t149⟩, trivial⟩, ⟨_, t150⟩, ⟨trivial, ⟨_, t151⟩, trivial⟩⟩, ⟨_, t152⟩, ⟨⟨trivial, ⟨_, t163⟩, trivial⟩, ⟨_, t164⟩, ⟨trivial, ⟨_, t165⟩, trivial⟩⟩⟩⟩, ⟨_, t166⟩, ⟨⟨⟨⟨trivial, ⟨_, t167⟩, trivial⟩, ⟨_, t181⟩, ⟨trivial, ⟨_, t182⟩, trivial⟩⟩, ⟨_, t183⟩, ⟨⟨trivial, ⟨_, t184⟩, trivial⟩, ⟨_, t185⟩, ⟨trivial, ⟨_, t186⟩, trivial⟩⟩⟩, ⟨_, t191⟩, ⟨⟨⟨trivial, ⟨_, t192⟩, trivial⟩, ⟨_, t193⟩, ⟨trivial, ⟨_, t194⟩, trivial⟩⟩, ⟨_, t195⟩, ⟨⟨trivial, ⟨_, t196⟩, trivial⟩, ⟨_, t197⟩, trivial⟩⟩⟩⟩⟩, ⟨_, t198⟩, ⟨⟨⟨⟨⟨⟨trivial, ⟨_, t199⟩, trivial⟩, ⟨_, t200⟩, ⟨trivial, ⟨_, t201⟩, trivial⟩⟩, ⟨_, t202⟩, ⟨⟨trivial, ⟨_, t203⟩, trivial⟩, ⟨_, t204⟩, ⟨trivial, ⟨_, t208⟩, trivial⟩⟩⟩, ⟨_, t209⟩, ⟨⟨⟨trivial, ⟨_, t210⟩, trivial⟩, ⟨_, t211⟩, ⟨trivial, ⟨_, t212⟩, trivial⟩⟩, ⟨_, t213⟩, ⟨⟨trivial, ⟨_, t214⟩, trivial⟩, ⟨_, t215⟩, ⟨trivial, ⟨_, t216⟩, trivial⟩⟩⟩⟩, ⟨_, t220⟩, ⟨⟨⟨⟨trivial, ⟨_, t221⟩, trivial⟩, ⟨_, t222⟩, ⟨trivial, ⟨_, t223⟩, trivial⟩⟩, ⟨_, t224⟩, ⟨⟨trivial, ⟨_, t225⟩, trivial⟩, ⟨_, t226⟩, ⟨trivial, ⟨_, t227⟩, trivial⟩⟩⟩, ⟨_, t228⟩, ⟨⟨⟨trivial, ⟨_, t229⟩, trivial⟩, ⟨_, t230⟩, ⟨trivial, ⟨_, t231⟩, trivial⟩⟩, ⟨_, t232⟩, ⟨⟨trivial, ⟨_, t233⟩, trivial⟩, ⟨_, t234⟩, trivial⟩⟩⟩⟩, ⟨_, t235⟩, ⟨⟨⟨⟨⟨trivial, ⟨_, t236⟩, trivial⟩, ⟨_, t237⟩, ⟨trivial, ⟨_, t238⟩, trivial⟩⟩, ⟨_, t239⟩, ⟨⟨trivial, ⟨_, t240⟩, trivial⟩, ⟨_, t241⟩, ⟨trivial, ⟨_, t242⟩, trivial⟩⟩⟩, ⟨_, t243⟩, ⟨⟨⟨trivial, ⟨_, t244⟩, trivial⟩, ⟨_, t245⟩, ⟨trivial, ⟨_, t246⟩, trivial⟩⟩, ⟨_, t247⟩, ⟨⟨trivial, ⟨_, t248⟩, trivial⟩, ⟨_, t250⟩, ⟨trivial, ⟨_, t251⟩, trivial⟩⟩⟩⟩, ⟨_, t252⟩, ⟨⟨⟨⟨trivial, ⟨_, t253⟩, trivial⟩, ⟨_, t254⟩, ⟨trivial, ⟨_, t255⟩, trivial⟩⟩, ⟨_, t256⟩, ⟨⟨trivial, ⟨_, t257⟩, trivial⟩, ⟨_, t258⟩, ⟨trivial, ⟨_, t259⟩, trivial⟩⟩⟩, ⟨_, t260⟩, ⟨⟨⟨trivial, ⟨_, t261⟩, trivial⟩, ⟨_, t263⟩, ⟨trivial, ⟨_, t264⟩, trivial⟩⟩, ⟨_, t265⟩, ⟨⟨trivial, ⟨_, t266⟩, trivial⟩, ⟨_, t269⟩, trivial⟩⟩⟩⟩⟩⟩
theorem tab6 : tab 6 = some r6 := by kernel_rfl
theorem call6 {call : CallT} {nm : AE.Name} {xs : List T} {h : Heap} {L : List AE.Name} : eCall C call nm 6 xs h L = freeK nm h L (call 6 nm xs []) := call_free (by kernel_rfl) (by kernel_rfl)
theorem tab23 : tab 23 = some r23 := by kernel_rfl
theorem call23 {call : CallT} {nm : AE.Name} {xs : List T} {h : Heap} {L : List AE.Name} : eCall C call nm 23 xs h L = freeK nm h L (call 23 nm xs []) := call_free (by kernel_rfl) (by kernel_rfl)
theorem tab24 : tab 24 = some r24 := by kernel_rfl
theorem call24 {call : CallT} {nm : AE.Name} {xs : List T} {h : Heap} {L : List AE.Name} : eCall C call nm 24 xs h L = freeK nm h L (call 24 nm xs []) := call_free (by kernel_rfl) (by kernel_rfl)
theorem tab35 : tab 35 = some r35 := by kernel_rfl
theorem call35 {call : CallT} {nm : AE.Name} {xs : List T} {h : Heap} {L : List AE.Name} : eCall C call nm 35 xs h L = freeK nm h L (call 35 nm xs []) := call_free (by kernel_rfl) (by kernel_rfl)
theorem tab36 : tab 36 = some r36 := by kernel_rfl
theorem call36 {call : CallT} {nm : AE.Name} {xs : List T} {h : Heap} {L : List AE.Name} : eCall C call nm 36 xs h L = freeK nm h L (call 36 nm xs []) := call_free (by kernel_rfl) (by kernel_rfl)
theorem tab39 : tab 39 = some r39 := by kernel_rfl
theorem call39 {call : CallT} {nm : AE.Name} {xs : List T} {h : Heap} {L : List AE.Name} : eCall C call nm 39 xs h L = freeK nm h L (call 39 nm xs []) := call_free (by kernel_rfl) (by kernel_rfl)
theorem tab40 : tab 40 = some r40 := by kernel_rfl
theorem call40 {call : CallT} {nm : AE.Name} {xs : List T} {h : Heap} {L : List AE.Name} : eCall C call nm 40 xs h L = freeK nm h L (call 40 nm xs []) := call_free (by kernel_rfl) (by kernel_rfl)
theorem tab49 : tab 49 = some r49 := by kernel_rfl
theorem call49 {call : CallT} {nm : AE.Name} {xs : List T} {h : Heap} {L : List AE.Name} : eCall C call nm 49 xs h L = freeK nm h L (call 49 nm xs []) := call_free (by kernel_rfl) (by kernel_rfl)
theorem tab50 : tab 50 = some r50 := by kernel_rfl
theorem call50 {call : CallT} {nm : AE.Name} {xs : List T} {h : Heap} {L : List AE.Name} : eCall C call nm 50 xs h L = freeK nm h L (call 50 nm xs []) := call_free (by kernel_rfl) (by kernel_rfl)
theorem tab57 : tab 57 = some r57 := by kernel_rfl
theorem call57 {call : CallT} {nm : AE.Name} {xs : List T} {h : Heap} {L : List AE.Name} : eCall C call nm 57 xs h L = freeK nm h L (call 57 nm xs []) := call_free (by kernel_rfl) (by kernel_rfl)
theorem tab78 : tab 78 = some r78 := by kernel_rfl
theorem call78 {call : CallT} {nm : AE.Name} {xs : List T} {h : Heap} {L : List AE.Name} : eCall C call nm 78 xs h L = freeK nm h L (call 78 nm xs []) := call_free (by kernel_rfl) (by kernel_rfl)
theorem tab79 : tab 79 = some r79 := by kernel_rfl
theorem call79 {call : CallT} {nm : AE.Name} {xs : List T} {h : Heap} {L : List AE.Name} : eCall C call nm 79 xs h L = freeK nm h L (call 79 nm xs []) := call_free (by kernel_rfl) (by kernel_rfl)
theorem tab80 : tab 80 = some r80 := by kernel_rfl
theorem call80 {call : CallT} {nm : AE.Name} {xs : List T} {h : Heap} {L : List AE.Name} : eCall C call nm 80 xs h L = freeK nm h L (call 80 nm xs []) := call_free (by kernel_rfl) (by kernel_rfl)
theorem tab81 : tab 81 = some r81 := by kernel_rfl
theorem call81 {call : CallT} {nm : AE.Name} {xs : List T} {h : Heap} {L : List AE.Name} : eCall C call nm 81 xs h L = heapK call nm 81 xs h L (reach h xs) := call_heap (by kernel_rfl) (by rw [show C.mode 81 = 1 by kernel_rfl]; decide)
theorem tab82 : tab 82 = some r82 := by kernel_rfl
theorem call82 {call : CallT} {nm : AE.Name} {xs : List T} {h : Heap} {L : List AE.Name} : eCall C call nm 82 xs h L = freeK nm h L (call 82 nm xs []) := call_free (by kernel_rfl) (by kernel_rfl)
theorem tab83 : tab 83 = some r83 := by kernel_rfl
theorem call83 {call : CallT} {nm : AE.Name} {xs : List T} {h : Heap} {L : List AE.Name} : eCall C call nm 83 xs h L = freeK nm h L (call 83 nm xs []) := call_free (by kernel_rfl) (by kernel_rfl)
theorem tab84 : tab 84 = some r84 := by kernel_rfl
theorem call84 {call : CallT} {nm : AE.Name} {xs : List T} {h : Heap} {L : List AE.Name} : eCall C call nm 84 xs h L = freeK nm h L (call 84 nm xs []) := call_free (by kernel_rfl) (by kernel_rfl)
theorem tab85 : tab 85 = some r85 := by kernel_rfl
theorem call85 {call : CallT} {nm : AE.Name} {xs : List T} {h : Heap} {L : List AE.Name} : eCall C call nm 85 xs h L = freeK nm h L (call 85 nm xs []) := call_free (by kernel_rfl) (by kernel_rfl)
theorem tab103 : tab 103 = some r103 := by kernel_rfl
theorem call103 {call : CallT} {nm : AE.Name} {xs : List T} {h : Heap} {L : List AE.Name} : eCall C call nm 103 xs h L = freeK nm h L (call 103 nm xs []) := call_free (by kernel_rfl) (by kernel_rfl)
theorem tab106 : tab 106 = some r106 := by kernel_rfl
theorem call106 {call : CallT} {nm : AE.Name} {xs : List T} {h : Heap} {L : List AE.Name} : eCall C call nm 106 xs h L = freeK nm h L (call 106 nm xs []) := call_free (by kernel_rfl) (by kernel_rfl)
theorem tab107 : tab 107 = some r107 := by kernel_rfl
theorem call107 {call : CallT} {nm : AE.Name} {xs : List T} {h : Heap} {L : List AE.Name} : eCall C call nm 107 xs h L = freeK nm h L (call 107 nm xs []) := call_free (by kernel_rfl) (by kernel_rfl)
theorem tab108 : tab 108 = some r108 := by kernel_rfl
theorem call108 {call : CallT} {nm : AE.Name} {xs : List T} {h : Heap} {L : List AE.Name} : eCall C call nm 108 xs h L = heapK call nm 108 xs h L (reach h xs) := call_heap (by kernel_rfl) (by rw [show C.mode 108 = 1 by kernel_rfl]; decide)
theorem tab109 : tab 109 = some r109 := by kernel_rfl
theorem call109 {call : CallT} {nm : AE.Name} {xs : List T} {h : Heap} {L : List AE.Name} : eCall C call nm 109 xs h L = freeK nm h L (call 109 nm xs []) := call_free (by kernel_rfl) (by kernel_rfl)
theorem tab110 : tab 110 = some r110 := by kernel_rfl
theorem call110 {call : CallT} {nm : AE.Name} {xs : List T} {h : Heap} {L : List AE.Name} : eCall C call nm 110 xs h L = heapK call nm 110 xs h L (reach h xs) := call_heap (by kernel_rfl) (by rw [show C.mode 110 = 1 by kernel_rfl]; decide)
theorem tab111 : tab 111 = some r111 := by kernel_rfl
theorem call111 {call : CallT} {nm : AE.Name} {xs : List T} {h : Heap} {L : List AE.Name} : eCall C call nm 111 xs h L = freeK nm h L (call 111 nm xs []) := call_free (by kernel_rfl) (by kernel_rfl)
theorem tab112 : tab 112 = some r112 := by kernel_rfl
theorem call112 {call : CallT} {nm : AE.Name} {xs : List T} {h : Heap} {L : List AE.Name} : eCall C call nm 112 xs h L = heapK call nm 112 xs h L (reach h xs) := call_heap (by kernel_rfl) (by rw [show C.mode 112 = 1 by kernel_rfl]; decide)
theorem tab113 : tab 113 = some r113 := by kernel_rfl
theorem call113 {call : CallT} {nm : AE.Name} {xs : List T} {h : Heap} {L : List AE.Name} : eCall C call nm 113 xs h L = freeK nm h L (call 113 nm xs []) := call_free (by kernel_rfl) (by kernel_rfl)
theorem tab114 : tab 114 = some r114 := by kernel_rfl
theorem call114 {call : CallT} {nm : AE.Name} {xs : List T} {h : Heap} {L : List AE.Name} : eCall C call nm 114 xs h L = freeK nm h L (call 114 nm xs []) := call_free (by kernel_rfl) (by kernel_rfl)
theorem tab115 : tab 115 = some r115 := by kernel_rfl
theorem call115 {call : CallT} {nm : AE.Name} {xs : List T} {h : Heap} {L : List AE.Name} : eCall C call nm 115 xs h L = heapK call nm 115 xs h L (reach h xs) := call_heap (by kernel_rfl) (by rw [show C.mode 115 = 1 by kernel_rfl]; decide)
theorem tab116 : tab 116 = some r116 := by kernel_rfl
theorem call116 {call : CallT} {nm : AE.Name} {xs : List T} {h : Heap} {L : List AE.Name} : eCall C call nm 116 xs h L = heapK call nm 116 xs h L (reach h xs) := call_heap (by kernel_rfl) (by rw [show C.mode 116 = 1 by kernel_rfl]; decide)
theorem tab117 : tab 117 = some r117 := by kernel_rfl
theorem call117 {call : CallT} {nm : AE.Name} {xs : List T} {h : Heap} {L : List AE.Name} : eCall C call nm 117 xs h L = freeK nm h L (call 117 nm xs []) := call_free (by kernel_rfl) (by kernel_rfl)
theorem tab118 : tab 118 = some r118 := by kernel_rfl
theorem call118 {call : CallT} {nm : AE.Name} {xs : List T} {h : Heap} {L : List AE.Name} : eCall C call nm 118 xs h L = freeK nm h L (call 118 nm xs []) := call_free (by kernel_rfl) (by kernel_rfl)
theorem tab119 : tab 119 = some r119 := by kernel_rfl
theorem call119 {call : CallT} {nm : AE.Name} {xs : List T} {h : Heap} {L : List AE.Name} : eCall C call nm 119 xs h L = freeK nm h L (call 119 nm xs []) := call_free (by kernel_rfl) (by kernel_rfl)
theorem tab120 : tab 120 = some r120 := by kernel_rfl
theorem call120 {call : CallT} {nm : AE.Name} {xs : List T} {h : Heap} {L : List AE.Name} : eCall C call nm 120 xs h L = freeK nm h L (call 120 nm xs []) := call_free (by kernel_rfl) (by kernel_rfl)
theorem tab144 : tab 144 = some r144 := by kernel_rfl
theorem call144 {call : CallT} {nm : AE.Name} {xs : List T} {h : Heap} {L : List AE.Name} : eCall C call nm 144 xs h L = heapK call nm 144 xs h L (reach h xs) := call_heap (by kernel_rfl) (by rw [show C.mode 144 = 1 by kernel_rfl]; decide)
theorem tab145 : tab 145 = some r145 := by kernel_rfl
theorem call145 {call : CallT} {nm : AE.Name} {xs : List T} {h : Heap} {L : List AE.Name} : eCall C call nm 145 xs h L = freeK nm h L (call 145 nm xs []) := call_free (by kernel_rfl) (by kernel_rfl)
theorem tab146 : tab 146 = some r146 := by kernel_rfl
theorem call146 {call : CallT} {nm : AE.Name} {xs : List T} {h : Heap} {L : List AE.Name} : eCall C call nm 146 xs h L = freeK nm h L (call 146 nm xs []) := call_free (by kernel_rfl) (by kernel_rfl)
theorem tab147 : tab 147 = some r147 := by kernel_rfl
theorem call147 {call : CallT} {nm : AE.Name} {xs : List T} {h : Heap} {L : List AE.Name} : eCall C call nm 147 xs h L = freeK nm h L (call 147 nm xs []) := call_free (by kernel_rfl) (by kernel_rfl)
theorem tab148 : tab 148 = some r148 := by kernel_rfl
theorem call148 {call : CallT} {nm : AE.Name} {xs : List T} {h : Heap} {L : List AE.Name} : eCall C call nm 148 xs h L = heapK call nm 148 xs h L (reach h xs) := call_heap (by kernel_rfl) (by rw [show C.mode 148 = 1 by kernel_rfl]; decide)
theorem tab149 : tab 149 = some r149 := by kernel_rfl
theorem call149 {call : CallT} {nm : AE.Name} {xs : List T} {h : Heap} {L : List AE.Name} : eCall C call nm 149 xs h L = heapK call nm 149 xs h L (reach h xs) := call_heap (by kernel_rfl) (by rw [show C.mode 149 = 1 by kernel_rfl]; decide)
theorem tab150 : tab 150 = some r150 := by kernel_rfl
theorem call150 {call : CallT} {nm : AE.Name} {xs : List T} {h : Heap} {L : List AE.Name} : eCall C call nm 150 xs h L = freeK nm h L (call 150 nm xs []) := call_free (by kernel_rfl) (by kernel_rfl)
theorem tab151 : tab 151 = some r151 := by kernel_rfl
theorem call151 {call : CallT} {nm : AE.Name} {xs : List T} {h : Heap} {L : List AE.Name} : eCall C call nm 151 xs h L = freeK nm h L (call 151 nm xs []) := call_free (by kernel_rfl) (by kernel_rfl)
theorem tab152 : tab 152 = some r152 := by kernel_rfl
theorem call152 {call : CallT} {nm : AE.Name} {xs : List T} {h : Heap} {L : List AE.Name} : eCall C call nm 152 xs h L = freeK nm h L (call 152 nm xs []) := call_free (by kernel_rfl) (by kernel_rfl)
theorem tab163 : tab 163 = some r163 := by kernel_rfl
theorem call163 {call : CallT} {nm : AE.Name} {xs : List T} {h : Heap} {L : List AE.Name} : eCall C call nm 163 xs h L = freeK nm h L (call 163 nm xs []) := call_free (by kernel_rfl) (by kernel_rfl)
theorem tab164 : tab 164 = some r164 := by kernel_rfl
theorem call164 {call : CallT} {nm : AE.Name} {xs : List T} {h : Heap} {L : List AE.Name} : eCall C call nm 164 xs h L = freeK nm h L (call 164 nm xs []) := call_free (by kernel_rfl) (by kernel_rfl)
theorem tab165 : tab 165 = some r165 := by kernel_rfl
theorem call165 {call : CallT} {nm : AE.Name} {xs : List T} {h : Heap} {L : List AE.Name} : eCall C call nm 165 xs h L = freeK nm h L (call 165 nm xs []) := call_free (by kernel_rfl) (by kernel_rfl)
theorem tab166 : tab 166 = some r166 := by kernel_rfl
theorem call166 {call : CallT} {nm : AE.Name} {xs : List T} {h : Heap} {L : List AE.Name} : eCall C call nm 166 xs h L = freeK nm h L (call 166 nm xs []) := call_free (by kernel_rfl) (by kernel_rfl)
theorem tab167 : tab 167 = some r167 := by kernel_rfl
theorem call167 {call : CallT} {nm : AE.Name} {xs : List T} {h : Heap} {L : List AE.Name} : eCall C call nm 167 xs h L = freeK nm h L (call 167 nm xs []) := call_free (by kernel_rfl) (by kernel_rfl)
theorem tab181 : tab 181 = some r181 := by kernel_rfl
theorem call181 {call : CallT} {nm : AE.Name} {xs : List T} {h : Heap} {L : List AE.Name} : eCall C call nm 181 xs h L = freeK nm h L (call 181 nm xs []) := call_free (by kernel_rfl) (by kernel_rfl)
theorem tab182 : tab 182 = some r182 := by kernel_rfl
theorem call182 {call : CallT} {nm : AE.Name} {xs : List T} {h : Heap} {L : List AE.Name} : eCall C call nm 182 xs h L = freeK nm h L (call 182 nm xs []) := call_free (by kernel_rfl) (by kernel_rfl)
theorem tab183 : tab 183 = some r183 := by kernel_rfl
theorem call183 {call : CallT} {nm : AE.Name} {xs : List T} {h : Heap} {L : List AE.Name} : eCall C call nm 183 xs h L = freeK nm h L (call 183 nm xs []) := call_free (by kernel_rfl) (by kernel_rfl)
theorem tab184 : tab 184 = some r184 := by kernel_rfl
theorem call184 {call : CallT} {nm : AE.Name} {xs : List T} {h : Heap} {L : List AE.Name} : eCall C call nm 184 xs h L = freeK nm h L (call 184 nm xs []) := call_free (by kernel_rfl) (by kernel_rfl)
theorem tab185 : tab 185 = some r185 := by kernel_rfl
theorem call185 {call : CallT} {nm : AE.Name} {xs : List T} {h : Heap} {L : List AE.Name} : eCall C call nm 185 xs h L = freeK nm h L (call 185 nm xs []) := call_free (by kernel_rfl) (by kernel_rfl)
theorem tab186 : tab 186 = some r186 := by kernel_rfl
theorem call186 {call : CallT} {nm : AE.Name} {xs : List T} {h : Heap} {L : List AE.Name} : eCall C call nm 186 xs h L = heapK call nm 186 xs h L (reach h xs) := call_heap (by kernel_rfl) (by rw [show C.mode 186 = 1 by kernel_rfl]; decide)
theorem tab191 : tab 191 = some r191 := by kernel_rfl
theorem call191 {call : CallT} {nm : AE.Name} {xs : List T} {h : Heap} {L : List AE.Name} : eCall C call nm 191 xs h L = heapK call nm 191 xs h L (reach h xs) := call_heap (by kernel_rfl) (by rw [show C.mode 191 = 1 by kernel_rfl]; decide)
theorem tab192 : tab 192 = some r192 := by kernel_rfl
theorem call192 {call : CallT} {nm : AE.Name} {xs : List T} {h : Heap} {L : List AE.Name} : eCall C call nm 192 xs h L = heapK call nm 192 xs h L (reach h xs) := call_heap (by kernel_rfl) (by rw [show C.mode 192 = 1 by kernel_rfl]; decide)
theorem tab193 : tab 193 = some r193 := by kernel_rfl
theorem call193 {call : CallT} {nm : AE.Name} {xs : List T} {h : Heap} {L : List AE.Name} : eCall C call nm 193 xs h L = heapK call nm 193 xs h L (reach h xs) := call_heap (by kernel_rfl) (by rw [show C.mode 193 = 1 by kernel_rfl]; decide)
theorem tab194 : tab 194 = some r194 := by kernel_rfl
theorem call194 {call : CallT} {nm : AE.Name} {xs : List T} {h : Heap} {L : List AE.Name} : eCall C call nm 194 xs h L = freeK nm h L (call 194 nm xs []) := call_free (by kernel_rfl) (by kernel_rfl)
theorem tab195 : tab 195 = some r195 := by kernel_rfl
theorem call195 {call : CallT} {nm : AE.Name} {xs : List T} {h : Heap} {L : List AE.Name} : eCall C call nm 195 xs h L = freeK nm h L (call 195 nm xs []) := call_free (by kernel_rfl) (by kernel_rfl)
theorem tab196 : tab 196 = some r196 := by kernel_rfl
theorem call196 {call : CallT} {nm : AE.Name} {xs : List T} {h : Heap} {L : List AE.Name} : eCall C call nm 196 xs h L = heapK call nm 196 xs h L (reach h xs) := call_heap (by kernel_rfl) (by rw [show C.mode 196 = 1 by kernel_rfl]; decide)
theorem tab197 : tab 197 = some r197 := by kernel_rfl
theorem call197 {call : CallT} {nm : AE.Name} {xs : List T} {h : Heap} {L : List AE.Name} : eCall C call nm 197 xs h L = heapK call nm 197 xs h L (reach h xs) := call_heap (by kernel_rfl) (by rw [show C.mode 197 = 1 by kernel_rfl]; decide)
theorem tab198 : tab 198 = some r198 := by kernel_rfl
theorem call198 {call : CallT} {nm : AE.Name} {xs : List T} {h : Heap} {L : List AE.Name} : eCall C call nm 198 xs h L = heapK call nm 198 xs h L (reach h xs) := call_heap (by kernel_rfl) (by rw [show C.mode 198 = 1 by kernel_rfl]; decide)
theorem tab199 : tab 199 = some r199 := by kernel_rfl
theorem call199 {call : CallT} {nm : AE.Name} {xs : List T} {h : Heap} {L : List AE.Name} : eCall C call nm 199 xs h L = heapK call nm 199 xs h L (reach h xs) := call_heap (by kernel_rfl) (by rw [show C.mode 199 = 1 by kernel_rfl]; decide)
theorem tab200 : tab 200 = some r200 := by kernel_rfl
theorem call200 {call : CallT} {nm : AE.Name} {xs : List T} {h : Heap} {L : List AE.Name} : eCall C call nm 200 xs h L = freeK nm h L (call 200 nm xs []) := call_free (by kernel_rfl) (by kernel_rfl)
theorem tab201 : tab 201 = some r201 := by kernel_rfl
theorem call201 {call : CallT} {nm : AE.Name} {xs : List T} {h : Heap} {L : List AE.Name} : eCall C call nm 201 xs h L = heapK call nm 201 xs h L (reach h xs) := call_heap (by kernel_rfl) (by rw [show C.mode 201 = 1 by kernel_rfl]; decide)
theorem tab202 : tab 202 = some r202 := by kernel_rfl
theorem call202 {call : CallT} {nm : AE.Name} {xs : List T} {h : Heap} {L : List AE.Name} : eCall C call nm 202 xs h L = freeK nm h L (call 202 nm xs []) := call_free (by kernel_rfl) (by kernel_rfl)
theorem tab203 : tab 203 = some r203 := by kernel_rfl
theorem call203 {call : CallT} {nm : AE.Name} {xs : List T} {h : Heap} {L : List AE.Name} : eCall C call nm 203 xs h L = heapK call nm 203 xs h L (reach h xs) := call_heap (by kernel_rfl) (by rw [show C.mode 203 = 1 by kernel_rfl]; decide)
theorem tab204 : tab 204 = some r204 := by kernel_rfl
theorem call204 {call : CallT} {nm : AE.Name} {xs : List T} {h : Heap} {L : List AE.Name} : eCall C call nm 204 xs h L = freeK nm h L (call 204 nm xs []) := call_free (by kernel_rfl) (by kernel_rfl)
theorem tab208 : tab 208 = some r208 := by kernel_rfl
theorem call208 {call : CallT} {nm : AE.Name} {xs : List T} {h : Heap} {L : List AE.Name} : eCall C call nm 208 xs h L = heapK call nm 208 xs h L (reach h xs) := call_heap (by kernel_rfl) (by rw [show C.mode 208 = 1 by kernel_rfl]; decide)
theorem tab209 : tab 209 = some r209 := by kernel_rfl
theorem call209 {call : CallT} {nm : AE.Name} {xs : List T} {h : Heap} {L : List AE.Name} : eCall C call nm 209 xs h L = heapK call nm 209 xs h L (reach h xs) := call_heap (by kernel_rfl) (by rw [show C.mode 209 = 1 by kernel_rfl]; decide)
theorem tab210 : tab 210 = some r210 := by kernel_rfl
theorem call210 {call : CallT} {nm : AE.Name} {xs : List T} {h : Heap} {L : List AE.Name} : eCall C call nm 210 xs h L = heapK call nm 210 xs h L (reach h xs) := call_heap (by kernel_rfl) (by rw [show C.mode 210 = 1 by kernel_rfl]; decide)
theorem tab211 : tab 211 = some r211 := by kernel_rfl
theorem call211 {call : CallT} {nm : AE.Name} {xs : List T} {h : Heap} {L : List AE.Name} : eCall C call nm 211 xs h L = heapK call nm 211 xs h L (reach h xs) := call_heap (by kernel_rfl) (by rw [show C.mode 211 = 1 by kernel_rfl]; decide)
theorem tab212 : tab 212 = some r212 := by kernel_rfl
theorem call212 {call : CallT} {nm : AE.Name} {xs : List T} {h : Heap} {L : List AE.Name} : eCall C call nm 212 xs h L = freeK nm h L (call 212 nm xs []) := call_free (by kernel_rfl) (by kernel_rfl)
theorem tab213 : tab 213 = some r213 := by kernel_rfl
theorem call213 {call : CallT} {nm : AE.Name} {xs : List T} {h : Heap} {L : List AE.Name} : eCall C call nm 213 xs h L = freeK nm h L (call 213 nm xs []) := call_free (by kernel_rfl) (by kernel_rfl)
theorem tab214 : tab 214 = some r214 := by kernel_rfl
theorem call214 {call : CallT} {nm : AE.Name} {xs : List T} {h : Heap} {L : List AE.Name} : eCall C call nm 214 xs h L = heapK call nm 214 xs h L (reach h xs) := call_heap (by kernel_rfl) (by rw [show C.mode 214 = 1 by kernel_rfl]; decide)
theorem tab215 : tab 215 = some r215 := by kernel_rfl
theorem call215 {call : CallT} {nm : AE.Name} {xs : List T} {h : Heap} {L : List AE.Name} : eCall C call nm 215 xs h L = freeK nm h L (call 215 nm xs []) := call_free (by kernel_rfl) (by kernel_rfl)
theorem tab216 : tab 216 = some r216 := by kernel_rfl
theorem call216 {call : CallT} {nm : AE.Name} {xs : List T} {h : Heap} {L : List AE.Name} : eCall C call nm 216 xs h L = freeK nm h L (call 216 nm xs []) := call_free (by kernel_rfl) (by kernel_rfl)
theorem tab220 : tab 220 = some r220 := by kernel_rfl
theorem call220 {call : CallT} {nm : AE.Name} {xs : List T} {h : Heap} {L : List AE.Name} : eCall C call nm 220 xs h L = heapK call nm 220 xs h L (reach h xs) := call_heap (by kernel_rfl) (by rw [show C.mode 220 = 1 by kernel_rfl]; decide)
theorem tab221 : tab 221 = some r221 := by kernel_rfl
theorem call221 {call : CallT} {nm : AE.Name} {xs : List T} {h : Heap} {L : List AE.Name} : eCall C call nm 221 xs h L = freeK nm h L (call 221 nm xs []) := call_free (by kernel_rfl) (by kernel_rfl)
theorem tab222 : tab 222 = some r222 := by kernel_rfl
theorem call222 {call : CallT} {nm : AE.Name} {xs : List T} {h : Heap} {L : List AE.Name} : eCall C call nm 222 xs h L = freeK nm h L (call 222 nm xs []) := call_free (by kernel_rfl) (by kernel_rfl)
theorem tab223 : tab 223 = some r223 := by kernel_rfl
theorem call223 {call : CallT} {nm : AE.Name} {xs : List T} {h : Heap} {L : List AE.Name} : eCall C call nm 223 xs h L = freeK nm h L (call 223 nm xs []) := call_free (by kernel_rfl) (by kernel_rfl)
theorem tab224 : tab 224 = some r224 := by kernel_rfl
theorem call224 {call : CallT} {nm : AE.Name} {xs : List T} {h : Heap} {L : List AE.Name} : eCall C call nm 224 xs h L = freeK nm h L (call 224 nm xs []) := call_free (by kernel_rfl) (by kernel_rfl)
theorem tab225 : tab 225 = some r225 := by kernel_rfl
theorem call225 {call : CallT} {nm : AE.Name} {xs : List T} {h : Heap} {L : List AE.Name} : eCall C call nm 225 xs h L = heapK call nm 225 xs h L (reach h xs) := call_heap (by kernel_rfl) (by rw [show C.mode 225 = 1 by kernel_rfl]; decide)
theorem tab226 : tab 226 = some r226 := by kernel_rfl
theorem call226 {call : CallT} {nm : AE.Name} {xs : List T} {h : Heap} {L : List AE.Name} : eCall C call nm 226 xs h L = heapK call nm 226 xs h L (reach h xs) := call_heap (by kernel_rfl) (by rw [show C.mode 226 = 1 by kernel_rfl]; decide)
theorem tab227 : tab 227 = some r227 := by kernel_rfl
theorem call227 {call : CallT} {nm : AE.Name} {xs : List T} {h : Heap} {L : List AE.Name} : eCall C call nm 227 xs h L = freeK nm h L (call 227 nm xs []) := call_free (by kernel_rfl) (by kernel_rfl)
theorem tab228 : tab 228 = some r228 := by kernel_rfl
theorem call228 {call : CallT} {nm : AE.Name} {xs : List T} {h : Heap} {L : List AE.Name} : eCall C call nm 228 xs h L = freeK nm h L (call 228 nm xs []) := call_free (by kernel_rfl) (by kernel_rfl)
theorem tab229 : tab 229 = some r229 := by kernel_rfl
theorem call229 {call : CallT} {nm : AE.Name} {xs : List T} {h : Heap} {L : List AE.Name} : eCall C call nm 229 xs h L = freeK nm h L (call 229 nm xs []) := call_free (by kernel_rfl) (by kernel_rfl)
theorem tab230 : tab 230 = some r230 := by kernel_rfl
theorem call230 {call : CallT} {nm : AE.Name} {xs : List T} {h : Heap} {L : List AE.Name} : eCall C call nm 230 xs h L = freeK nm h L (call 230 nm xs []) := call_free (by kernel_rfl) (by kernel_rfl)
theorem tab231 : tab 231 = some r231 := by kernel_rfl
theorem call231 {call : CallT} {nm : AE.Name} {xs : List T} {h : Heap} {L : List AE.Name} : eCall C call nm 231 xs h L = heapK call nm 231 xs h L (reach h xs) := call_heap (by kernel_rfl) (by rw [show C.mode 231 = 1 by kernel_rfl]; decide)
theorem tab232 : tab 232 = some r232 := by kernel_rfl
theorem call232 {call : CallT} {nm : AE.Name} {xs : List T} {h : Heap} {L : List AE.Name} : eCall C call nm 232 xs h L = heapK call nm 232 xs h L (reach h xs) := call_heap (by kernel_rfl) (by rw [show C.mode 232 = 1 by kernel_rfl]; decide)
theorem tab233 : tab 233 = some r233 := by kernel_rfl
theorem call233 {call : CallT} {nm : AE.Name} {xs : List T} {h : Heap} {L : List AE.Name} : eCall C call nm 233 xs h L = heapK call nm 233 xs h L (reach h xs) := call_heap (by kernel_rfl) (by rw [show C.mode 233 = 1 by kernel_rfl]; decide)
theorem tab234 : tab 234 = some r234 := by kernel_rfl
theorem call234 {call : CallT} {nm : AE.Name} {xs : List T} {h : Heap} {L : List AE.Name} : eCall C call nm 234 xs h L = heapK call nm 234 xs h L (reach h xs) := call_heap (by kernel_rfl) (by rw [show C.mode 234 = 1 by kernel_rfl]; decide)
theorem tab235 : tab 235 = some r235 := by kernel_rfl
theorem call235 {call : CallT} {nm : AE.Name} {xs : List T} {h : Heap} {L : List AE.Name} : eCall C call nm 235 xs h L = heapK call nm 235 xs h L (reach h xs) := call_heap (by kernel_rfl) (by rw [show C.mode 235 = 1 by kernel_rfl]; decide)
theorem tab236 : tab 236 = some r236 := by kernel_rfl
theorem call236 {call : CallT} {nm : AE.Name} {xs : List T} {h : Heap} {L : List AE.Name} : eCall C call nm 236 xs h L = heapK call nm 236 xs h L (reach h xs) := call_heap (by kernel_rfl) (by rw [show C.mode 236 = 1 by kernel_rfl]; decide)
theorem tab237 : tab 237 = some r237 := by kernel_rfl
theorem call237 {call : CallT} {nm : AE.Name} {xs : List T} {h : Heap} {L : List AE.Name} : eCall C call nm 237 xs h L = heapK call nm 237 xs h L (reach h xs) := call_heap (by kernel_rfl) (by rw [show C.mode 237 = 1 by kernel_rfl]; decide)
theorem tab238 : tab 238 = some r238 := by kernel_rfl
theorem call238 {call : CallT} {nm : AE.Name} {xs : List T} {h : Heap} {L : List AE.Name} : eCall C call nm 238 xs h L = heapK call nm 238 xs h L (reach h xs) := call_heap (by kernel_rfl) (by rw [show C.mode 238 = 1 by kernel_rfl]; decide)
theorem tab239 : tab 239 = some r239 := by kernel_rfl
theorem call239 {call : CallT} {nm : AE.Name} {xs : List T} {h : Heap} {L : List AE.Name} : eCall C call nm 239 xs h L = heapK call nm 239 xs h L (reach h xs) := call_heap (by kernel_rfl) (by rw [show C.mode 239 = 1 by kernel_rfl]; decide)
theorem tab240 : tab 240 = some r240 := by kernel_rfl
theorem call240 {call : CallT} {nm : AE.Name} {xs : List T} {h : Heap} {L : List AE.Name} : eCall C call nm 240 xs h L = heapK call nm 240 xs h L (reach h xs) := call_heap (by kernel_rfl) (by rw [show C.mode 240 = 1 by kernel_rfl]; decide)
theorem tab241 : tab 241 = some r241 := by kernel_rfl
theorem call241 {call : CallT} {nm : AE.Name} {xs : List T} {h : Heap} {L : List AE.Name} : eCall C call nm 241 xs h L = heapK call nm 241 xs h L (reach h xs) := call_heap (by kernel_rfl) (by rw [show C.mode 241 = 1 by kernel_rfl]; decide)
theorem tab242 : tab 242 = some r242 := by kernel_rfl
theorem call242 {call : CallT} {nm : AE.Name} {xs : List T} {h : Heap} {L : List AE.Name} : eCall C call nm 242 xs h L = heapK call nm 242 xs h L (reach h xs) := call_heap (by kernel_rfl) (by rw [show C.mode 242 = 1 by kernel_rfl]; decide)
theorem tab243 : tab 243 = some r243 := by kernel_rfl
theorem call243 {call : CallT} {nm : AE.Name} {xs : List T} {h : Heap} {L : List AE.Name} : eCall C call nm 243 xs h L = heapK call nm 243 xs h L (reach h xs) := call_heap (by kernel_rfl) (by rw [show C.mode 243 = 1 by kernel_rfl]; decide)
theorem tab244 : tab 244 = some r244 := by kernel_rfl
theorem call244 {call : CallT} {nm : AE.Name} {xs : List T} {h : Heap} {L : List AE.Name} : eCall C call nm 244 xs h L = freeK nm h L (call 244 nm xs []) := call_free (by kernel_rfl) (by kernel_rfl)
theorem tab245 : tab 245 = some r245 := by kernel_rfl
theorem call245 {call : CallT} {nm : AE.Name} {xs : List T} {h : Heap} {L : List AE.Name} : eCall C call nm 245 xs h L = heapK call nm 245 xs h L (reach h xs) := call_heap (by kernel_rfl) (by rw [show C.mode 245 = 1 by kernel_rfl]; decide)
theorem tab246 : tab 246 = some r246 := by kernel_rfl
theorem call246 {call : CallT} {nm : AE.Name} {xs : List T} {h : Heap} {L : List AE.Name} : eCall C call nm 246 xs h L = heapK call nm 246 xs h L (reach h xs) := call_heap (by kernel_rfl) (by rw [show C.mode 246 = 1 by kernel_rfl]; decide)
theorem tab247 : tab 247 = some r247 := by kernel_rfl
theorem call247 {call : CallT} {nm : AE.Name} {xs : List T} {h : Heap} {L : List AE.Name} : eCall C call nm 247 xs h L = freeK nm h L (call 247 nm xs []) := call_free (by kernel_rfl) (by kernel_rfl)
theorem tab248 : tab 248 = some r248 := by kernel_rfl
theorem call248 {call : CallT} {nm : AE.Name} {xs : List T} {h : Heap} {L : List AE.Name} : eCall C call nm 248 xs h L = heapK call nm 248 xs h L (reach h xs) := call_heap (by kernel_rfl) (by rw [show C.mode 248 = 1 by kernel_rfl]; decide)
theorem tab250 : tab 250 = some r250 := by kernel_rfl
theorem call250 {call : CallT} {nm : AE.Name} {xs : List T} {h : Heap} {L : List AE.Name} : eCall C call nm 250 xs h L = heapK call nm 250 xs h L (reach h xs) := call_heap (by kernel_rfl) (by rw [show C.mode 250 = 1 by kernel_rfl]; decide)
theorem tab251 : tab 251 = some r251 := by kernel_rfl
theorem call251 {call : CallT} {nm : AE.Name} {xs : List T} {h : Heap} {L : List AE.Name} : eCall C call nm 251 xs h L = freeK nm h L (call 251 nm xs []) := call_free (by kernel_rfl) (by kernel_rfl)
theorem tab252 : tab 252 = some r252 := by kernel_rfl
theorem call252 {call : CallT} {nm : AE.Name} {xs : List T} {h : Heap} {L : List AE.Name} : eCall C call nm 252 xs h L = freeK nm h L (call 252 nm xs []) := call_free (by kernel_rfl) (by kernel_rfl)
theorem tab253 : tab 253 = some r253 := by kernel_rfl
theorem call253 {call : CallT} {nm : AE.Name} {xs : List T} {h : Heap} {L : List AE.Name} : eCall C call nm 253 xs h L = freeK nm h L (call 253 nm xs []) := call_free (by kernel_rfl) (by kernel_rfl)
theorem tab254 : tab 254 = some r254 := by kernel_rfl
theorem call254 {call : CallT} {nm : AE.Name} {xs : List T} {h : Heap} {L : List AE.Name} : eCall C call nm 254 xs h L = heapK call nm 254 xs h L (reach h xs) := call_heap (by kernel_rfl) (by rw [show C.mode 254 = 1 by kernel_rfl]; decide)
theorem tab255 : tab 255 = some r255 := by kernel_rfl
theorem call255 {call : CallT} {nm : AE.Name} {xs : List T} {h : Heap} {L : List AE.Name} : eCall C call nm 255 xs h L = heapK call nm 255 xs h L (reach h xs) := call_heap (by kernel_rfl) (by rw [show C.mode 255 = 1 by kernel_rfl]; decide)
theorem tab256 : tab 256 = some r256 := by kernel_rfl
theorem call256 {call : CallT} {nm : AE.Name} {xs : List T} {h : Heap} {L : List AE.Name} : eCall C call nm 256 xs h L = freeK nm h L (call 256 nm xs []) := call_free (by kernel_rfl) (by kernel_rfl)
theorem tab257 : tab 257 = some r257 := by kernel_rfl
theorem call257 {call : CallT} {nm : AE.Name} {xs : List T} {h : Heap} {L : List AE.Name} : eCall C call nm 257 xs h L = heapK call nm 257 xs h L (reach h xs) := call_heap (by kernel_rfl) (by rw [show C.mode 257 = 1 by kernel_rfl]; decide)
theorem tab258 : tab 258 = some r258 := by kernel_rfl
theorem call258 {call : CallT} {nm : AE.Name} {xs : List T} {h : Heap} {L : List AE.Name} : eCall C call nm 258 xs h L = freeK nm h L (call 258 nm xs []) := call_free (by kernel_rfl) (by kernel_rfl)
theorem tab259 : tab 259 = some r259 := by kernel_rfl
theorem call259 {call : CallT} {nm : AE.Name} {xs : List T} {h : Heap} {L : List AE.Name} : eCall C call nm 259 xs h L = heapK call nm 259 xs h L (reach h xs) := call_heap (by kernel_rfl) (by rw [show C.mode 259 = 1 by kernel_rfl]; decide)
theorem tab260 : tab 260 = some r260 := by kernel_rfl
theorem call260 {call : CallT} {nm : AE.Name} {xs : List T} {h : Heap} {L : List AE.Name} : eCall C call nm 260 xs h L = freeK nm h L (call 260 nm xs []) := call_free (by kernel_rfl) (by kernel_rfl)
theorem tab261 : tab 261 = some r261 := by kernel_rfl
theorem call261 {call : CallT} {nm : AE.Name} {xs : List T} {h : Heap} {L : List AE.Name} : eCall C call nm 261 xs h L = freeK nm h L (call 261 nm xs []) := call_free (by kernel_rfl) (by kernel_rfl)
theorem tab263 : tab 263 = some r263 := by kernel_rfl
theorem call263 {call : CallT} {nm : AE.Name} {xs : List T} {h : Heap} {L : List AE.Name} : eCall C call nm 263 xs h L = freeK nm h L (call 263 nm xs []) := call_free (by kernel_rfl) (by kernel_rfl)
theorem tab264 : tab 264 = some r264 := by kernel_rfl
theorem call264 {call : CallT} {nm : AE.Name} {xs : List T} {h : Heap} {L : List AE.Name} : eCall C call nm 264 xs h L = freeK nm h L (call 264 nm xs []) := call_free (by kernel_rfl) (by kernel_rfl)
theorem tab265 : tab 265 = some r265 := by kernel_rfl
theorem call265 {call : CallT} {nm : AE.Name} {xs : List T} {h : Heap} {L : List AE.Name} : eCall C call nm 265 xs h L = freeK nm h L (call 265 nm xs []) := call_free (by kernel_rfl) (by kernel_rfl)
theorem tab266 : tab 266 = some r266 := by kernel_rfl
theorem call266 {call : CallT} {nm : AE.Name} {xs : List T} {h : Heap} {L : List AE.Name} : eCall C call nm 266 xs h L = freeK nm h L (call 266 nm xs []) := call_free (by kernel_rfl) (by kernel_rfl)
theorem tab269 : tab 269 = some r269 := by kernel_rfl
theorem call269 {call : CallT} {nm : AE.Name} {xs : List T} {h : Heap} {L : List AE.Name} : eCall C call nm 269 xs h L = freeK nm h L (call 269 nm xs []) := call_free (by kernel_rfl) (by kernel_rfl)
theorem call180 {call : CallT} {nm : AE.Name} {xs : List T} {h : Heap} {L : List AE.Name} : eCall C call nm 180 xs h L = oraK nm h L (growT nm xs) := call_ora (by kernel_rfl)
end Go.AE.Words
