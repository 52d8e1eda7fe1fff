import Derived.Test.YtohbipkmfhmibaaGreatDoorProg
import Derived.Test.YtohbipkmfhmibaaGreatDoorAE33
import Derived.KernelRfl
/-! The program's functions that the law reaches, as rows: printed by a program (mkclaim.py), each proved to be what the program has. -/
set_option linter.unusedVariables false
set_option maxRecDepth 100000
namespace Go.AE.W
open Go Go.AE
abbrev tEW : List T := [.v (.string ⟨⟨[]⟩⟩), .v (.string ⟨⟨[112, 117, 116, 45, 115, 101, 114, 118, 105, 99, 101]⟩⟩), .v (.string ⟨⟨[112, 117, 116, 45, 115, 108, 105, 99, 101]⟩⟩), .v (.string ⟨⟨[112, 117, 116, 45, 110, 111, 100, 101]⟩⟩), .v (.string ⟨⟨[100, 114, 111, 112, 45, 115, 101, 114, 118, 105, 99, 101]⟩⟩), .v (.string ⟨⟨[100, 114, 111, 112, 45, 115, 108, 105, 99, 101]⟩⟩), .v (.string ⟨⟨[100, 114, 111, 112, 45, 110, 111, 100, 101]⟩⟩), .v (.string ⟨⟨[98, 111, 111, 107, 109, 97, 114, 107]⟩⟩), .v (.string ⟨⟨[114, 101, 108, 105, 115, 116]⟩⟩), .v (.string ⟨⟨[108, 105, 115, 116, 101, 100]⟩⟩)]
abbrev tWW : List T := [.v (.string ⟨⟨[105, 100, 108, 101]⟩⟩), .v (.string ⟨⟨[108, 105, 115, 116, 105, 110, 103]⟩⟩), .v (.string ⟨⟨[119, 97, 116, 99, 104, 105, 110, 103]⟩⟩), .v (.string ⟨⟨[119, 97, 105, 116, 105, 110, 103]⟩⟩)]
abbrev gEW : T := .ro tEW 0
abbrev gWW : T := .ro tWW 0
def heapL : List Nat := [109, 112, 113, 145, 146, 184, 190, 191, 194, 195, 196, 197, 199, 201, 206, 207, 208, 209, 212, 223, 224, 229, 230, 231, 232, 233, 234, 235, 236, 237, 238, 239, 240, 241, 243, 244, 246, 248, 252, 253, 255, 257]
noncomputable def C : Cfg := { P := Go.Proofs.Tryz.prog, laid := fun g => if ([0, 3, 9, 14] : List Nat).contains g then some [.ifc 295 (.gl g)] else if g = 18 then some tWW else none, pts := [295], mode := fun f => if heapL.contains f then 1 else 0, ora := fun f => none }
def str0 : List UInt8 := [97, 98, 99, 100, 101, 102, 103, 104, 105, 106, 107, 108, 109, 110, 111, 112, 113, 114, 115, 116, 117, 118, 119, 120, 121, 122, 48, 49, 50, 51, 52, 53, 54, 55, 56, 57, 45]
def z256_0 : List T := List.replicate 256 (.v (.bool false))
/-- linkboy/linkboylaw42.WatchKeeps -/
noncomputable def m3_0 : RC := (.seq (.reg [] [⟨(some 22), none, .bin .lss (.t 21) (.t 20)⟩])
  (.seq (.cond (.t 22) .skip
  (.exit 0))
  (.seq (.block 1 (.seq (.reg [] [⟨(some 23), none, .iaS 29 (.t 19) (.t 21)⟩,
    ⟨(some 24), none, .load (some 29) (.t 23)⟩,
    ⟨(some 5), none, .box (.c (.agg [(.v (.int .i64 0)), (.v (.int .i64 0)), (.v (.int .i64 0)), (.v (.int .i64 0)), (.v (.string ⟨⟨[]⟩⟩)), (.v (.string ⟨⟨[]⟩⟩)), (.v (.int .i64 0)), (.sl [] .nil), (.sl [] .nil), (.sl [] .nil), (.sl [] .nil), (.sl [] .nil), (.v (.bool false)), (.v (.bool false)), (.v (.bool false)), (.v (.int .i64 0)), (.v (.bool false)), (.v (.string ⟨⟨[]⟩⟩)), (.v (.string ⟨⟨[]⟩⟩)), (.v (.string ⟨⟨[]⟩⟩)), (.v (.bool false)), (.sl [] .nil), (.sl [] .nil), (.v (.string ⟨⟨[]⟩⟩)), (.v (.string ⟨⟨[]⟩⟩)), (.sl [] .nil), (.v (.string ⟨⟨[]⟩⟩)), (.v (.string ⟨⟨[]⟩⟩)), (.v (.string ⟨⟨[]⟩⟩))]))⟩,
    ⟨none, none, .store 29 (.t 5) (.t 24)⟩])
  (.seq (.seq (.reg [] [⟨(some 25), none, .fa 2 (.t 5)⟩,
    ⟨(some 26), none, .load (some 27) (.t 25)⟩,
    ⟨(some 27), none, .call 10 [(.t 26)]⟩])
  (.cond (.t 27) (.seq (.reg [] [⟨(some 2), none, .mv (.c (.v (.bool true)))⟩])
  .ret)
  .skip))
  (.seq (.reg [] [⟨(some 29), none, .load (some 4) (.t 3)⟩,
    ⟨(some 30), none, .load (some 29) (.t 5)⟩,
    ⟨(some 31), none, .call 11 [(.t 29), (.t 30)]⟩,
    ⟨(some 28), none, .mv (.t 31)⟩,
    ⟨(some 32), none, .ext (.t 28) 0⟩,
    ⟨(some 33), none, .ext (.t 28) 1⟩,
    ⟨(some 6), none, .box (.c (.agg [(.v (.int .i64 0)), (.v (.int .i64 0)), (.v (.int .i64 0)), (.v (.int .i64 0))]))⟩,
    ⟨none, none, .store 4 (.t 6) (.t 32)⟩,
    ⟨(some 7), none, .mv (.t 33)⟩])
  (.seq (.seq (.reg [] [⟨(some 34), none, .load (some 4) (.t 6)⟩,
    ⟨(some 35), none, .call 12 [(.t 34)]⟩,
    ⟨(some 36), none, .un .not (.t 35)⟩,
    ⟨(some 37), none, .mv (.t 36)⟩,
    ⟨(some 38), (some (37, false)), .mv (.t 7)⟩,
    ⟨(some 39), (some (37, false)), .eqI true true (.t 38) (.c (.v .nilIface))⟩,
    ⟨(some 40), (some (37, false)), .mv (.t 39)⟩,
    ⟨(some 41), (some (40, true)), .load (some 4) (.t 6)⟩,
    ⟨(some 42), (some (40, true)), .load (some 4) (.t 3)⟩,
    ⟨(some 43), (some (40, true)), .eqA true [.int, .int, .int, .int] (.t 41) (.t 42)⟩,
    ⟨(some 44), (some (37, false)), .pick (.t 40) (.t 43) (.c (.v (.bool false)))⟩,
    ⟨(some 45), none, .pick (.t 37) (.c (.v (.bool true))) (.t 44)⟩])
  (.cond (.t 45) (.seq (.reg [] [⟨(some 2), none, .mv (.c (.v (.bool false)))⟩])
  .ret)
  .skip))
  (.seq (.reg [] [⟨(some 46), none, .fa 0 (.t 5)⟩,
    ⟨(some 47), none, .load none (.t 46)⟩,
    ⟨(some 48), none, .bin .eql (.t 47) (.c (.v (.int .i64 3)))⟩,
    ⟨(some 49), none, .mv (.t 48)⟩,
    ⟨(some 50), (some (49, false)), .fa 0 (.t 5)⟩,
    ⟨(some 51), (some (49, false)), .load none (.t 50)⟩,
    ⟨(some 52), (some (49, false)), .bin .lss (.t 51) (.c (.v (.int .i64 0)))⟩,
    ⟨(some 53), none, .pick (.t 49) (.c (.v (.bool true))) (.t 52)⟩,
    ⟨(some 54), none, .mv (.t 53)⟩,
    ⟨(some 55), (some (54, false)), .fa 0 (.t 5)⟩,
    ⟨(some 56), (some (54, false)), .load none (.t 55)⟩,
    ⟨(some 57), (some (54, false)), .bin .gtr (.t 56) (.c (.v (.int .i64 4)))⟩,
    ⟨(some 58), none, .pick (.t 54) (.c (.v (.bool true))) (.t 57)⟩,
    ⟨(some 59), none, .mv (.t 58)⟩,
    ⟨(some 60), (some (59, false)), .fa 0 (.t 5)⟩,
    ⟨(some 61), (some (59, false)), .load none (.t 60)⟩,
    ⟨(some 62), (some (59, false)), .bin .eql (.t 61) (.c (.v (.int .i64 1)))⟩,
    ⟨(some 63), (some (59, false)), .mv (.t 62)⟩,
    ⟨(some 64), (some (63, true)), .fa 2 (.t 5)⟩,
    ⟨(some 65), (some (63, true)), .fa 0 (.t 64)⟩,
    ⟨(some 66), (some (63, true)), .load none (.t 65)⟩,
    ⟨(some 67), (some (63, true)), .bin .eql (.t 66) (.c (.v (.int .i64 9)))⟩,
    ⟨(some 68), (some (59, false)), .pick (.t 63) (.t 67) (.c (.v (.bool false)))⟩,
    ⟨(some 69), none, .pick (.t 59) (.c (.v (.bool true))) (.t 68)⟩,
    ⟨(some 8), none, .mv (.t 69)⟩])
  (.seq (.seq (.reg [] [⟨(some 70), none, .fa 1 (.t 6)⟩,
    ⟨(some 71), none, .load none (.t 70)⟩,
    ⟨(some 72), none, .fa 1 (.t 3)⟩,
    ⟨(some 73), none, .load none (.t 72)⟩,
    ⟨(some 74), none, .bin .lss (.t 71) (.t 73)⟩,
    ⟨(some 75), none, .mv (.t 74)⟩,
    ⟨(some 76), (some (75, true)), .mv (.t 8)⟩,
    ⟨(some 77), (some (75, true)), .un .not (.t 76)⟩,
    ⟨(some 78), none, .pick (.t 75) (.t 77) (.c (.v (.bool false)))⟩])
  (.cond (.t 78) (.seq (.reg [] [⟨(some 2), none, .mv (.c (.v (.bool false)))⟩])
  .ret)
  .skip))
  (.seq (.seq (.reg [] [⟨(some 79), none, .fa 0 (.t 5)⟩,
    ⟨(some 80), none, .load none (.t 79)⟩,
    ⟨(some 81), none, .bin .eql (.t 80) (.c (.v (.int .i64 2)))⟩,
    ⟨(some 82), none, .mv (.t 81)⟩,
    ⟨(some 83), (some (82, true)), .mv (.t 7)⟩,
    ⟨(some 84), (some (82, true)), .eqI false true (.t 83) (.c (.v .nilIface))⟩,
    ⟨(some 85), none, .pick (.t 82) (.t 84) (.c (.v (.bool false)))⟩])
  (.cond (.t 85) (.seq (.seq (.reg [] [⟨(some 86), none, .fa 3 (.t 6)⟩,
    ⟨(some 87), none, .load none (.t 86)⟩,
    ⟨(some 88), none, .fa 1 (.t 5)⟩,
    ⟨(some 89), none, .load none (.t 88)⟩,
    ⟨(some 90), none, .bin .sub (.t 87) (.t 89)⟩,
    ⟨(some 91), none, .bin .gtr (.t 90) (.c (.v (.int .i64 64)))⟩,
    ⟨(some 92), none, .mv (.t 91)⟩,
    ⟨(some 93), (some (92, false)), .fa 3 (.t 6)⟩,
    ⟨(some 94), (some (92, false)), .load none (.t 93)⟩,
    ⟨(some 95), (some (92, false)), .fa 1 (.t 5)⟩,
    ⟨(some 96), (some (92, false)), .load none (.t 95)⟩,
    ⟨(some 97), (some (92, false)), .bin .leq (.t 94) (.t 96)⟩,
    ⟨(some 98), none, .pick (.t 92) (.c (.v (.bool true))) (.t 97)⟩])
  (.cond (.t 98) (.seq (.reg [] [⟨(some 2), none, .mv (.c (.v (.bool false)))⟩])
  .ret)
  .skip))
  (.seq (.reg [] [⟨(some 100), none, .load (some 4) (.t 6)⟩,
    ⟨(some 101), none, .fa 1 (.t 5)⟩,
    ⟨(some 102), none, .load none (.t 101)⟩,
    ⟨(some 103), none, .call 13 [(.t 100), (.t 102)]⟩,
    ⟨(some 99), none, .mv (.t 103)⟩,
    ⟨(some 104), none, .ext (.t 99) 0⟩,
    ⟨(some 105), none, .ext (.t 99) 1⟩,
    ⟨(some 9), none, .box (.c (.agg [(.v (.int .i64 0)), (.v (.int .i64 0)), (.v (.int .i64 0)), (.v (.int .i64 0))]))⟩,
    ⟨none, none, .store 4 (.t 9) (.t 104)⟩,
    ⟨(some 10), none, .mv (.t 105)⟩])
  (.seq (.seq (.reg [] [⟨(some 106), none, .mv (.t 10)⟩,
    ⟨(some 107), none, .eqI true true (.t 106) (.c (.v .nilIface))⟩,
    ⟨(some 108), none, .mv (.t 107)⟩,
    ⟨(some 109), (some (108, false)), .load (some 4) (.t 9)⟩,
    ⟨(some 110), (some (108, false)), .load (some 4) (.t 6)⟩,
    ⟨(some 111), (some (108, false)), .eqA true [.int, .int, .int, .int] (.t 109) (.t 110)⟩,
    ⟨(some 112), none, .pick (.t 108) (.c (.v (.bool true))) (.t 111)⟩])
  (.cond (.t 112) (.seq (.reg [] [⟨(some 2), none, .mv (.c (.v (.bool false)))⟩])
  .ret)
  .skip))
  (.seq (.reg [] [⟨(some 113), none, .fa 1 (.t 5)⟩,
    ⟨(some 114), none, .load none (.t 113)⟩,
    ⟨(some 115), none, .bin .leq (.t 114) (.c (.v (.int .i64 1099511627712)))⟩])
  (.cond (.t 115) (.seq (.reg [] [⟨(some 117), none, .load (some 4) (.t 6)⟩,
    ⟨(some 118), none, .fa 3 (.t 6)⟩,
    ⟨(some 119), none, .load none (.t 118)⟩,
    ⟨(some 120), none, .call 13 [(.t 117), (.t 119)]⟩,
    ⟨(some 116), none, .mv (.t 120)⟩,
    ⟨(some 121), none, .ext (.t 116) 0⟩,
    ⟨(some 122), none, .ext (.t 116) 1⟩,
    ⟨(some 11), none, .box (.c (.agg [(.v (.int .i64 0)), (.v (.int .i64 0)), (.v (.int .i64 0)), (.v (.int .i64 0))]))⟩,
    ⟨none, none, .store 4 (.t 11) (.t 121)⟩,
    ⟨(some 12), none, .mv (.t 122)⟩])
  (.seq (.reg [] [⟨(some 123), none, .mv (.t 12)⟩,
    ⟨(some 124), none, .eqI true true (.t 123) (.c (.v .nilIface))⟩,
    ⟨(some 125), none, .mv (.t 124)⟩,
    ⟨(some 126), (some (125, false)), .fa 0 (.t 11)⟩,
    ⟨(some 127), (some (125, false)), .load none (.t 126)⟩,
    ⟨(some 128), (some (125, false)), .fa 0 (.t 6)⟩,
    ⟨(some 129), (some (125, false)), .load none (.t 128)⟩,
    ⟨(some 130), (some (125, false)), .bin .eql (.t 127) (.t 129)⟩,
    ⟨(some 131), none, .pick (.t 125) (.c (.v (.bool true))) (.t 130)⟩])
  (.cond (.t 131) (.seq (.reg [] [⟨(some 2), none, .mv (.c (.v (.bool false)))⟩])
  .ret)
  .skip)))
  .skip)))))
  .skip))
  (.reg [] [⟨(some 132), none, .load (some 4) (.t 6)⟩,
    ⟨none, none, .store 4 (.t 3) (.t 132)⟩])))))))))
  (.reg [] [⟨(some 133), none, .bin .add (.t 21) (.c (.v (.int .i64 1)))⟩,
    ⟨(some 21), none, .mv (.t 133)⟩]))))
noncomputable def l3_0 : RC := m3_0
noncomputable def b3 : RC := (.seq (.reg [] [⟨(some 2), none, .mv (.c (.v (.bool false)))⟩])
  (.seq (.seq (.reg [] [⟨(some 13), none, .call 9 []⟩,
    ⟨(some 14), none, .un .not (.t 13)⟩])
  (.cond (.t 14) (.seq (.reg [] [⟨(some 2), none, .mv (.c (.v (.bool false)))⟩])
  .ret)
  .skip))
  (.seq (.seq (.reg [] [⟨(some 15), none, .mv (.t 0)⟩,
    ⟨(some 16), none, .len .sl (.t 15)⟩,
    ⟨(some 17), none, .bin .gtr (.t 16) (.c (.v (.int .i64 40)))⟩])
  (.cond (.t 17) (.seq (.reg [] [⟨(some 2), none, .mv (.c (.v (.bool true)))⟩])
  .ret)
  .skip))
  (.seq (.reg [] [⟨(some 18), none, .build [(.v (.int .i64 0)), (.v (.int .i64 0)), (.v (.int .i64 0)), (.v (.int .i64 0))] []⟩,
    ⟨(some 3), none, .box (.c (.agg [(.v (.int .i64 0)), (.v (.int .i64 0)), (.v (.int .i64 0)), (.v (.int .i64 0))]))⟩,
    ⟨none, none, .store 4 (.t 3) (.t 18)⟩])
  (.seq (.seq (.reg [] [⟨(some 19), none, .mv (.t 0)⟩,
    ⟨(some 20), none, .len .sl (.t 19)⟩,
    ⟨(some 21), none, .mv (.c (.v (.int .i64 0)))⟩])
  (.block 0 (.loop [3, 19, 20, 21] [2] l3_0)))
  (.seq (.reg [] [⟨(some 2), none, .mv (.c (.v (.bool true)))⟩])
  .ret))))))
noncomputable def r3 : RFn := ⟨134, b3, [.tmp 2]⟩
noncomputable def k3 : List (List Nat) := [[3, 19, 20, 21], [2]]
theorem t3 : toRFn C k3 3 = some r3 := by kernel_rfl
/-- linkboy/linkboylaw42.alive -/
noncomputable def b9 : RC := (.seq (.reg [] [⟨(some 0), none, .mv (.c (.v (.bool false)))⟩])
  (.seq (.reg [] [⟨(some 5), none, .build [(.v (.int .i64 0)), (.v (.int .i64 0)), (.v (.int .i64 0)), (.v (.int .i64 0))] []⟩,
    ⟨(some 6), none, .call 64 [(.t 5), (.c (.v (.int .i64 0)))]⟩,
    ⟨(some 4), none, .mv (.t 6)⟩,
    ⟨(some 7), none, .ext (.t 4) 0⟩,
    ⟨(some 8), none, .ext (.t 4) 1⟩,
    ⟨(some 1), none, .box (.c (.agg [(.v (.int .i64 0)), (.v (.int .i64 0)), (.v (.int .i64 0)), (.v (.int .i64 0))]))⟩,
    ⟨none, none, .store 4 (.t 1) (.t 7)⟩,
    ⟨(some 2), none, .mv (.t 8)⟩])
  (.seq (.reg [] [⟨(some 10), none, .load (some 4) (.t 1)⟩,
    ⟨(some 11), none, .call 65 [(.t 10), (.c (.v (.int .i64 5)))]⟩,
    ⟨(some 9), none, .mv (.t 11)⟩,
    ⟨(some 12), none, .ext (.t 9) 0⟩,
    ⟨(some 13), none, .ext (.t 9) 1⟩,
    ⟨none, none, .store 4 (.t 1) (.t 12)⟩,
    ⟨(some 3), none, .mv (.t 13)⟩])
  (.seq (.reg [] [⟨(some 14), none, .mv (.t 2)⟩,
    ⟨(some 15), none, .eqI false true (.t 14) (.c (.v .nilIface))⟩,
    ⟨(some 16), none, .mv (.t 15)⟩,
    ⟨(some 17), (some (16, true)), .mv (.t 3)⟩,
    ⟨(some 18), (some (16, true)), .eqI false true (.t 17) (.c (.v .nilIface))⟩,
    ⟨(some 19), none, .pick (.t 16) (.t 18) (.c (.v (.bool false)))⟩,
    ⟨(some 20), none, .mv (.t 19)⟩,
    ⟨(some 21), (some (20, true)), .fa 0 (.t 1)⟩,
    ⟨(some 22), (some (20, true)), .load none (.t 21)⟩,
    ⟨(some 23), (some (20, true)), .call 66 [(.t 22)]⟩,
    ⟨(some 24), (some (20, true)), .bin .eql (.t 23) (.c (.v (.string ⟨⟨[119, 97, 105, 116, 105, 110, 103]⟩⟩)))⟩,
    ⟨(some 25), none, .pick (.t 20) (.t 24) (.c (.v (.bool false)))⟩,
    ⟨(some 26), none, .mv (.t 25)⟩,
    ⟨(some 27), (some (26, true)), .fa 3 (.t 1)⟩,
    ⟨(some 28), (some (26, true)), .load none (.t 27)⟩,
    ⟨(some 29), (some (26, true)), .bin .eql (.t 28) (.c (.v (.int .i64 6)))⟩,
    ⟨(some 30), none, .pick (.t 26) (.t 29) (.c (.v (.bool false)))⟩,
    ⟨(some 0), none, .mv (.t 30)⟩])
  .ret))))
noncomputable def r9 : RFn := ⟨31, b9, [.tmp 0]⟩
noncomputable def k9 : List (List Nat) := []
theorem t9 : toRFn C k9 9 = some r9 := by kernel_rfl
/-- linkboy/linkboylaw14.Long -/
noncomputable def b10 : RC := (.seq (.reg [] [⟨(some 1), none, .box (.t 0)⟩,
    ⟨(some 2), none, .mv (.c (.v (.bool false)))⟩])
  (.seq (.reg [] [⟨(some 3), none, .fa 2 (.t 1)⟩,
    ⟨(some 4), none, .load (some 13) (.t 3)⟩,
    ⟨(some 5), none, .call 44 [(.t 4)]⟩,
    ⟨(some 6), none, .mv (.t 5)⟩,
    ⟨(some 7), (some (6, false)), .fa 15 (.t 1)⟩,
    ⟨(some 8), (some (6, false)), .load (some 6) (.t 7)⟩,
    ⟨(some 9), (some (6, false)), .call 34 [(.t 8)]⟩,
    ⟨(some 10), none, .pick (.t 6) (.c (.v (.bool true))) (.t 9)⟩,
    ⟨(some 11), none, .mv (.t 10)⟩,
    ⟨(some 12), (some (11, false)), .fa 21 (.t 1)⟩,
    ⟨(some 13), (some (11, false)), .load (some 3) (.t 12)⟩,
    ⟨(some 14), (some (11, false)), .call 20 [(.t 13)]⟩,
    ⟨(some 15), none, .pick (.t 11) (.c (.v (.bool true))) (.t 14)⟩,
    ⟨(some 16), none, .mv (.t 15)⟩,
    ⟨(some 17), (some (16, false)), .fa 24 (.t 1)⟩,
    ⟨(some 18), (some (16, false)), .fa 0 (.t 17)⟩,
    ⟨(some 19), (some (16, false)), .load none (.t 18)⟩,
    ⟨(some 20), (some (16, false)), .len .str (.t 19)⟩,
    ⟨(some 21), (some (16, false)), .bin .gtr (.t 20) (.c (.v (.int .i64 400)))⟩,
    ⟨(some 22), none, .pick (.t 16) (.c (.v (.bool true))) (.t 21)⟩,
    ⟨(some 23), none, .mv (.t 22)⟩,
    ⟨(some 24), (some (23, false)), .fa 24 (.t 1)⟩,
    ⟨(some 25), (some (23, false)), .fa 1 (.t 24)⟩,
    ⟨(some 26), (some (23, false)), .load none (.t 25)⟩,
    ⟨(some 27), (some (23, false)), .len .str (.t 26)⟩,
    ⟨(some 28), (some (23, false)), .bin .gtr (.t 27) (.c (.v (.int .i64 400)))⟩,
    ⟨(some 29), none, .pick (.t 23) (.c (.v (.bool true))) (.t 28)⟩,
    ⟨(some 30), none, .mv (.t 29)⟩,
    ⟨(some 31), (some (30, false)), .fa 26 (.t 1)⟩,
    ⟨(some 32), (some (30, false)), .load none (.t 31)⟩,
    ⟨(some 33), (some (30, false)), .len .str (.t 32)⟩,
    ⟨(some 34), (some (30, false)), .bin .gtr (.t 33) (.c (.v (.int .i64 400)))⟩,
    ⟨(some 35), none, .pick (.t 30) (.c (.v (.bool true))) (.t 34)⟩,
    ⟨(some 2), none, .mv (.t 35)⟩])
  .ret))
noncomputable def r10 : RFn := ⟨36, b10, [.tmp 2]⟩
noncomputable def k10 : List (List Nat) := []
theorem t10 : toRFn C k10 10 = some r10 := by kernel_rfl
/-- linkboy/linkboylaw42.do -/
noncomputable def b11 : RC := (.seq (.reg [] [⟨(some 2), none, .box (.t 0)⟩,
    ⟨(some 3), none, .box (.t 1)⟩,
    ⟨(some 4), none, .box (.c (.agg [(.v (.int .i64 0)), (.v (.int .i64 0)), (.v (.int .i64 0)), (.v (.int .i64 0))]))⟩,
    ⟨(some 5), none, .mv (.c (.v .nilIface))⟩])
  (.seq (.seq (.reg [] [⟨(some 6), none, .fa 0 (.t 3)⟩,
    ⟨(some 7), none, .load none (.t 6)⟩])
  (.block 0 (.seq (.reg [] [⟨(some 9), none, .bin .eql (.t 7) (.c (.v (.int .i64 0)))⟩,
    ⟨(some 8), none, .mv (.t 9)⟩])
  (.cond (.t 8) (.seq (.reg [] [⟨(some 10), none, .load (some 4) (.t 2)⟩,
    ⟨(some 11), none, .fa 1 (.t 3)⟩,
    ⟨(some 12), none, .load none (.t 11)⟩,
    ⟨(some 13), none, .call 64 [(.t 10), (.t 12)]⟩,
    ⟨(some 14), none, .ext (.t 13) 0⟩,
    ⟨(some 15), none, .ext (.t 13) 1⟩,
    ⟨none, none, .store 4 (.t 4) (.t 14)⟩,
    ⟨(some 5), none, .mv (.t 15)⟩])
  .ret)
  (.seq (.reg [] [⟨(some 17), none, .bin .eql (.t 7) (.c (.v (.int .i64 1)))⟩,
    ⟨(some 16), none, .mv (.t 17)⟩])
  (.cond (.t 16) (.seq (.reg [] [⟨(some 18), none, .load (some 4) (.t 2)⟩,
    ⟨(some 19), none, .fa 2 (.t 3)⟩,
    ⟨(some 20), none, .load (some 27) (.t 19)⟩,
    ⟨(some 21), none, .fa 1 (.t 3)⟩,
    ⟨(some 22), none, .load none (.t 21)⟩,
    ⟨(some 23), none, .call 67 [(.t 18), (.t 20), (.t 22)]⟩,
    ⟨(some 24), none, .ext (.t 23) 0⟩,
    ⟨(some 25), none, .ext (.t 23) 1⟩,
    ⟨none, none, .store 4 (.t 4) (.t 24)⟩,
    ⟨(some 5), none, .mv (.t 25)⟩])
  .ret)
  (.seq (.reg [] [⟨(some 27), none, .bin .eql (.t 7) (.c (.v (.int .i64 2)))⟩,
    ⟨(some 26), none, .mv (.t 27)⟩])
  (.cond (.t 26) (.seq (.reg [] [⟨(some 28), none, .load (some 4) (.t 2)⟩,
    ⟨(some 29), none, .fa 1 (.t 3)⟩,
    ⟨(some 30), none, .load none (.t 29)⟩,
    ⟨(some 31), none, .call 65 [(.t 28), (.t 30)]⟩,
    ⟨(some 32), none, .ext (.t 31) 0⟩,
    ⟨(some 33), none, .ext (.t 31) 1⟩,
    ⟨none, none, .store 4 (.t 4) (.t 32)⟩,
    ⟨(some 5), none, .mv (.t 33)⟩])
  .ret)
  (.seq (.reg [] [⟨(some 35), none, .bin .eql (.t 7) (.c (.v (.int .i64 3)))⟩,
    ⟨(some 34), none, .mv (.t 35)⟩])
  (.cond (.t 34) (.seq (.reg [] [⟨(some 36), none, .load (some 4) (.t 2)⟩,
    ⟨(some 37), none, .fa 1 (.t 3)⟩,
    ⟨(some 38), none, .load none (.t 37)⟩,
    ⟨(some 39), none, .call 68 [(.t 36), (.t 38)]⟩,
    ⟨(some 40), none, .ext (.t 39) 0⟩,
    ⟨(some 41), none, .ext (.t 39) 1⟩,
    ⟨none, none, .store 4 (.t 4) (.t 40)⟩,
    ⟨(some 5), none, .mv (.t 41)⟩])
  .ret)
  (.seq (.reg [] [⟨(some 43), none, .bin .eql (.t 7) (.c (.v (.int .i64 4)))⟩,
    ⟨(some 42), none, .mv (.t 43)⟩])
  (.cond (.t 42) (.seq (.reg [] [⟨(some 44), none, .load (some 4) (.t 2)⟩,
    ⟨(some 45), none, .fa 1 (.t 3)⟩,
    ⟨(some 46), none, .load none (.t 45)⟩,
    ⟨(some 47), none, .call 13 [(.t 44), (.t 46)]⟩,
    ⟨(some 48), none, .ext (.t 47) 0⟩,
    ⟨(some 49), none, .ext (.t 47) 1⟩,
    ⟨none, none, .store 4 (.t 4) (.t 48)⟩,
    ⟨(some 5), none, .mv (.t 49)⟩])
  .ret)
  .skip))))))))))))
  (.seq (.reg [] [⟨(some 50), none, .load (some 4) (.t 2)⟩,
    ⟨(some 51), none, .fa 1 (.t 3)⟩,
    ⟨(some 52), none, .load none (.t 51)⟩,
    ⟨(some 53), none, .call 69 [(.t 50), (.t 52)]⟩,
    ⟨(some 54), none, .ext (.t 53) 0⟩,
    ⟨(some 55), none, .ext (.t 53) 1⟩,
    ⟨none, none, .store 4 (.t 4) (.t 54)⟩,
    ⟨(some 5), none, .mv (.t 55)⟩])
  .ret)))
noncomputable def r11 : RFn := ⟨56, b11, [.cell 4 (some 4), .tmp 5]⟩
noncomputable def k11 : List (List Nat) := []
theorem t11 : toRFn C k11 11 = some r11 := by kernel_rfl
/-- linkboy/watch.Right -/
noncomputable def b12 : RC := (.seq (.reg [] [⟨(some 1), none, .box (.t 0)⟩,
    ⟨(some 2), none, .mv (.c (.v (.bool false)))⟩])
  (.seq (.reg [] [⟨(some 4), none, .fa 0 (.t 1)⟩,
    ⟨(some 5), none, .load none (.t 4)⟩,
    ⟨(some 6), none, .call 70 [(.t 5), (.c (.v (.int .i64 3)))]⟩,
    ⟨(some 7), none, .mv (.t 6)⟩,
    ⟨(some 8), (some (7, true)), .fa 1 (.t 1)⟩,
    ⟨(some 9), (some (7, true)), .load none (.t 8)⟩,
    ⟨(some 10), (some (7, true)), .call 70 [(.t 9), (.c (.v (.int .i64 1099511627776)))]⟩,
    ⟨(some 11), none, .pick (.t 7) (.t 10) (.c (.v (.bool false)))⟩,
    ⟨(some 12), none, .mv (.t 11)⟩,
    ⟨(some 13), (some (12, true)), .fa 2 (.t 1)⟩,
    ⟨(some 14), (some (12, true)), .load none (.t 13)⟩,
    ⟨(some 15), (some (12, true)), .call 70 [(.t 14), (.c (.v (.int .i64 30)))]⟩,
    ⟨(some 16), none, .pick (.t 12) (.t 15) (.c (.v (.bool false)))⟩,
    ⟨(some 17), none, .mv (.t 16)⟩,
    ⟨(some 18), (some (17, true)), .fa 3 (.t 1)⟩,
    ⟨(some 19), (some (17, true)), .load none (.t 18)⟩,
    ⟨(some 20), (some (17, true)), .call 70 [(.t 19), (.c (.v (.int .i64 1099511627840)))]⟩,
    ⟨(some 21), none, .pick (.t 17) (.t 20) (.c (.v (.bool false)))⟩,
    ⟨(some 3), none, .mv (.t 21)⟩])
  (.seq (.seq (.reg [] [⟨(some 22), none, .fa 0 (.t 1)⟩,
    ⟨(some 23), none, .load none (.t 22)⟩])
  (.block 0 (.seq (.reg [] [⟨(some 25), none, .bin .eql (.t 23) (.c (.v (.int .i64 0)))⟩,
    ⟨(some 24), none, .mv (.t 25)⟩])
  (.cond (.t 24) (.seq (.reg [] [⟨(some 26), none, .mv (.t 3)⟩,
    ⟨(some 27), none, .mv (.t 26)⟩,
    ⟨(some 28), (some (27, true)), .load (some 4) (.t 1)⟩,
    ⟨(some 29), (some (27, true)), .build [(.v (.int .i64 0)), (.v (.int .i64 0)), (.v (.int .i64 0)), (.v (.int .i64 0))] []⟩,
    ⟨(some 30), (some (27, true)), .eqA false [.int, .int, .int, .int] (.t 28) (.t 29)⟩,
    ⟨(some 31), none, .pick (.t 27) (.t 30) (.c (.v (.bool false)))⟩,
    ⟨(some 2), none, .mv (.t 31)⟩])
  .ret)
  (.seq (.reg [] [⟨(some 33), none, .bin .eql (.t 23) (.c (.v (.int .i64 1)))⟩,
    ⟨(some 32), none, .mv (.t 33)⟩])
  (.cond (.t 32) (.seq (.reg [] [⟨(some 34), none, .mv (.t 3)⟩,
    ⟨(some 35), none, .mv (.t 34)⟩,
    ⟨(some 36), (some (35, true)), .fa 3 (.t 1)⟩,
    ⟨(some 37), (some (35, true)), .load none (.t 36)⟩,
    ⟨(some 38), (some (35, true)), .bin .eql (.t 37) (.c (.v (.int .i64 0)))⟩,
    ⟨(some 39), none, .pick (.t 35) (.t 38) (.c (.v (.bool false)))⟩,
    ⟨(some 2), none, .mv (.t 39)⟩])
  .ret)
  (.seq (.reg [] [⟨(some 41), none, .bin .eql (.t 23) (.c (.v (.int .i64 2)))⟩,
    ⟨(some 40), none, .mv (.t 41)⟩])
  (.cond (.t 40) (.seq (.reg [] [⟨(some 42), none, .mv (.t 3)⟩,
    ⟨(some 43), none, .mv (.t 42)⟩,
    ⟨(some 44), (some (43, true)), .fa 3 (.t 1)⟩,
    ⟨(some 45), (some (43, true)), .load none (.t 44)⟩,
    ⟨(some 46), (some (43, true)), .bin .eql (.t 45) (.c (.v (.int .i64 0)))⟩,
    ⟨(some 47), none, .pick (.t 43) (.t 46) (.c (.v (.bool false)))⟩,
    ⟨(some 48), none, .mv (.t 47)⟩,
    ⟨(some 49), (some (48, true)), .fa 1 (.t 1)⟩,
    ⟨(some 50), (some (48, true)), .load none (.t 49)⟩,
    ⟨(some 51), (some (48, true)), .bin .gtr (.t 50) (.c (.v (.int .i64 0)))⟩,
    ⟨(some 52), none, .pick (.t 48) (.t 51) (.c (.v (.bool false)))⟩,
    ⟨(some 2), none, .mv (.t 52)⟩])
  .ret)
  .skip))))))))
  (.seq (.reg [] [⟨(some 53), none, .mv (.t 3)⟩,
    ⟨(some 54), none, .mv (.t 53)⟩,
    ⟨(some 55), (some (54, true)), .fa 2 (.t 1)⟩,
    ⟨(some 56), (some (54, true)), .load none (.t 55)⟩,
    ⟨(some 57), (some (54, true)), .bin .gtr (.t 56) (.c (.v (.int .i64 0)))⟩,
    ⟨(some 58), none, .pick (.t 54) (.t 57) (.c (.v (.bool false)))⟩,
    ⟨(some 2), none, .mv (.t 58)⟩])
  .ret))))
noncomputable def r12 : RFn := ⟨59, b12, [.tmp 2]⟩
noncomputable def k12 : List (List Nat) := []
theorem t12 : toRFn C k12 12 = some r12 := by kernel_rfl
/-- (linkboy/watch.Watcher).Tick -/
noncomputable def b13 : RC := (.seq (.reg [] [⟨(some 2), none, .box (.t 0)⟩,
    ⟨(some 4), none, .box (.c (.agg [(.v (.int .i64 0)), (.v (.int .i64 0)), (.v (.int .i64 0)), (.v (.int .i64 0))]))⟩,
    ⟨(some 5), none, .mv (.c (.v .nilIface))⟩])
  (.seq (.reg [] [⟨(some 7), none, .load (some 4) (.t 2)⟩,
    ⟨(some 8), none, .mv (.t 1)⟩,
    ⟨(some 9), none, .call 71 [(.t 7), (.t 8)]⟩,
    ⟨(some 6), none, .mv (.t 9)⟩])
  (.seq (.block 0 (.seq (.reg [] [⟨(some 11), none, .mv (.t 6)⟩,
    ⟨(some 12), none, .eqI true true (.t 11) (.c (.v .nilIface))⟩,
    ⟨(some 13), none, .mv (.t 12)⟩,
    ⟨(some 14), (some (13, false)), .fa 0 (.t 2)⟩,
    ⟨(some 15), (some (13, false)), .load none (.t 14)⟩,
    ⟨(some 16), (some (13, false)), .bin .neq (.t 15) (.c (.v (.int .i64 3)))⟩,
    ⟨(some 17), none, .pick (.t 13) (.c (.v (.bool true))) (.t 16)⟩,
    ⟨(some 18), none, .mv (.t 17)⟩,
    ⟨(some 19), (some (18, false)), .mv (.t 1)⟩,
    ⟨(some 20), (some (18, false)), .fa 3 (.t 2)⟩,
    ⟨(some 21), (some (18, false)), .load none (.t 20)⟩,
    ⟨(some 22), (some (18, false)), .bin .lss (.t 19) (.t 21)⟩,
    ⟨(some 23), none, .pick (.t 18) (.c (.v (.bool true))) (.t 22)⟩,
    ⟨(some 10), none, .mv (.t 23)⟩])
  (.cond (.t 10) (.seq (.reg [] [⟨(some 24), none, .load (some 4) (.t 2)⟩,
    ⟨(some 25), none, .mv (.t 6)⟩,
    ⟨none, none, .store 4 (.t 4) (.t 24)⟩,
    ⟨(some 5), none, .mv (.t 25)⟩])
  .ret)
  (.seq (.reg [] [⟨(some 27), none, .fa 1 (.t 2)⟩,
    ⟨(some 28), none, .load none (.t 27)⟩,
    ⟨(some 29), none, .bin .gtr (.t 28) (.c (.v (.int .i64 0)))⟩,
    ⟨(some 26), none, .mv (.t 29)⟩])
  (.cond (.t 26) (.seq (.reg [] [⟨(some 30), none, .load (some 4) (.t 2)⟩,
    ⟨(some 31), none, .call 72 [(.t 30), (.c (.v (.int .i64 2))), (.c (.v .nilIface))]⟩,
    ⟨(some 32), none, .ext (.t 31) 0⟩,
    ⟨(some 33), none, .ext (.t 31) 1⟩,
    ⟨none, none, .store 4 (.t 4) (.t 32)⟩,
    ⟨(some 5), none, .mv (.t 33)⟩])
  .ret)
  .skip)))))
  (.seq (.reg [] [⟨(some 34), none, .load (some 4) (.t 2)⟩,
    ⟨(some 35), none, .call 72 [(.t 34), (.c (.v (.int .i64 1))), (.c (.v .nilIface))]⟩,
    ⟨(some 36), none, .ext (.t 35) 0⟩,
    ⟨(some 37), none, .ext (.t 35) 1⟩,
    ⟨none, none, .store 4 (.t 4) (.t 36)⟩,
    ⟨(some 5), none, .mv (.t 37)⟩])
  .ret))))
noncomputable def r13 : RFn := ⟨38, b13, [.cell 4 (some 4), .tmp 5]⟩
noncomputable def k13 : List (List Nat) := []
theorem t13 : toRFn C k13 13 = some r13 := by kernel_rfl
/-- linkboy/linkboylaw13.LongNode -/
noncomputable def b20 : RC := (.seq (.reg [] [⟨(some 1), none, .box (.t 0)⟩,
    ⟨(some 2), none, .mv (.c (.v (.bool false)))⟩])
  (.seq (.reg [] [⟨(some 3), none, .fa 0 (.t 1)⟩,
    ⟨(some 4), none, .load none (.t 3)⟩,
    ⟨(some 5), none, .len .str (.t 4)⟩,
    ⟨(some 6), none, .bin .gtr (.t 5) (.c (.v (.int .i64 400)))⟩,
    ⟨(some 7), none, .mv (.t 6)⟩,
    ⟨(some 8), (some (7, false)), .fa 1 (.t 1)⟩,
    ⟨(some 9), (some (7, false)), .load none (.t 8)⟩,
    ⟨(some 10), (some (7, false)), .len .str (.t 9)⟩,
    ⟨(some 11), (some (7, false)), .bin .gtr (.t 10) (.c (.v (.int .i64 400)))⟩,
    ⟨(some 12), none, .pick (.t 7) (.c (.v (.bool true))) (.t 11)⟩,
    ⟨(some 13), none, .mv (.t 12)⟩,
    ⟨(some 14), (some (13, false)), .fa 2 (.t 1)⟩,
    ⟨(some 15), (some (13, false)), .load none (.t 14)⟩,
    ⟨(some 16), (some (13, false)), .len .sl (.t 15)⟩,
    ⟨(some 17), (some (13, false)), .bin .gtr (.t 16) (.c (.v (.int .i64 20)))⟩,
    ⟨(some 18), none, .pick (.t 13) (.c (.v (.bool true))) (.t 17)⟩,
    ⟨(some 2), none, .mv (.t 18)⟩])
  .ret))
noncomputable def r20 : RFn := ⟨19, b20, [.tmp 2]⟩
noncomputable def k20 : List (List Nat) := []
theorem t20 : toRFn C k20 20 = some r20 := by kernel_rfl
/-- linkboy/object.RightNode -/
noncomputable def b23 : RC := (.seq (.reg [] [⟨(some 1), none, .box (.t 0)⟩,
    ⟨(some 2), none, .mv (.c (.v (.bool false)))⟩])
  (.seq (.reg [] [⟨(some 3), none, .fa 0 (.t 1)⟩,
    ⟨(some 4), none, .load none (.t 3)⟩,
    ⟨(some 5), none, .call 81 [(.t 4)]⟩,
    ⟨(some 6), none, .mv (.t 5)⟩,
    ⟨(some 7), (some (6, true)), .fa 1 (.t 1)⟩,
    ⟨(some 8), (some (6, true)), .load none (.t 7)⟩,
    ⟨(some 9), (some (6, true)), .call 82 [(.t 8)]⟩,
    ⟨(some 10), none, .pick (.t 6) (.t 9) (.c (.v (.bool false)))⟩,
    ⟨(some 11), none, .mv (.t 10)⟩,
    ⟨(some 12), (some (11, true)), .fa 2 (.t 1)⟩,
    ⟨(some 13), (some (11, true)), .load none (.t 12)⟩,
    ⟨(some 14), (some (11, true)), .call 83 [(.t 13)]⟩,
    ⟨(some 15), none, .pick (.t 11) (.t 14) (.c (.v (.bool false)))⟩,
    ⟨(some 2), none, .mv (.t 15)⟩])
  .ret))
noncomputable def r23 : RFn := ⟨16, b23, [.tmp 2]⟩
noncomputable def k23 : List (List Nat) := []
theorem t23 : toRFn C k23 23 = some r23 := by kernel_rfl
/-- linkboy/linkboylaw13.LongSlice -/
noncomputable def m34_0 : RC := (.seq (.reg [] [⟨(some 23), none, .bin .lss (.t 22) (.t 21)⟩])
  (.seq (.cond (.t 23) .skip
  (.exit 2))
  (.seq (.block 3 (.seq (.reg [] [⟨(some 24), none, .iaS 22 (.t 20) (.t 22)⟩,
    ⟨(some 25), none, .load (some 22) (.t 24)⟩,
    ⟨(some 6), none, .box (.c (.agg [(.v (.bool false)), (.v (.int .u8 0)), (.v (.int .u8 0)), (.v (.int .u8 0)), (.v (.int .u8 0)), (.v (.int .u8 0)), (.v (.int .u8 0)), (.v (.int .u8 0)), (.v (.int .u8 0)), (.v (.int .u8 0)), (.v (.int .u8 0)), (.v (.int .u8 0)), (.v (.int .u8 0)), (.v (.int .u8 0)), (.v (.int .u8 0)), (.v (.int .u8 0)), (.v (.int .u8 0)), (.v (.string ⟨⟨[]⟩⟩)), (.v (.bool false)), (.v (.bool false)), (.v (.bool false)), (.sl [] .nil)]))⟩,
    ⟨none, none, .store 22 (.t 6) (.t 25)⟩])
  (.seq (.reg [] [⟨(some 26), none, .fa 17 (.t 6)⟩,
    ⟨(some 27), none, .load none (.t 26)⟩,
    ⟨(some 28), none, .len .str (.t 27)⟩,
    ⟨(some 29), none, .bin .gtr (.t 28) (.c (.v (.int .i64 400)))⟩,
    ⟨(some 30), none, .mv (.t 29)⟩,
    ⟨(some 31), (some (30, false)), .fa 21 (.t 6)⟩,
    ⟨(some 32), (some (30, false)), .load none (.t 31)⟩,
    ⟨(some 33), (some (30, false)), .call 101 [(.t 32), (.c (.v (.int .i64 400)))]⟩,
    ⟨(some 34), none, .pick (.t 30) (.c (.v (.bool true))) (.t 33)⟩])
  (.cond (.t 34) (.seq (.reg [] [⟨(some 2), none, .mv (.c (.v (.bool true)))⟩])
  .ret)
  .skip))))
  (.reg [] [⟨(some 35), none, .bin .add (.t 22) (.c (.v (.int .i64 1)))⟩,
    ⟨(some 22), none, .mv (.t 35)⟩]))))
noncomputable def l34_0 : RC := m34_0
noncomputable def m34_1 : RC := (.seq (.reg [] [⟨(some 11), none, .bin .lss (.t 10) (.t 9)⟩])
  (.seq (.cond (.t 11) .skip
  (.exit 0))
  (.seq (.block 1 (.seq (.reg [] [⟨(some 12), none, .iaS 4 (.t 8) (.t 10)⟩,
    ⟨(some 13), none, .load (some 4) (.t 12)⟩,
    ⟨(some 4), none, .box (.c (.agg [(.v (.string ⟨⟨[]⟩⟩)), (.v (.int .i64 0)), (.v (.int .i64 0)), (.v (.int .i64 0))]))⟩,
    ⟨none, none, .store 4 (.t 4) (.t 13)⟩])
  (.seq (.reg [] [⟨(some 14), none, .fa 0 (.t 4)⟩,
    ⟨(some 15), none, .load none (.t 14)⟩,
    ⟨(some 16), none, .len .str (.t 15)⟩,
    ⟨(some 17), none, .bin .gtr (.t 16) (.c (.v (.int .i64 400)))⟩])
  (.cond (.t 17) (.seq (.reg [] [⟨(some 2), none, .mv (.c (.v (.bool true)))⟩])
  .ret)
  .skip))))
  (.reg [] [⟨(some 18), none, .bin .add (.t 10) (.c (.v (.int .i64 1)))⟩,
    ⟨(some 10), none, .mv (.t 18)⟩]))))
noncomputable def l34_1 : RC := m34_1
noncomputable def b34 : RC := (.seq (.reg [] [⟨(some 1), none, .box (.t 0)⟩,
    ⟨(some 2), none, .mv (.c (.v (.bool false)))⟩])
  (.seq (.seq (.reg [] [⟨(some 7), none, .fa 4 (.t 1)⟩,
    ⟨(some 8), none, .load none (.t 7)⟩,
    ⟨(some 9), none, .len .sl (.t 8)⟩,
    ⟨(some 10), none, .mv (.c (.v (.int .i64 0)))⟩])
  (.block 0 (.loop [1, 8, 9, 10] [1, 2] l34_1)))
  (.seq (.seq (.reg [] [⟨(some 19), none, .fa 5 (.t 1)⟩,
    ⟨(some 20), none, .load none (.t 19)⟩,
    ⟨(some 21), none, .len .sl (.t 20)⟩,
    ⟨(some 22), none, .mv (.c (.v (.int .i64 0)))⟩])
  (.block 2 (.loop [1, 20, 21, 22] [1, 2] l34_0)))
  (.seq (.reg [] [⟨(some 36), none, .fa 0 (.t 1)⟩,
    ⟨(some 37), none, .fa 0 (.t 36)⟩,
    ⟨(some 38), none, .load none (.t 37)⟩,
    ⟨(some 39), none, .len .str (.t 38)⟩,
    ⟨(some 40), none, .bin .gtr (.t 39) (.c (.v (.int .i64 400)))⟩,
    ⟨(some 41), none, .mv (.t 40)⟩,
    ⟨(some 42), (some (41, false)), .fa 0 (.t 1)⟩,
    ⟨(some 43), (some (41, false)), .fa 1 (.t 42)⟩,
    ⟨(some 44), (some (41, false)), .load none (.t 43)⟩,
    ⟨(some 45), (some (41, false)), .len .str (.t 44)⟩,
    ⟨(some 46), (some (41, false)), .bin .gtr (.t 45) (.c (.v (.int .i64 400)))⟩,
    ⟨(some 47), none, .pick (.t 41) (.c (.v (.bool true))) (.t 46)⟩,
    ⟨(some 48), none, .mv (.t 47)⟩,
    ⟨(some 49), (some (48, false)), .fa 2 (.t 1)⟩,
    ⟨(some 50), (some (48, false)), .load none (.t 49)⟩,
    ⟨(some 51), (some (48, false)), .len .str (.t 50)⟩,
    ⟨(some 52), (some (48, false)), .bin .gtr (.t 51) (.c (.v (.int .i64 400)))⟩,
    ⟨(some 53), none, .pick (.t 48) (.c (.v (.bool true))) (.t 52)⟩,
    ⟨(some 54), none, .mv (.t 53)⟩,
    ⟨(some 55), (some (54, false)), .fa 4 (.t 1)⟩,
    ⟨(some 56), (some (54, false)), .load none (.t 55)⟩,
    ⟨(some 57), (some (54, false)), .len .sl (.t 56)⟩,
    ⟨(some 58), (some (54, false)), .bin .gtr (.t 57) (.c (.v (.int .i64 20)))⟩,
    ⟨(some 59), none, .pick (.t 54) (.c (.v (.bool true))) (.t 58)⟩,
    ⟨(some 60), none, .mv (.t 59)⟩,
    ⟨(some 61), (some (60, false)), .fa 5 (.t 1)⟩,
    ⟨(some 62), (some (60, false)), .load none (.t 61)⟩,
    ⟨(some 63), (some (60, false)), .len .sl (.t 62)⟩,
    ⟨(some 64), (some (60, false)), .bin .gtr (.t 63) (.c (.v (.int .i64 30)))⟩,
    ⟨(some 65), none, .pick (.t 60) (.c (.v (.bool true))) (.t 64)⟩,
    ⟨(some 2), none, .mv (.t 65)⟩])
  .ret))))
noncomputable def r34 : RFn := ⟨66, b34, [.tmp 2]⟩
noncomputable def k34 : List (List Nat) := [[1, 8, 9, 10], [1, 2], [1, 20, 21, 22], [1, 2]]
theorem t34 : toRFn C k34 34 = some r34 := by kernel_rfl
/-- linkboy/object.RightSlice -/
noncomputable def b37 : RC := (.seq (.reg [] [⟨(some 1), none, .box (.t 0)⟩,
    ⟨(some 2), none, .mv (.c (.v (.bool false)))⟩])
  (.seq (.reg [] [⟨(some 5), none, .fa 4 (.t 1)⟩,
    ⟨(some 6), none, .load none (.t 5)⟩,
    ⟨(some 7), none, .call 109 [(.t 6), (.c (.fn (.func 110) [] []))]⟩,
    ⟨(some 3), none, .mv (.t 7)⟩])
  (.seq (.reg [] [⟨(some 8), none, .fa 5 (.t 1)⟩,
    ⟨(some 9), none, .load none (.t 8)⟩,
    ⟨(some 10), none, .fn (.func 113) [] [(.t 1)]⟩,
    ⟨(some 11), none, .call 112 [(.t 9), (.t 10)]⟩,
    ⟨(some 4), none, .mv (.t 11)⟩])
  (.seq (.reg [] [⟨(some 12), none, .fa 0 (.t 1)⟩,
    ⟨(some 13), none, .load (some 2) (.t 12)⟩,
    ⟨(some 14), none, .call 116 [(.t 13)]⟩,
    ⟨(some 15), none, .mv (.t 14)⟩,
    ⟨(some 16), (some (15, true)), .fa 2 (.t 1)⟩,
    ⟨(some 17), (some (15, true)), .load none (.t 16)⟩,
    ⟨(some 18), (some (15, true)), .call 81 [(.t 17)]⟩,
    ⟨(some 19), none, .pick (.t 15) (.t 18) (.c (.v (.bool false)))⟩,
    ⟨(some 20), none, .mv (.t 19)⟩,
    ⟨(some 21), (some (20, true)), .mv (.t 3)⟩,
    ⟨(some 22), none, .pick (.t 20) (.t 21) (.c (.v (.bool false)))⟩,
    ⟨(some 23), none, .mv (.t 22)⟩,
    ⟨(some 24), (some (23, true)), .fa 4 (.t 1)⟩,
    ⟨(some 25), (some (23, true)), .load none (.t 24)⟩,
    ⟨(some 26), (some (23, true)), .call 117 [(.t 25)]⟩,
    ⟨(some 27), none, .pick (.t 23) (.t 26) (.c (.v (.bool false)))⟩,
    ⟨(some 28), none, .mv (.t 27)⟩,
    ⟨(some 29), (some (28, true)), .fa 5 (.t 1)⟩,
    ⟨(some 30), (some (28, true)), .load none (.t 29)⟩,
    ⟨(some 31), (some (28, true)), .len .sl (.t 30)⟩,
    ⟨(some 32), (some (28, true)), .bin .leq (.t 31) (.c (.v (.int .i64 8)))⟩,
    ⟨(some 33), none, .pick (.t 28) (.t 32) (.c (.v (.bool false)))⟩,
    ⟨(some 34), none, .mv (.t 33)⟩,
    ⟨(some 35), (some (34, true)), .mv (.t 4)⟩,
    ⟨(some 36), none, .pick (.t 34) (.t 35) (.c (.v (.bool false)))⟩,
    ⟨(some 2), none, .mv (.t 36)⟩])
  .ret))))
noncomputable def r37 : RFn := ⟨37, b37, [.tmp 2]⟩
noncomputable def k37 : List (List Nat) := []
theorem t37 : toRFn C k37 37 = some r37 := by kernel_rfl
/-- linkboy/linkboylaw13.LongService -/
noncomputable def m44_0 : RC := (.seq (.reg [] [⟨(some 9), none, .bin .lss (.t 8) (.t 7)⟩])
  (.seq (.cond (.t 9) .skip
  (.exit 0))
  (.seq (.block 1 (.seq (.reg [] [⟨(some 10), none, .iaS 4 (.t 6) (.t 8)⟩,
    ⟨(some 11), none, .load (some 4) (.t 10)⟩,
    ⟨(some 4), none, .box (.c (.agg [(.v (.string ⟨⟨[]⟩⟩)), (.v (.int .i64 0)), (.v (.int .i64 0)), (.v (.int .i64 0))]))⟩,
    ⟨none, none, .store 4 (.t 4) (.t 11)⟩])
  (.seq (.reg [] [⟨(some 12), none, .fa 0 (.t 4)⟩,
    ⟨(some 13), none, .load none (.t 12)⟩,
    ⟨(some 14), none, .len .str (.t 13)⟩,
    ⟨(some 15), none, .bin .gtr (.t 14) (.c (.v (.int .i64 400)))⟩])
  (.cond (.t 15) (.seq (.reg [] [⟨(some 2), none, .mv (.c (.v (.bool true)))⟩])
  .ret)
  .skip))))
  (.reg [] [⟨(some 16), none, .bin .add (.t 8) (.c (.v (.int .i64 1)))⟩,
    ⟨(some 8), none, .mv (.t 16)⟩]))))
noncomputable def l44_0 : RC := m44_0
noncomputable def b44 : RC := (.seq (.reg [] [⟨(some 1), none, .box (.t 0)⟩,
    ⟨(some 2), none, .mv (.c (.v (.bool false)))⟩])
  (.seq (.seq (.reg [] [⟨(some 5), none, .fa 7 (.t 1)⟩,
    ⟨(some 6), none, .load none (.t 5)⟩,
    ⟨(some 7), none, .len .sl (.t 6)⟩,
    ⟨(some 8), none, .mv (.c (.v (.int .i64 0)))⟩])
  (.block 0 (.loop [1, 6, 7, 8] [1, 2] l44_0)))
  (.seq (.reg [] [⟨(some 17), none, .fa 0 (.t 1)⟩,
    ⟨(some 18), none, .fa 0 (.t 17)⟩,
    ⟨(some 19), none, .load none (.t 18)⟩,
    ⟨(some 20), none, .len .str (.t 19)⟩,
    ⟨(some 21), none, .bin .gtr (.t 20) (.c (.v (.int .i64 400)))⟩,
    ⟨(some 22), none, .mv (.t 21)⟩,
    ⟨(some 23), (some (22, false)), .fa 0 (.t 1)⟩,
    ⟨(some 24), (some (22, false)), .fa 1 (.t 23)⟩,
    ⟨(some 25), (some (22, false)), .load none (.t 24)⟩,
    ⟨(some 26), (some (22, false)), .len .str (.t 25)⟩,
    ⟨(some 27), (some (22, false)), .bin .gtr (.t 26) (.c (.v (.int .i64 400)))⟩,
    ⟨(some 28), none, .pick (.t 22) (.c (.v (.bool true))) (.t 27)⟩,
    ⟨(some 29), none, .mv (.t 28)⟩,
    ⟨(some 30), (some (29, false)), .fa 3 (.t 1)⟩,
    ⟨(some 31), (some (29, false)), .load none (.t 30)⟩,
    ⟨(some 32), (some (29, false)), .len .sl (.t 31)⟩,
    ⟨(some 33), (some (29, false)), .bin .gtr (.t 32) (.c (.v (.int .i64 20)))⟩,
    ⟨(some 34), none, .pick (.t 29) (.c (.v (.bool true))) (.t 33)⟩,
    ⟨(some 35), none, .mv (.t 34)⟩,
    ⟨(some 36), (some (35, false)), .fa 4 (.t 1)⟩,
    ⟨(some 37), (some (35, false)), .load none (.t 36)⟩,
    ⟨(some 38), (some (35, false)), .len .sl (.t 37)⟩,
    ⟨(some 39), (some (35, false)), .bin .gtr (.t 38) (.c (.v (.int .i64 20)))⟩,
    ⟨(some 40), none, .pick (.t 35) (.c (.v (.bool true))) (.t 39)⟩,
    ⟨(some 41), none, .mv (.t 40)⟩,
    ⟨(some 42), (some (41, false)), .fa 5 (.t 1)⟩,
    ⟨(some 43), (some (41, false)), .load none (.t 42)⟩,
    ⟨(some 44), (some (41, false)), .len .sl (.t 43)⟩,
    ⟨(some 45), (some (41, false)), .bin .gtr (.t 44) (.c (.v (.int .i64 20)))⟩,
    ⟨(some 46), none, .pick (.t 41) (.c (.v (.bool true))) (.t 45)⟩,
    ⟨(some 47), none, .mv (.t 46)⟩,
    ⟨(some 48), (some (47, false)), .fa 6 (.t 1)⟩,
    ⟨(some 49), (some (47, false)), .load none (.t 48)⟩,
    ⟨(some 50), (some (47, false)), .len .sl (.t 49)⟩,
    ⟨(some 51), (some (47, false)), .bin .gtr (.t 50) (.c (.v (.int .i64 20)))⟩,
    ⟨(some 52), none, .pick (.t 47) (.c (.v (.bool true))) (.t 51)⟩,
    ⟨(some 53), none, .mv (.t 52)⟩,
    ⟨(some 54), (some (53, false)), .fa 7 (.t 1)⟩,
    ⟨(some 55), (some (53, false)), .load none (.t 54)⟩,
    ⟨(some 56), (some (53, false)), .len .sl (.t 55)⟩,
    ⟨(some 57), (some (53, false)), .bin .gtr (.t 56) (.c (.v (.int .i64 20)))⟩,
    ⟨(some 58), none, .pick (.t 53) (.c (.v (.bool true))) (.t 57)⟩,
    ⟨(some 2), none, .mv (.t 58)⟩])
  .ret)))
noncomputable def r44 : RFn := ⟨59, b44, [.tmp 2]⟩
noncomputable def k44 : List (List Nat) := [[1, 6, 7, 8], [1, 2]]
theorem t44 : toRFn C k44 44 = some r44 := by kernel_rfl
/-- linkboy/object.RightService -/
noncomputable def b47 : RC := (.seq (.reg [] [⟨(some 1), none, .box (.t 0)⟩,
    ⟨(some 2), none, .mv (.c (.v (.bool false)))⟩])
  (.seq (.reg [] [⟨(some 6), none, .fa 2 (.t 1)⟩,
    ⟨(some 7), none, .load none (.t 6)⟩,
    ⟨(some 8), none, .bin .geq (.t 7) (.c (.v (.int .i64 0)))⟩,
    ⟨(some 9), none, .mv (.t 8)⟩,
    ⟨(some 10), (some (9, true)), .fa 2 (.t 1)⟩,
    ⟨(some 11), (some (9, true)), .load none (.t 10)⟩,
    ⟨(some 12), (some (9, true)), .bin .leq (.t 11) (.c (.v (.int .i64 2)))⟩,
    ⟨(some 13), none, .pick (.t 9) (.t 12) (.c (.v (.bool false)))⟩,
    ⟨(some 14), none, .mv (.t 13)⟩,
    ⟨(some 15), (some (14, true)), .fa 2 (.t 1)⟩,
    ⟨(some 16), (some (14, true)), .load none (.t 15)⟩,
    ⟨(some 17), (some (14, true)), .bin .eql (.t 16) (.c (.v (.int .i64 2)))⟩,
    ⟨(some 18), (some (14, true)), .mv (.t 17)⟩,
    ⟨(some 19), (some (18, false)), .fa 5 (.t 1)⟩,
    ⟨(some 20), (some (18, false)), .load none (.t 19)⟩,
    ⟨(some 21), (some (18, false)), .len .sl (.t 20)⟩,
    ⟨(some 22), (some (18, false)), .bin .eql (.t 21) (.c (.v (.int .i64 0)))⟩,
    ⟨(some 23), (some (14, true)), .pick (.t 18) (.c (.v (.bool true))) (.t 22)⟩,
    ⟨(some 24), none, .pick (.t 14) (.t 23) (.c (.v (.bool false)))⟩,
    ⟨(some 3), none, .mv (.t 24)⟩])
  (.seq (.reg [] [⟨(some 25), none, .fa 3 (.t 1)⟩,
    ⟨(some 26), none, .load none (.t 25)⟩,
    ⟨(some 27), none, .fa 4 (.t 1)⟩,
    ⟨(some 28), none, .load none (.t 27)⟩,
    ⟨(some 29), none, .fa 5 (.t 1)⟩,
    ⟨(some 30), none, .load none (.t 29)⟩,
    ⟨(some 31), none, .bsl 1 3 (.sl [] .nil) [(0, (.t 26)), (1, (.t 28)), (2, (.t 30))]⟩,
    ⟨(some 32), none, .call 145 [(.t 31), (.c (.fn (.func 83) [] []))]⟩,
    ⟨(some 4), none, .mv (.t 32)⟩])
  (.seq (.reg [] [⟨(some 33), none, .fa 6 (.t 1)⟩,
    ⟨(some 34), none, .load none (.t 33)⟩,
    ⟨(some 35), none, .len .sl (.t 34)⟩,
    ⟨(some 36), none, .bin .leq (.t 35) (.c (.v (.int .i64 4)))⟩,
    ⟨(some 37), none, .mv (.t 36)⟩,
    ⟨(some 38), (some (37, true)), .fa 6 (.t 1)⟩,
    ⟨(some 39), (some (37, true)), .load none (.t 38)⟩,
    ⟨(some 40), (some (37, true)), .call 146 [(.t 39), (.c (.fn (.func 147) [] []))]⟩,
    ⟨(some 41), none, .pick (.t 37) (.t 40) (.c (.v (.bool false)))⟩,
    ⟨(some 5), none, .mv (.t 41)⟩])
  (.seq (.reg [] [⟨(some 42), none, .fa 0 (.t 1)⟩,
    ⟨(some 43), none, .load (some 2) (.t 42)⟩,
    ⟨(some 44), none, .call 116 [(.t 43)]⟩,
    ⟨(some 45), none, .mv (.t 44)⟩,
    ⟨(some 46), (some (45, true)), .mv (.t 3)⟩,
    ⟨(some 47), none, .pick (.t 45) (.t 46) (.c (.v (.bool false)))⟩,
    ⟨(some 48), none, .mv (.t 47)⟩,
    ⟨(some 49), (some (48, true)), .mv (.t 4)⟩,
    ⟨(some 50), none, .pick (.t 48) (.t 49) (.c (.v (.bool false)))⟩,
    ⟨(some 51), none, .mv (.t 50)⟩,
    ⟨(some 52), (some (51, true)), .mv (.t 5)⟩,
    ⟨(some 53), none, .pick (.t 51) (.t 52) (.c (.v (.bool false)))⟩,
    ⟨(some 54), none, .mv (.t 53)⟩,
    ⟨(some 55), (some (54, true)), .load (some 13) (.t 1)⟩,
    ⟨(some 56), (some (54, true)), .call 148 [(.t 55)]⟩,
    ⟨(some 57), none, .pick (.t 54) (.t 56) (.c (.v (.bool false)))⟩,
    ⟨(some 58), none, .mv (.t 57)⟩,
    ⟨(some 59), (some (58, true)), .load (some 13) (.t 1)⟩,
    ⟨(some 60), (some (58, true)), .call 149 [(.t 59)]⟩,
    ⟨(some 61), none, .pick (.t 58) (.t 60) (.c (.v (.bool false)))⟩,
    ⟨(some 2), none, .mv (.t 61)⟩])
  .ret)))))
noncomputable def r47 : RFn := ⟨62, b47, [.tmp 2]⟩
noncomputable def k47 : List (List Nat) := []
theorem t47 : toRFn C k47 47 = some r47 := by kernel_rfl
/-- linkboy/event.Right -/
noncomputable def b57 : RC := (.seq (.reg [] [⟨(some 1), none, .box (.t 0)⟩,
    ⟨(some 2), none, .mv (.c (.v (.bool false)))⟩])
  (.seq (.reg [] [⟨(some 3), none, .fa 0 (.t 1)⟩,
    ⟨(some 4), none, .load none (.t 3)⟩,
    ⟨(some 5), none, .call 160 [(.t 4)]⟩,
    ⟨(some 6), none, .mv (.t 5)⟩,
    ⟨(some 7), (some (6, true)), .fa 1 (.t 1)⟩,
    ⟨(some 8), (some (6, true)), .load none (.t 7)⟩,
    ⟨(some 9), (some (6, true)), .call 161 [(.t 8)]⟩,
    ⟨(some 10), none, .pick (.t 6) (.t 9) (.c (.v (.bool false)))⟩,
    ⟨(some 11), none, .mv (.t 10)⟩,
    ⟨(some 12), (some (11, true)), .load (some 27) (.t 1)⟩,
    ⟨(some 13), (some (11, true)), .call 162 [(.t 12)]⟩,
    ⟨(some 14), none, .pick (.t 11) (.t 13) (.c (.v (.bool false)))⟩,
    ⟨(some 2), none, .mv (.t 14)⟩])
  .ret))
noncomputable def r57 : RFn := ⟨15, b57, [.tmp 2]⟩
noncomputable def k57 : List (List Nat) := []
theorem t57 : toRFn C k57 57 = some r57 := by kernel_rfl
/-- (linkboy/watch.Watcher).Start -/
noncomputable def b64 : RC := (.seq (.reg [] [⟨(some 2), none, .box (.t 0)⟩,
    ⟨(some 4), none, .box (.c (.agg [(.v (.int .i64 0)), (.v (.int .i64 0)), (.v (.int .i64 0)), (.v (.int .i64 0))]))⟩,
    ⟨(some 5), none, .mv (.c (.v .nilIface))⟩])
  (.seq (.reg [] [⟨(some 6), none, .load (some 4) (.t 2)⟩,
    ⟨(some 7), none, .load (some 4) (.t 2)⟩,
    ⟨(some 8), none, .load (some 4) (.t 2)⟩,
    ⟨(some 9), none, .mv (.t 1)⟩,
    ⟨(some 10), none, .call 71 [(.t 8), (.t 9)]⟩,
    ⟨(some 11), none, .call 172 [(.t 7), (.t 10), (.c (.v (.int .i64 0))), (.c (.v (.int .i64 0)))]⟩,
    ⟨(some 12), none, .call 72 [(.t 6), (.c (.v (.int .i64 1))), (.t 11)]⟩,
    ⟨(some 13), none, .ext (.t 12) 0⟩,
    ⟨(some 14), none, .ext (.t 12) 1⟩,
    ⟨none, none, .store 4 (.t 4) (.t 13)⟩,
    ⟨(some 5), none, .mv (.t 14)⟩])
  .ret))
noncomputable def r64 : RFn := ⟨15, b64, [.cell 4 (some 4), .tmp 5]⟩
noncomputable def k64 : List (List Nat) := []
theorem t64 : toRFn C k64 64 = some r64 := by kernel_rfl
/-- (linkboy/watch.Watcher).Fail -/
noncomputable def b65 : RC := (.seq (.reg [] [⟨(some 2), none, .box (.t 0)⟩,
    ⟨(some 4), none, .box (.c (.agg [(.v (.int .i64 0)), (.v (.int .i64 0)), (.v (.int .i64 0)), (.v (.int .i64 0))]))⟩,
    ⟨(some 5), none, .mv (.c (.v .nilIface))⟩])
  (.seq (.reg [] [⟨(some 9), none, .load (some 4) (.t 2)⟩,
    ⟨(some 10), none, .load (some 4) (.t 2)⟩,
    ⟨(some 11), none, .load (some 4) (.t 2)⟩,
    ⟨(some 12), none, .mv (.t 1)⟩,
    ⟨(some 13), none, .call 71 [(.t 11), (.t 12)]⟩,
    ⟨(some 14), none, .call 172 [(.t 10), (.t 13), (.c (.v (.int .i64 1))), (.c (.v (.int .i64 2)))]⟩,
    ⟨(some 15), none, .call 72 [(.t 9), (.c (.v (.int .i64 3))), (.t 14)]⟩,
    ⟨(some 8), none, .mv (.t 15)⟩,
    ⟨(some 16), none, .ext (.t 8) 0⟩,
    ⟨(some 17), none, .ext (.t 8) 1⟩,
    ⟨(some 6), none, .box (.c (.agg [(.v (.int .i64 0)), (.v (.int .i64 0)), (.v (.int .i64 0)), (.v (.int .i64 0))]))⟩,
    ⟨none, none, .store 4 (.t 6) (.t 16)⟩,
    ⟨(some 7), none, .mv (.t 17)⟩])
  (.seq (.seq (.reg [] [⟨(some 18), none, .mv (.t 7)⟩,
    ⟨(some 19), none, .eqI false true (.t 18) (.c (.v .nilIface))⟩])
  (.cond (.t 19) (.seq (.reg [] [⟨(some 20), none, .fa 2 (.t 2)⟩,
    ⟨(some 21), none, .load none (.t 20)⟩,
    ⟨(some 22), none, .bin .add (.t 21) (.c (.v (.int .i64 1)))⟩,
    ⟨(some 23), none, .mm false [(.t 22), (.c (.v (.int .i64 30)))]⟩,
    ⟨(some 24), none, .fa 2 (.t 6)⟩,
    ⟨none, none, .store 1 (.t 24) (.t 23)⟩])
  (.reg [] [⟨(some 25), none, .mv (.t 1)⟩,
    ⟨(some 26), none, .fa 2 (.t 6)⟩,
    ⟨(some 27), none, .load none (.t 26)⟩,
    ⟨(some 28), none, .call 173 [(.t 27)]⟩,
    ⟨(some 29), none, .bin .add (.t 25) (.t 28)⟩,
    ⟨(some 30), none, .fa 3 (.t 6)⟩,
    ⟨none, none, .store 1 (.t 30) (.t 29)⟩]))
  .skip))
  (.seq (.reg [] [⟨(some 31), none, .load (some 4) (.t 6)⟩,
    ⟨(some 32), none, .mv (.t 7)⟩,
    ⟨none, none, .store 4 (.t 4) (.t 31)⟩,
    ⟨(some 5), none, .mv (.t 32)⟩])
  .ret))))
noncomputable def r65 : RFn := ⟨33, b65, [.cell 4 (some 4), .tmp 5]⟩
noncomputable def k65 : List (List Nat) := []
theorem t65 : toRFn C k65 65 = some r65 := by kernel_rfl
/-- linkboy/watch.Word -/
noncomputable def b66 : RC := (.seq (.reg [] [⟨(some 2), none, .mv (.c (.v (.string ⟨⟨[]⟩⟩)))⟩])
  (.seq (.seq (.reg [] [⟨(some 3), none, .mv (.t 0)⟩,
    ⟨(some 4), none, .bin .lss (.t 3) (.c (.v (.int .i64 0)))⟩,
    ⟨(some 5), none, .mv (.t 4)⟩,
    ⟨(some 6), (some (5, false)), .mv (.t 0)⟩,
    ⟨(some 7), (some (5, false)), .bin .gtr (.t 6) (.c (.v (.int .i64 3)))⟩,
    ⟨(some 8), none, .pick (.t 5) (.c (.v (.bool true))) (.t 7)⟩])
  (.cond (.t 8) (.seq (.reg [] [⟨(some 2), none, .mv (.c (.v (.string ⟨⟨[]⟩⟩)))⟩])
  .ret)
  .skip))
  (.seq (.reg [] [⟨(some 9), none, .mv (.t 0)⟩,
    ⟨(some 10), none, .iaA 1 4 (.c gWW) (.t 9)⟩,
    ⟨(some 11), none, .load none (.t 10)⟩,
    ⟨(some 2), none, .mv (.t 11)⟩])
  .ret)))
noncomputable def r66 : RFn := ⟨12, b66, [.tmp 2]⟩
noncomputable def k66 : List (List Nat) := []
theorem t66 : toRFn C k66 66 = some r66 := by kernel_rfl
/-- (linkboy/watch.Watcher).Event -/
noncomputable def b67 : RC := (.seq (.reg [] [⟨(some 3), none, .box (.t 0)⟩,
    ⟨(some 4), none, .box (.t 1)⟩,
    ⟨(some 6), none, .box (.c (.agg [(.v (.int .i64 0)), (.v (.int .i64 0)), (.v (.int .i64 0)), (.v (.int .i64 0))]))⟩,
    ⟨(some 7), none, .mv (.c (.v .nilIface))⟩])
  (.seq (.reg [] [⟨(some 9), none, .load (some 4) (.t 3)⟩,
    ⟨(some 10), none, .mv (.t 2)⟩,
    ⟨(some 11), none, .call 71 [(.t 9), (.t 10)]⟩,
    ⟨(some 8), none, .mv (.t 11)⟩])
  (.seq (.block 0 (.seq (.reg [] [⟨(some 13), none, .mv (.t 8)⟩,
    ⟨(some 14), none, .eqI true true (.t 13) (.c (.v .nilIface))⟩,
    ⟨(some 12), none, .mv (.t 14)⟩])
  (.cond (.t 12) (.seq (.reg [] [⟨(some 15), none, .load (some 4) (.t 3)⟩,
    ⟨(some 16), none, .mv (.t 8)⟩,
    ⟨none, none, .store 4 (.t 6) (.t 15)⟩,
    ⟨(some 7), none, .mv (.t 16)⟩])
  .ret)
  (.seq (.reg [] [⟨(some 18), none, .load (some 27) (.t 4)⟩,
    ⟨(some 19), none, .call 57 [(.t 18)]⟩,
    ⟨(some 20), none, .un .not (.t 19)⟩,
    ⟨(some 17), none, .mv (.t 20)⟩])
  (.cond (.t 17) (.seq (.reg [] [⟨(some 21), none, .load (some 4) (.t 3)⟩,
    ⟨(some 22), none, .load none (.c (.ro [(.ifc 295 (.gl 3))] 0))⟩,
    ⟨none, none, .store 4 (.t 6) (.t 21)⟩,
    ⟨(some 7), none, .mv (.t 22)⟩])
  .ret)
  (.seq (.reg [] [⟨(some 24), none, .fa 0 (.t 3)⟩,
    ⟨(some 25), none, .load none (.t 24)⟩,
    ⟨(some 26), none, .bin .eql (.t 25) (.c (.v (.int .i64 1)))⟩,
    ⟨(some 23), none, .mv (.t 26)⟩])
  (.cond (.t 23) (.seq (.reg [] [⟨(some 27), none, .load (some 4) (.t 3)⟩,
    ⟨(some 28), none, .load (some 27) (.t 4)⟩,
    ⟨(some 29), none, .call 174 [(.t 27), (.t 28)]⟩,
    ⟨(some 30), none, .ext (.t 29) 0⟩,
    ⟨(some 31), none, .ext (.t 29) 1⟩,
    ⟨none, none, .store 4 (.t 6) (.t 30)⟩,
    ⟨(some 7), none, .mv (.t 31)⟩])
  .ret)
  (.seq (.reg [] [⟨(some 33), none, .fa 0 (.t 3)⟩,
    ⟨(some 34), none, .load none (.t 33)⟩,
    ⟨(some 35), none, .bin .eql (.t 34) (.c (.v (.int .i64 2)))⟩,
    ⟨(some 32), none, .mv (.t 35)⟩])
  (.cond (.t 32) (.seq (.reg [] [⟨(some 36), none, .load (some 4) (.t 3)⟩,
    ⟨(some 37), none, .load (some 27) (.t 4)⟩,
    ⟨(some 38), none, .call 175 [(.t 36), (.t 37)]⟩,
    ⟨(some 39), none, .ext (.t 38) 0⟩,
    ⟨(some 40), none, .ext (.t 38) 1⟩,
    ⟨none, none, .store 4 (.t 6) (.t 39)⟩,
    ⟨(some 7), none, .mv (.t 40)⟩])
  .ret)
  .skip)))))))))
  (.seq (.reg [] [⟨(some 41), none, .load (some 4) (.t 3)⟩,
    ⟨(some 42), none, .load none (.c (.ro [(.ifc 295 (.gl 14))] 0))⟩,
    ⟨none, none, .store 4 (.t 6) (.t 41)⟩,
    ⟨(some 7), none, .mv (.t 42)⟩])
  .ret))))
noncomputable def r67 : RFn := ⟨43, b67, [.cell 6 (some 4), .tmp 7]⟩
noncomputable def k67 : List (List Nat) := []
theorem t67 : toRFn C k67 67 = some r67 := by kernel_rfl
/-- (linkboy/watch.Watcher).Gone -/
noncomputable def b68 : RC := (.seq (.reg [] [⟨(some 2), none, .box (.t 0)⟩,
    ⟨(some 4), none, .box (.c (.agg [(.v (.int .i64 0)), (.v (.int .i64 0)), (.v (.int .i64 0)), (.v (.int .i64 0))]))⟩,
    ⟨(some 5), none, .mv (.c (.v .nilIface))⟩])
  (.seq (.reg [] [⟨(some 9), none, .load (some 4) (.t 2)⟩,
    ⟨(some 10), none, .load (some 4) (.t 2)⟩,
    ⟨(some 11), none, .load (some 4) (.t 2)⟩,
    ⟨(some 12), none, .mv (.t 1)⟩,
    ⟨(some 13), none, .call 71 [(.t 11), (.t 12)]⟩,
    ⟨(some 14), none, .call 172 [(.t 10), (.t 13), (.c (.v (.int .i64 2))), (.c (.v (.int .i64 2)))]⟩,
    ⟨(some 15), none, .call 72 [(.t 9), (.c (.v (.int .i64 1))), (.t 14)]⟩,
    ⟨(some 8), none, .mv (.t 15)⟩,
    ⟨(some 16), none, .ext (.t 8) 0⟩,
    ⟨(some 17), none, .ext (.t 8) 1⟩,
    ⟨(some 6), none, .box (.c (.agg [(.v (.int .i64 0)), (.v (.int .i64 0)), (.v (.int .i64 0)), (.v (.int .i64 0))]))⟩,
    ⟨none, none, .store 4 (.t 6) (.t 16)⟩,
    ⟨(some 7), none, .mv (.t 17)⟩])
  (.seq (.seq (.reg [] [⟨(some 18), none, .mv (.t 7)⟩,
    ⟨(some 19), none, .eqI false true (.t 18) (.c (.v .nilIface))⟩])
  (.cond (.t 19) (.reg [] [⟨(some 20), none, .fa 1 (.t 6)⟩,
    ⟨none, none, .store 1 (.t 20) (.c (.v (.int .i64 0)))⟩])
  .skip))
  (.seq (.reg [] [⟨(some 21), none, .load (some 4) (.t 6)⟩,
    ⟨(some 22), none, .mv (.t 7)⟩,
    ⟨none, none, .store 4 (.t 4) (.t 21)⟩,
    ⟨(some 5), none, .mv (.t 22)⟩])
  .ret))))
noncomputable def r68 : RFn := ⟨23, b68, [.cell 4 (some 4), .tmp 5]⟩
noncomputable def k68 : List (List Nat) := []
theorem t68 : toRFn C k68 68 = some r68 := by kernel_rfl
/-- (linkboy/watch.Watcher).Stop -/
noncomputable def b69 : RC := (.seq (.reg [] [⟨(some 2), none, .box (.t 0)⟩,
    ⟨(some 4), none, .box (.c (.agg [(.v (.int .i64 0)), (.v (.int .i64 0)), (.v (.int .i64 0)), (.v (.int .i64 0))]))⟩,
    ⟨(some 5), none, .mv (.c (.v .nilIface))⟩])
  (.seq (.seq (.reg [] [⟨(some 7), none, .load (some 4) (.t 2)⟩,
    ⟨(some 8), none, .mv (.t 1)⟩,
    ⟨(some 9), none, .call 71 [(.t 7), (.t 8)]⟩,
    ⟨(some 6), none, .mv (.t 9)⟩])
  (.seq (.reg [] [⟨(some 10), none, .mv (.t 6)⟩,
    ⟨(some 11), none, .eqI true true (.t 10) (.c (.v .nilIface))⟩])
  (.cond (.t 11) (.seq (.reg [] [⟨(some 12), none, .load (some 4) (.t 2)⟩,
    ⟨(some 13), none, .mv (.t 6)⟩,
    ⟨none, none, .store 4 (.t 4) (.t 12)⟩,
    ⟨(some 5), none, .mv (.t 13)⟩])
  .ret)
  .skip)))
  (.seq (.reg [] [⟨(some 14), none, .build [(.v (.int .i64 0)), (.v (.int .i64 0)), (.v (.int .i64 0)), (.v (.int .i64 0))] []⟩,
    ⟨none, none, .store 4 (.t 4) (.t 14)⟩,
    ⟨(some 5), none, .mv (.c (.v .nilIface))⟩])
  .ret)))
noncomputable def r69 : RFn := ⟨15, b69, [.cell 4 (some 4), .tmp 5]⟩
noncomputable def k69 : List (List Nat) := []
theorem t69 : toRFn C k69 69 = some r69 := by kernel_rfl
/-- linkboy/watch.within -/
noncomputable def b70 : RC := (.seq (.reg [] [⟨(some 4), none, .mv (.c (.v (.bool false)))⟩])
  (.seq (.reg [] [⟨(some 5), none, .mv (.t 0)⟩,
    ⟨(some 6), none, .bin .geq (.t 5) (.c (.v (.int .i64 0)))⟩,
    ⟨(some 7), none, .mv (.t 6)⟩,
    ⟨(some 8), (some (7, true)), .mv (.t 0)⟩,
    ⟨(some 9), (some (7, true)), .mv (.t 1)⟩,
    ⟨(some 10), (some (7, true)), .bin .leq (.t 8) (.t 9)⟩,
    ⟨(some 11), none, .pick (.t 7) (.t 10) (.c (.v (.bool false)))⟩,
    ⟨(some 4), none, .mv (.t 11)⟩])
  .ret))
noncomputable def r70 : RFn := ⟨12, b70, [.tmp 4]⟩
noncomputable def k70 : List (List Nat) := []
theorem t70 : toRFn C k70 70 = some r70 := by kernel_rfl
/-- (linkboy/watch.Watcher).may -/
noncomputable def b71 : RC := (.seq (.reg [] [⟨(some 2), none, .box (.t 0)⟩,
    ⟨(some 4), none, .mv (.c (.v .nilIface))⟩])
  (.seq (.block 0 (.seq (.reg [] [⟨(some 6), none, .load (some 4) (.t 2)⟩,
    ⟨(some 7), none, .call 12 [(.t 6)]⟩,
    ⟨(some 8), none, .un .not (.t 7)⟩,
    ⟨(some 5), none, .mv (.t 8)⟩])
  (.cond (.t 5) (.seq (.reg [] [⟨(some 9), none, .load none (.c (.ro [(.ifc 295 (.gl 3))] 0))⟩,
    ⟨(some 4), none, .mv (.t 9)⟩])
  .ret)
  (.seq (.reg [] [⟨(some 11), none, .mv (.t 1)⟩,
    ⟨(some 12), none, .call 70 [(.t 11), (.c (.v (.int .i64 1099511627776)))]⟩,
    ⟨(some 13), none, .un .not (.t 12)⟩,
    ⟨(some 10), none, .mv (.t 13)⟩])
  (.cond (.t 10) (.seq (.reg [] [⟨(some 14), none, .load none (.c (.ro [(.ifc 295 (.gl 0))] 0))⟩,
    ⟨(some 4), none, .mv (.t 14)⟩])
  .ret)
  .skip)))))
  (.seq (.reg [] [⟨(some 4), none, .mv (.c (.v .nilIface))⟩])
  .ret)))
noncomputable def r71 : RFn := ⟨15, b71, [.tmp 4]⟩
noncomputable def k71 : List (List Nat) := []
theorem t71 : toRFn C k71 71 = some r71 := by kernel_rfl
/-- (linkboy/watch.Watcher).to -/
noncomputable def b72 : RC := (.seq (.reg [] [⟨(some 3), none, .box (.t 0)⟩,
    ⟨(some 6), none, .box (.c (.agg [(.v (.int .i64 0)), (.v (.int .i64 0)), (.v (.int .i64 0)), (.v (.int .i64 0))]))⟩,
    ⟨(some 7), none, .mv (.c (.v .nilIface))⟩])
  (.seq (.seq (.reg [] [⟨(some 8), none, .mv (.t 2)⟩,
    ⟨(some 9), none, .eqI true true (.t 8) (.c (.v .nilIface))⟩])
  (.cond (.t 9) (.seq (.reg [] [⟨(some 10), none, .load (some 4) (.t 3)⟩,
    ⟨(some 11), none, .mv (.t 2)⟩,
    ⟨none, none, .store 4 (.t 6) (.t 10)⟩,
    ⟨(some 7), none, .mv (.t 11)⟩])
  .ret)
  .skip))
  (.seq (.reg [] [⟨(some 12), none, .mv (.t 1)⟩,
    ⟨(some 13), none, .fa 0 (.t 3)⟩,
    ⟨none, none, .store 1 (.t 13) (.t 12)⟩,
    ⟨(some 14), none, .fa 3 (.t 3)⟩,
    ⟨none, none, .store 1 (.t 14) (.c (.v (.int .i64 0)))⟩])
  (.seq (.reg [] [⟨(some 15), none, .load (some 4) (.t 3)⟩,
    ⟨none, none, .store 4 (.t 6) (.t 15)⟩,
    ⟨(some 7), none, .mv (.c (.v .nilIface))⟩])
  .ret))))
noncomputable def r72 : RFn := ⟨16, b72, [.cell 6 (some 4), .tmp 7]⟩
noncomputable def k72 : List (List Nat) := []
theorem t72 : toRFn C k72 72 = some r72 := by kernel_rfl
/-- linkboy/names.Label -/
noncomputable def b81 : RC := (.seq (.reg [] [⟨(some 2), none, .mv (.c (.v (.bool false)))⟩])
  (.seq (.reg [] [⟨(some 4), none, .mv (.t 0)⟩,
    ⟨(some 5), none, .call 181 [(.t 4), (.c (.v (.string ⟨⟨str0⟩⟩)))]⟩,
    ⟨(some 6), none, .bin .eql (.t 5) (.c (.v (.string ⟨⟨[]⟩⟩)))⟩,
    ⟨(some 7), none, .mv (.t 6)⟩,
    ⟨(some 8), (some (7, true)), .mv (.t 0)⟩,
    ⟨(some 9), (some (7, true)), .call 182 [(.t 8), (.c (.v (.string ⟨⟨[45]⟩⟩)))]⟩,
    ⟨(some 10), (some (7, true)), .un .not (.t 9)⟩,
    ⟨(some 11), none, .pick (.t 7) (.t 10) (.c (.v (.bool false)))⟩,
    ⟨(some 12), none, .mv (.t 11)⟩,
    ⟨(some 13), (some (12, true)), .mv (.t 0)⟩,
    ⟨(some 14), (some (12, true)), .call 183 [(.t 13), (.c (.v (.string ⟨⟨[45]⟩⟩)))]⟩,
    ⟨(some 15), (some (12, true)), .un .not (.t 14)⟩,
    ⟨(some 16), none, .pick (.t 12) (.t 15) (.c (.v (.bool false)))⟩,
    ⟨(some 3), none, .mv (.t 16)⟩])
  (.seq (.reg [] [⟨(some 17), none, .mv (.t 3)⟩,
    ⟨(some 18), none, .mv (.t 17)⟩,
    ⟨(some 19), (some (18, true)), .mv (.t 0)⟩,
    ⟨(some 20), (some (18, true)), .bin .neq (.t 19) (.c (.v (.string ⟨⟨[]⟩⟩)))⟩,
    ⟨(some 21), none, .pick (.t 18) (.t 20) (.c (.v (.bool false)))⟩,
    ⟨(some 22), none, .mv (.t 21)⟩,
    ⟨(some 23), (some (22, true)), .mv (.t 0)⟩,
    ⟨(some 24), (some (22, true)), .len .str (.t 23)⟩,
    ⟨(some 25), (some (22, true)), .bin .leq (.t 24) (.c (.v (.int .i64 15)))⟩,
    ⟨(some 26), none, .pick (.t 22) (.t 25) (.c (.v (.bool false)))⟩,
    ⟨(some 2), none, .mv (.t 26)⟩])
  .ret)))
noncomputable def r81 : RFn := ⟨27, b81, [.tmp 2]⟩
noncomputable def k81 : List (List Nat) := []
theorem t81 : toRFn C k81 81 = some r81 := by kernel_rfl
/-- linkboy/object.maybe -/
noncomputable def b82 : RC := (.seq (.reg [] [⟨(some 2), none, .mv (.c (.v (.bool false)))⟩])
  (.seq (.reg [] [⟨(some 3), none, .mv (.t 0)⟩,
    ⟨(some 4), none, .bin .eql (.t 3) (.c (.v (.string ⟨⟨[]⟩⟩)))⟩,
    ⟨(some 5), none, .mv (.t 4)⟩,
    ⟨(some 6), (some (5, false)), .mv (.t 0)⟩,
    ⟨(some 7), (some (5, false)), .call 81 [(.t 6)]⟩,
    ⟨(some 8), none, .pick (.t 5) (.c (.v (.bool true))) (.t 7)⟩,
    ⟨(some 2), none, .mv (.t 8)⟩])
  .ret))
noncomputable def r82 : RFn := ⟨9, b82, [.tmp 2]⟩
noncomputable def k82 : List (List Nat) := []
theorem t82 : toRFn C k82 82 = some r82 := by kernel_rfl
/-- linkboy/object.addrs -/
noncomputable def b83 : RC := (.seq (.reg [] [⟨(some 2), none, .mv (.c (.v (.bool false)))⟩])
  (.seq (.reg [] [⟨(some 3), none, .mv (.t 0)⟩,
    ⟨(some 4), none, .len .sl (.t 3)⟩,
    ⟨(some 5), none, .bin .leq (.t 4) (.c (.v (.int .i64 3)))⟩,
    ⟨(some 6), none, .mv (.t 5)⟩,
    ⟨(some 7), (some (6, true)), .mv (.t 0)⟩,
    ⟨(some 8), (some (6, true)), .call 184 [(.t 7), (.c (.fn (.func 114) [] []))]⟩,
    ⟨(some 9), none, .pick (.t 6) (.t 8) (.c (.v (.bool false)))⟩,
    ⟨(some 2), none, .mv (.t 9)⟩])
  .ret))
noncomputable def r83 : RFn := ⟨10, b83, [.tmp 2]⟩
noncomputable def k83 : List (List Nat) := []
theorem t83 : toRFn C k83 83 = some r83 := by kernel_rfl
/-- linkboy/linkboynum.Long -/
noncomputable def m101_0 : RC := (.seq (.reg [] [⟨(some 11), none, .bin .lss (.t 10) (.t 9)⟩])
  (.seq (.cond (.t 11) .skip
  (.exit 0))
  (.seq (.block 1 (.seq (.reg [] [⟨(some 12), none, .iaS 1 (.t 8) (.t 10)⟩,
    ⟨(some 13), none, .load none (.t 12)⟩,
    ⟨(some 7), none, .mv (.t 13)⟩])
  (.seq (.seq (.reg [] [⟨(some 14), none, .mv (.t 7)⟩,
    ⟨(some 15), none, .len .str (.t 14)⟩,
    ⟨(some 16), none, .mv (.t 1)⟩,
    ⟨(some 17), none, .bin .gtr (.t 15) (.t 16)⟩])
  (.cond (.t 17) (.seq (.reg [] [⟨(some 4), none, .mv (.c (.v (.bool true)))⟩])
  .ret)
  .skip))
  (.seq (.reg [] [⟨(some 18), none, .mv (.t 5)⟩,
    ⟨(some 19), none, .mv (.t 7)⟩,
    ⟨(some 20), none, .len .str (.t 19)⟩,
    ⟨(some 21), none, .bin .add (.c (.v (.int .i64 1))) (.t 20)⟩,
    ⟨(some 22), none, .bin .add (.t 18) (.t 21)⟩,
    ⟨(some 5), none, .mv (.t 22)⟩])
  (.seq (.reg [] [⟨(some 23), none, .mv (.t 5)⟩,
    ⟨(some 24), none, .mv (.t 1)⟩,
    ⟨(some 25), none, .bin .gtr (.t 23) (.t 24)⟩])
  (.cond (.t 25) (.seq (.reg [] [⟨(some 4), none, .mv (.c (.v (.bool true)))⟩])
  .ret)
  .skip))))))
  (.reg [] [⟨(some 26), none, .bin .add (.t 10) (.c (.v (.int .i64 1)))⟩,
    ⟨(some 10), none, .mv (.t 26)⟩]))))
noncomputable def l101_0 : RC := m101_0
noncomputable def b101 : RC := (.seq (.reg [] [⟨(some 4), none, .mv (.c (.v (.bool false)))⟩])
  (.seq (.reg [] [⟨(some 5), none, .mv (.c (.v (.int .i64 0)))⟩])
  (.seq (.seq (.reg [] [⟨(some 8), none, .mv (.t 0)⟩,
    ⟨(some 9), none, .len .sl (.t 8)⟩,
    ⟨(some 10), none, .mv (.c (.v (.int .i64 0)))⟩])
  (.block 0 (.loop [1, 5, 8, 9, 10] [4] l101_0)))
  (.seq (.reg [] [⟨(some 4), none, .mv (.c (.v (.bool false)))⟩])
  .ret))))
noncomputable def r101 : RFn := ⟨27, b101, [.tmp 4]⟩
noncomputable def k101 : List (List Nat) := [[1, 5, 8, 9, 10], [4]]
theorem t101 : toRFn C k101 101 = some r101 := by kernel_rfl
/-- linkboy/object.every[linkboy/object.Port] -/
noncomputable def b109 : RC := (.seq (.reg [] [⟨(some 3), none, .box (.t 1)⟩,
    ⟨(some 4), none, .mv (.c (.v (.bool false)))⟩])
  (.seq (.reg [] [⟨(some 5), none, .mv (.t 0)⟩,
    ⟨(some 6), none, .fn (.func 191) [] [(.t 3)]⟩,
    ⟨(some 7), none, .call 190 [(.t 5), (.t 6)]⟩,
    ⟨(some 8), none, .un .not (.t 7)⟩,
    ⟨(some 4), none, .mv (.t 8)⟩])
  .ret))
noncomputable def r109 : RFn := ⟨9, b109, [.tmp 4]⟩
noncomputable def k109 : List (List Nat) := []
theorem t109 : toRFn C k109 109 = some r109 := by kernel_rfl
/-- linkboy/object.RightSlice$1 -/
noncomputable def b110 : RC := (.seq (.reg [] [⟨(some 1), none, .box (.t 0)⟩,
    ⟨(some 2), none, .mv (.c (.v (.bool false)))⟩])
  (.seq (.reg [] [⟨(some 3), none, .load (some 4) (.t 1)⟩,
    ⟨(some 4), none, .call 111 [(.t 3)]⟩,
    ⟨(some 5), none, .mv (.t 4)⟩,
    ⟨(some 6), (some (5, true)), .fa 3 (.t 1)⟩,
    ⟨(some 7), (some (5, true)), .load none (.t 6)⟩,
    ⟨(some 8), (some (5, true)), .bin .eql (.t 7) (.c (.v (.int .i64 0)))⟩,
    ⟨(some 9), none, .pick (.t 5) (.t 8) (.c (.v (.bool false)))⟩,
    ⟨(some 2), none, .mv (.t 9)⟩])
  .ret))
noncomputable def r110 : RFn := ⟨10, b110, [.tmp 2]⟩
noncomputable def k110 : List (List Nat) := []
theorem t110 : toRFn C k110 110 = some r110 := by kernel_rfl
/-- linkboy/object.plain -/
noncomputable def b111 : RC := (.seq (.reg [] [⟨(some 1), none, .box (.t 0)⟩,
    ⟨(some 2), none, .mv (.c (.v (.bool false)))⟩])
  (.seq (.reg [] [⟨(some 3), none, .fa 0 (.t 1)⟩,
    ⟨(some 4), none, .load none (.t 3)⟩,
    ⟨(some 5), none, .call 81 [(.t 4)]⟩,
    ⟨(some 6), none, .mv (.t 5)⟩,
    ⟨(some 7), (some (6, true)), .fa 1 (.t 1)⟩,
    ⟨(some 8), (some (6, true)), .load none (.t 7)⟩,
    ⟨(some 9), (some (6, true)), .call 192 [(.t 8)]⟩,
    ⟨(some 10), none, .pick (.t 6) (.t 9) (.c (.v (.bool false)))⟩,
    ⟨(some 11), none, .mv (.t 10)⟩,
    ⟨(some 12), (some (11, true)), .fa 2 (.t 1)⟩,
    ⟨(some 13), (some (11, true)), .load none (.t 12)⟩,
    ⟨(some 14), (some (11, true)), .call 193 [(.t 13)]⟩,
    ⟨(some 15), none, .pick (.t 11) (.t 14) (.c (.v (.bool false)))⟩,
    ⟨(some 2), none, .mv (.t 15)⟩])
  .ret))
noncomputable def r111 : RFn := ⟨16, b111, [.tmp 2]⟩
noncomputable def k111 : List (List Nat) := []
theorem t111 : toRFn C k111 111 = some r111 := by kernel_rfl
/-- linkboy/object.every[linkboy/object.Endpoint] -/
noncomputable def b112 : RC := (.seq (.reg [] [⟨(some 3), none, .box (.t 1)⟩,
    ⟨(some 4), none, .mv (.c (.v (.bool false)))⟩])
  (.seq (.reg [] [⟨(some 5), none, .mv (.t 0)⟩,
    ⟨(some 6), none, .fn (.func 195) [] [(.t 3)]⟩,
    ⟨(some 7), none, .call 194 [(.t 5), (.t 6)]⟩,
    ⟨(some 8), none, .un .not (.t 7)⟩,
    ⟨(some 4), none, .mv (.t 8)⟩])
  .ret))
noncomputable def r112 : RFn := ⟨9, b112, [.tmp 4]⟩
noncomputable def k112 : List (List Nat) := []
theorem t112 : toRFn C k112 112 = some r112 := by kernel_rfl
/-- linkboy/object.RightSlice$2 -/
noncomputable def b113 : RC := (.seq (.reg [] [⟨(some 2), none, .box (.t 0)⟩,
    ⟨(some 3), none, .mv (.c (.v (.bool false)))⟩])
  (.seq (.reg [] [⟨(some 4), none, .fa 0 (.t 2)⟩,
    ⟨(some 5), none, .load (some 17) (.t 4)⟩,
    ⟨(some 6), none, .call 114 [(.t 5)]⟩,
    ⟨(some 7), none, .mv (.t 6)⟩,
    ⟨(some 8), (some (7, true)), .fa 0 (.t 2)⟩,
    ⟨(some 9), (some (7, true)), .fa 0 (.t 8)⟩,
    ⟨(some 10), (some (7, true)), .load none (.t 9)⟩,
    ⟨(some 11), (some (7, true)), .fa 3 (.t 1)⟩,
    ⟨(some 12), (some (7, true)), .load none (.t 11)⟩,
    ⟨(some 13), (some (7, true)), .binB .eql (.t 10) (.t 12)⟩,
    ⟨(some 14), none, .pick (.t 7) (.t 13) (.c (.v (.bool false)))⟩,
    ⟨(some 15), none, .mv (.t 14)⟩,
    ⟨(some 16), (some (15, true)), .fa 17 (.t 2)⟩,
    ⟨(some 17), (some (15, true)), .load none (.t 16)⟩,
    ⟨(some 18), (some (15, true)), .call 82 [(.t 17)]⟩,
    ⟨(some 19), none, .pick (.t 15) (.t 18) (.c (.v (.bool false)))⟩,
    ⟨(some 20), none, .mv (.t 19)⟩,
    ⟨(some 21), (some (20, true)), .fa 21 (.t 2)⟩,
    ⟨(some 22), (some (20, true)), .load none (.t 21)⟩,
    ⟨(some 23), (some (20, true)), .call 115 [(.t 22)]⟩,
    ⟨(some 24), none, .pick (.t 20) (.t 23) (.c (.v (.bool false)))⟩,
    ⟨(some 3), none, .mv (.t 24)⟩])
  .ret))
noncomputable def r113 : RFn := ⟨25, b113, [.tmp 3]⟩
noncomputable def k113 : List (List Nat) := []
theorem t113 : toRFn C k113 113 = some r113 := by kernel_rfl
/-- linkboy/addr.Right -/
noncomputable def b114 : RC := (.seq (.reg [] [⟨(some 1), none, .box (.t 0)⟩,
    ⟨(some 2), none, .mv (.c (.v (.bool false)))⟩])
  (.seq (.reg [] [⟨(some 3), none, .fa 0 (.t 1)⟩,
    ⟨(some 4), none, .load none (.t 3)⟩,
    ⟨(some 5), none, .mv (.t 4)⟩,
    ⟨(some 6), (some (5, false)), .fa 1 (.t 1)⟩,
    ⟨(some 7), (some (5, false)), .slA 1 16 (.t 6) (some (.c (.v (.int .i64 4)))) none none⟩,
    ⟨(some 8), (some (5, false)), .call 196 [(.t 7), (.c (.v (.string ⟨⟨[0]⟩⟩)))]⟩,
    ⟨(some 9), (some (5, false)), .len .sl (.t 8)⟩,
    ⟨(some 10), (some (5, false)), .bin .eql (.t 9) (.c (.v (.int .i64 0)))⟩,
    ⟨(some 11), none, .pick (.t 5) (.c (.v (.bool true))) (.t 10)⟩,
    ⟨(some 2), none, .mv (.t 11)⟩])
  .ret))
noncomputable def r114 : RFn := ⟨12, b114, [.tmp 2]⟩
noncomputable def k114 : List (List Nat) := []
theorem t114 : toRFn C k114 114 = some r114 := by kernel_rfl
/-- linkboy/object.zoned -/
noncomputable def b115 : RC := (.seq (.reg [] [⟨(some 2), none, .mv (.c (.v (.bool false)))⟩])
  (.seq (.reg [] [⟨(some 3), none, .mv (.t 0)⟩,
    ⟨(some 4), none, .len .sl (.t 3)⟩,
    ⟨(some 5), none, .bin .leq (.t 4) (.c (.v (.int .i64 3)))⟩,
    ⟨(some 6), none, .mv (.t 5)⟩,
    ⟨(some 7), (some (6, true)), .mv (.t 0)⟩,
    ⟨(some 8), (some (6, true)), .call 197 [(.t 7), (.c (.fn (.func 81) [] []))]⟩,
    ⟨(some 9), none, .pick (.t 6) (.t 8) (.c (.v (.bool false)))⟩,
    ⟨(some 10), none, .mv (.t 9)⟩,
    ⟨(some 11), (some (10, true)), .mv (.t 0)⟩,
    ⟨(some 12), (some (10, true)), .call 198 [(.t 11)]⟩,
    ⟨(some 13), none, .pick (.t 10) (.t 12) (.c (.v (.bool false)))⟩,
    ⟨(some 14), none, .mv (.t 13)⟩,
    ⟨(some 15), (some (14, true)), .mv (.t 0)⟩,
    ⟨(some 16), (some (14, true)), .call 199 [(.t 15), (.c (.fn (.func 200) [] []))]⟩,
    ⟨(some 17), none, .pick (.t 14) (.t 16) (.c (.v (.bool false)))⟩,
    ⟨(some 2), none, .mv (.t 17)⟩])
  .ret))
noncomputable def r115 : RFn := ⟨18, b115, [.tmp 2]⟩
noncomputable def k115 : List (List Nat) := []
theorem t115 : toRFn C k115 115 = some r115 := by kernel_rfl
/-- linkboy/names.Key -/
noncomputable def b116 : RC := (.seq (.reg [] [⟨(some 1), none, .box (.t 0)⟩,
    ⟨(some 2), none, .mv (.c (.v (.bool false)))⟩])
  (.seq (.reg [] [⟨(some 3), none, .fa 0 (.t 1)⟩,
    ⟨(some 4), none, .load none (.t 3)⟩,
    ⟨(some 5), none, .call 81 [(.t 4)]⟩,
    ⟨(some 6), none, .mv (.t 5)⟩,
    ⟨(some 7), (some (6, true)), .fa 1 (.t 1)⟩,
    ⟨(some 8), (some (6, true)), .load none (.t 7)⟩,
    ⟨(some 9), (some (6, true)), .call 81 [(.t 8)]⟩,
    ⟨(some 10), none, .pick (.t 6) (.t 9) (.c (.v (.bool false)))⟩,
    ⟨(some 2), none, .mv (.t 10)⟩])
  .ret))
noncomputable def r116 : RFn := ⟨11, b116, [.tmp 2]⟩
noncomputable def k116 : List (List Nat) := []
theorem t116 : toRFn C k116 116 = some r116 := by kernel_rfl
/-- linkboy/object.named -/
noncomputable def b117 : RC := (.seq (.reg [] [⟨(some 2), none, .mv (.c (.v (.bool false)))⟩])
  (.seq (.reg [] [⟨(some 3), none, .mv (.t 0)⟩,
    ⟨(some 4), none, .len .sl (.t 3)⟩,
    ⟨(some 5), none, .bin .leq (.t 4) (.c (.v (.int .i64 4)))⟩,
    ⟨(some 6), none, .mv (.t 5)⟩,
    ⟨(some 7), (some (6, true)), .mv (.t 0)⟩,
    ⟨(some 8), (some (6, true)), .call 201 [(.t 7), (.c (.fn (.func 202) [] []))]⟩,
    ⟨(some 9), none, .pick (.t 6) (.t 8) (.c (.v (.bool false)))⟩,
    ⟨(some 2), none, .mv (.t 9)⟩])
  .ret))
noncomputable def r117 : RFn := ⟨10, b117, [.tmp 2]⟩
noncomputable def k117 : List (List Nat) := []
theorem t117 : toRFn C k117 117 = some r117 := by kernel_rfl
/-- linkboy/object.every[[]linkboy/api.Addr] -/
noncomputable def b145 : RC := (.seq (.reg [] [⟨(some 3), none, .box (.t 1)⟩,
    ⟨(some 4), none, .mv (.c (.v (.bool false)))⟩])
  (.seq (.reg [] [⟨(some 5), none, .mv (.t 0)⟩,
    ⟨(some 6), none, .fn (.func 207) [] [(.t 3)]⟩,
    ⟨(some 7), none, .call 206 [(.t 5), (.t 6)]⟩,
    ⟨(some 8), none, .un .not (.t 7)⟩,
    ⟨(some 4), none, .mv (.t 8)⟩])
  .ret))
noncomputable def r145 : RFn := ⟨9, b145, [.tmp 4]⟩
noncomputable def k145 : List (List Nat) := []
theorem t145 : toRFn C k145 145 = some r145 := by kernel_rfl
/-- linkboy/object.every[linkboy/api.Cidr] -/
noncomputable def b146 : RC := (.seq (.reg [] [⟨(some 3), none, .box (.t 1)⟩,
    ⟨(some 4), none, .mv (.c (.v (.bool false)))⟩])
  (.seq (.reg [] [⟨(some 5), none, .mv (.t 0)⟩,
    ⟨(some 6), none, .fn (.func 209) [] [(.t 3)]⟩,
    ⟨(some 7), none, .call 208 [(.t 5), (.t 6)]⟩,
    ⟨(some 8), none, .un .not (.t 7)⟩,
    ⟨(some 4), none, .mv (.t 8)⟩])
  .ret))
noncomputable def r146 : RFn := ⟨9, b146, [.tmp 4]⟩
noncomputable def k146 : List (List Nat) := []
theorem t146 : toRFn C k146 146 = some r146 := by kernel_rfl
/-- linkboy/cidr.Right -/
noncomputable def b147 : RC := (.seq (.reg [] [⟨(some 1), none, .box (.t 0)⟩,
    ⟨(some 2), none, .mv (.c (.v (.bool false)))⟩])
  (.seq (.reg [] [⟨(some 3), none, .fa 0 (.t 1)⟩,
    ⟨(some 4), none, .load (some 17) (.t 3)⟩,
    ⟨(some 5), none, .call 114 [(.t 4)]⟩,
    ⟨(some 6), none, .mv (.t 5)⟩,
    ⟨(some 7), (some (6, true)), .fa 0 (.t 1)⟩,
    ⟨(some 8), (some (6, true)), .load (some 17) (.t 7)⟩,
    ⟨(some 9), (some (6, true)), .fa 17 (.t 1)⟩,
    ⟨(some 10), (some (6, true)), .load none (.t 9)⟩,
    ⟨(some 11), (some (6, true)), .call 210 [(.t 8), (.t 10)]⟩,
    ⟨(some 12), none, .pick (.t 6) (.t 11) (.c (.v (.bool false)))⟩,
    ⟨(some 13), none, .mv (.t 12)⟩,
    ⟨(some 14), (some (13, true)), .fa 0 (.t 1)⟩,
    ⟨(some 15), (some (13, true)), .load (some 17) (.t 14)⟩,
    ⟨(some 16), (some (13, true)), .fa 17 (.t 1)⟩,
    ⟨(some 17), (some (13, true)), .load none (.t 16)⟩,
    ⟨(some 18), (some (13, true)), .call 211 [(.t 15), (.t 17)]⟩,
    ⟨(some 19), (some (13, true)), .fa 0 (.t 1)⟩,
    ⟨(some 20), (some (13, true)), .load (some 17) (.t 19)⟩,
    ⟨(some 21), (some (13, true)), .eqA false [.bool, .int, .int, .int, .int, .int, .int, .int, .int, .int, .int, .int, .int, .int, .int, .int, .int] (.t 18) (.t 20)⟩,
    ⟨(some 22), none, .pick (.t 13) (.t 21) (.c (.v (.bool false)))⟩,
    ⟨(some 2), none, .mv (.t 22)⟩])
  .ret))
noncomputable def r147 : RFn := ⟨23, b147, [.tmp 2]⟩
noncomputable def k147 : List (List Nat) := []
theorem t147 : toRFn C k147 147 = some r147 := by kernel_rfl
/-- linkboy/object.ported -/
noncomputable def b148 : RC := (.seq (.reg [] [⟨(some 1), none, .box (.t 0)⟩,
    ⟨(some 2), none, .mv (.c (.v (.bool false)))⟩])
  (.seq (.reg [] [⟨(some 4), none, .fa 7 (.t 1)⟩,
    ⟨(some 5), none, .load none (.t 4)⟩,
    ⟨(some 6), none, .call 212 [(.t 5), (.c (.fn (.func 213) [] []))]⟩,
    ⟨(some 3), none, .mv (.t 6)⟩])
  (.seq (.reg [] [⟨(some 7), none, .fa 7 (.t 1)⟩,
    ⟨(some 8), none, .load none (.t 7)⟩,
    ⟨(some 9), none, .len .sl (.t 8)⟩,
    ⟨(some 10), none, .bin .gtr (.t 9) (.c (.v (.int .i64 0)))⟩,
    ⟨(some 11), none, .mv (.t 10)⟩,
    ⟨(some 12), (some (11, true)), .fa 7 (.t 1)⟩,
    ⟨(some 13), (some (11, true)), .load none (.t 12)⟩,
    ⟨(some 14), (some (11, true)), .call 109 [(.t 13), (.c (.fn (.func 111) [] []))]⟩,
    ⟨(some 15), none, .pick (.t 11) (.t 14) (.c (.v (.bool false)))⟩,
    ⟨(some 16), none, .mv (.t 15)⟩,
    ⟨(some 17), (some (16, true)), .fa 7 (.t 1)⟩,
    ⟨(some 18), (some (16, true)), .load none (.t 17)⟩,
    ⟨(some 19), (some (16, true)), .call 117 [(.t 18)]⟩,
    ⟨(some 20), none, .pick (.t 16) (.t 19) (.c (.v (.bool false)))⟩,
    ⟨(some 21), none, .mv (.t 20)⟩,
    ⟨(some 22), (some (21, true)), .mv (.t 3)⟩,
    ⟨(some 23), none, .pick (.t 21) (.t 22) (.c (.v (.bool false)))⟩,
    ⟨(some 24), none, .mv (.t 23)⟩,
    ⟨(some 25), (some (24, true)), .load (some 13) (.t 1)⟩,
    ⟨(some 26), (some (24, true)), .call 214 [(.t 25)]⟩,
    ⟨(some 27), none, .pick (.t 24) (.t 26) (.c (.v (.bool false)))⟩,
    ⟨(some 2), none, .mv (.t 27)⟩])
  .ret)))
noncomputable def r148 : RFn := ⟨28, b148, [.tmp 2]⟩
noncomputable def k148 : List (List Nat) := []
theorem t148 : toRFn C k148 148 = some r148 := by kernel_rfl
/-- linkboy/object.sticks -/
noncomputable def b149 : RC := (.seq (.reg [] [⟨(some 1), none, .box (.t 0)⟩,
    ⟨(some 2), none, .mv (.c (.v (.bool false)))⟩])
  (.seq (.seq (.reg [] [⟨(some 3), none, .fa 10 (.t 1)⟩,
    ⟨(some 4), none, .load none (.t 3)⟩])
  (.cond (.t 4) (.seq (.reg [] [⟨(some 5), none, .fa 11 (.t 1)⟩,
    ⟨(some 6), none, .load none (.t 5)⟩,
    ⟨(some 7), none, .bin .geq (.t 6) (.c (.v (.int .i64 1)))⟩,
    ⟨(some 8), none, .mv (.t 7)⟩,
    ⟨(some 9), (some (8, true)), .fa 11 (.t 1)⟩,
    ⟨(some 10), (some (8, true)), .load none (.t 9)⟩,
    ⟨(some 11), (some (8, true)), .bin .leq (.t 10) (.c (.v (.int .i64 1099511627776)))⟩,
    ⟨(some 12), none, .pick (.t 8) (.t 11) (.c (.v (.bool false)))⟩,
    ⟨(some 2), none, .mv (.t 12)⟩])
  .ret)
  .skip))
  (.seq (.reg [] [⟨(some 13), none, .fa 11 (.t 1)⟩,
    ⟨(some 14), none, .load none (.t 13)⟩,
    ⟨(some 15), none, .bin .eql (.t 14) (.c (.v (.int .i64 0)))⟩,
    ⟨(some 2), none, .mv (.t 15)⟩])
  .ret)))
noncomputable def r149 : RFn := ⟨16, b149, [.tmp 2]⟩
noncomputable def k149 : List (List Nat) := []
theorem t149 : toRFn C k149 149 = some r149 := by kernel_rfl
/-- linkboy/event.known -/
noncomputable def b160 : RC := (.seq (.reg [] [⟨(some 2), none, .mv (.c (.v (.bool false)))⟩])
  (.seq (.reg [] [⟨(some 3), none, .mv (.t 0)⟩,
    ⟨(some 4), none, .bin .geq (.t 3) (.c (.v (.int .i64 1)))⟩,
    ⟨(some 5), none, .mv (.t 4)⟩,
    ⟨(some 6), (some (5, true)), .mv (.t 0)⟩,
    ⟨(some 7), (some (5, true)), .bin .leq (.t 6) (.c (.v (.int .i64 9)))⟩,
    ⟨(some 8), none, .pick (.t 5) (.t 7) (.c (.v (.bool false)))⟩,
    ⟨(some 2), none, .mv (.t 8)⟩])
  .ret))
noncomputable def r160 : RFn := ⟨9, b160, [.tmp 2]⟩
noncomputable def k160 : List (List Nat) := []
theorem t160 : toRFn C k160 160 = some r160 := by kernel_rfl
/-- linkboy/event.versions -/
noncomputable def b161 : RC := (.seq (.reg [] [⟨(some 2), none, .mv (.c (.v (.bool false)))⟩])
  (.seq (.reg [] [⟨(some 3), none, .mv (.t 0)⟩,
    ⟨(some 4), none, .bin .geq (.t 3) (.c (.v (.int .i64 1)))⟩,
    ⟨(some 5), none, .mv (.t 4)⟩,
    ⟨(some 6), (some (5, true)), .mv (.t 0)⟩,
    ⟨(some 7), (some (5, true)), .bin .leq (.t 6) (.c (.v (.int .i64 1099511627776)))⟩,
    ⟨(some 8), none, .pick (.t 5) (.t 7) (.c (.v (.bool false)))⟩,
    ⟨(some 2), none, .mv (.t 8)⟩])
  .ret))
noncomputable def r161 : RFn := ⟨9, b161, [.tmp 2]⟩
noncomputable def k161 : List (List Nat) := []
theorem t161 : toRFn C k161 161 = some r161 := by kernel_rfl
/-- linkboy/event.content -/
noncomputable def b162 : RC := (.seq (.reg [] [⟨(some 1), none, .box (.t 0)⟩,
    ⟨(some 2), none, .mv (.c (.v (.bool false)))⟩])
  (.seq (.seq (.reg [] [⟨(some 3), none, .fa 0 (.t 1)⟩,
    ⟨(some 4), none, .load none (.t 3)⟩])
  (.block 0 (.seq (.reg [] [⟨(some 6), none, .bin .eql (.t 4) (.c (.v (.int .i64 1)))⟩,
    ⟨(some 5), none, .mv (.t 6)⟩])
  (.cond (.t 5) (.seq (.reg [] [⟨(some 7), none, .fa 2 (.t 1)⟩,
    ⟨(some 8), none, .load (some 13) (.t 7)⟩,
    ⟨(some 9), none, .call 47 [(.t 8)]⟩,
    ⟨(some 2), none, .mv (.t 9)⟩])
  .ret)
  (.seq (.reg [] [⟨(some 11), none, .bin .eql (.t 4) (.c (.v (.int .i64 2)))⟩,
    ⟨(some 10), none, .mv (.t 11)⟩])
  (.cond (.t 10) (.seq (.reg [] [⟨(some 12), none, .fa 15 (.t 1)⟩,
    ⟨(some 13), none, .load (some 6) (.t 12)⟩,
    ⟨(some 14), none, .call 37 [(.t 13)]⟩,
    ⟨(some 2), none, .mv (.t 14)⟩])
  .ret)
  (.seq (.reg [] [⟨(some 16), none, .bin .eql (.t 4) (.c (.v (.int .i64 3)))⟩,
    ⟨(some 15), none, .mv (.t 16)⟩])
  (.cond (.t 15) (.seq (.reg [] [⟨(some 17), none, .fa 21 (.t 1)⟩,
    ⟨(some 18), none, .load (some 3) (.t 17)⟩,
    ⟨(some 19), none, .call 23 [(.t 18)]⟩,
    ⟨(some 2), none, .mv (.t 19)⟩])
  .ret)
  (.seq (.seq (.reg [] [⟨(some 21), none, .bin .eql (.t 4) (.c (.v (.int .i64 4)))⟩,
    ⟨(some 20), none, .mv (.t 21)⟩])
  (.cond (.t 20) .skip
  (.reg [] [⟨(some 22), none, .bin .eql (.t 4) (.c (.v (.int .i64 5)))⟩,
    ⟨(some 20), none, .mv (.t 22)⟩])))
  (.cond (.t 20) (.seq (.reg [] [⟨(some 23), none, .fa 24 (.t 1)⟩,
    ⟨(some 24), none, .load (some 2) (.t 23)⟩,
    ⟨(some 25), none, .call 116 [(.t 24)]⟩,
    ⟨(some 2), none, .mv (.t 25)⟩])
  .ret)
  (.seq (.reg [] [⟨(some 27), none, .bin .eql (.t 4) (.c (.v (.int .i64 6)))⟩,
    ⟨(some 26), none, .mv (.t 27)⟩])
  (.cond (.t 26) (.seq (.reg [] [⟨(some 28), none, .fa 26 (.t 1)⟩,
    ⟨(some 29), none, .load none (.t 28)⟩,
    ⟨(some 30), none, .call 81 [(.t 29)]⟩,
    ⟨(some 2), none, .mv (.t 30)⟩])
  .ret)
  .skip))))))))))))
  (.seq (.reg [] [⟨(some 2), none, .mv (.c (.v (.bool true)))⟩])
  .ret)))
noncomputable def r162 : RFn := ⟨31, b162, [.tmp 2]⟩
noncomputable def k162 : List (List Nat) := []
theorem t162 : toRFn C k162 162 = some r162 := by kernel_rfl
/-- (linkboy/watch.Watcher).in -/
noncomputable def b172 : RC := (.seq (.reg [] [⟨(some 4), none, .box (.t 0)⟩,
    ⟨(some 8), none, .mv (.c (.v .nilIface))⟩])
  (.seq (.seq (.reg [] [⟨(some 9), none, .mv (.t 1)⟩,
    ⟨(some 10), none, .eqI false true (.t 9) (.c (.v .nilIface))⟩,
    ⟨(some 11), none, .mv (.t 10)⟩,
    ⟨(some 12), (some (11, true)), .fa 0 (.t 4)⟩,
    ⟨(some 13), (some (11, true)), .load none (.t 12)⟩,
    ⟨(some 14), (some (11, true)), .mv (.t 2)⟩,
    ⟨(some 15), (some (11, true)), .bin .neq (.t 13) (.t 14)⟩,
    ⟨(some 16), none, .pick (.t 11) (.t 15) (.c (.v (.bool false)))⟩,
    ⟨(some 17), none, .mv (.t 16)⟩,
    ⟨(some 18), (some (17, true)), .fa 0 (.t 4)⟩,
    ⟨(some 19), (some (17, true)), .load none (.t 18)⟩,
    ⟨(some 20), (some (17, true)), .mv (.t 3)⟩,
    ⟨(some 21), (some (17, true)), .bin .neq (.t 19) (.t 20)⟩,
    ⟨(some 22), none, .pick (.t 17) (.t 21) (.c (.v (.bool false)))⟩])
  (.cond (.t 22) (.seq (.reg [] [⟨(some 23), none, .load none (.c (.ro [(.ifc 295 (.gl 14))] 0))⟩,
    ⟨(some 8), none, .mv (.t 23)⟩])
  .ret)
  .skip))
  (.seq (.reg [] [⟨(some 24), none, .mv (.t 1)⟩,
    ⟨(some 8), none, .mv (.t 24)⟩])
  .ret)))
noncomputable def r172 : RFn := ⟨25, b172, [.tmp 8]⟩
noncomputable def k172 : List (List Nat) := []
theorem t172 : toRFn C k172 172 = some r172 := by kernel_rfl
/-- linkboy/watch.Delay -/
noncomputable def b173 : RC := (.seq (.reg [] [⟨(some 2), none, .mv (.c (.v (.int .i64 0)))⟩])
  (.seq (.seq (.reg [] [⟨(some 3), none, .mv (.t 0)⟩,
    ⟨(some 4), none, .bin .lss (.t 3) (.c (.v (.int .i64 1)))⟩])
  (.cond (.t 4) (.seq (.reg [] [⟨(some 2), none, .mv (.c (.v (.int .i64 0)))⟩])
  .ret)
  .skip))
  (.seq (.reg [] [⟨(some 5), none, .mv (.t 0)⟩,
    ⟨(some 6), none, .bin .sub (.t 5) (.c (.v (.int .i64 1)))⟩,
    ⟨(some 7), none, .mm false [(.t 6), (.c (.v (.int .i64 30)))]⟩,
    ⟨(some 8), none, .bin .shl (.c (.v (.int .i64 1))) (.t 7)⟩,
    ⟨(some 9), none, .mm false [(.t 8), (.c (.v (.int .i64 64)))]⟩,
    ⟨(some 2), none, .mv (.t 9)⟩])
  .ret)))
noncomputable def r173 : RFn := ⟨10, b173, [.tmp 2]⟩
noncomputable def k173 : List (List Nat) := []
theorem t173 : toRFn C k173 173 = some r173 := by kernel_rfl
/-- (linkboy/watch.Watcher).listed -/
noncomputable def b174 : RC := (.seq (.reg [] [⟨(some 2), none, .box (.t 0)⟩,
    ⟨(some 3), none, .box (.t 1)⟩,
    ⟨(some 4), none, .box (.c (.agg [(.v (.int .i64 0)), (.v (.int .i64 0)), (.v (.int .i64 0)), (.v (.int .i64 0))]))⟩,
    ⟨(some 5), none, .mv (.c (.v .nilIface))⟩])
  (.seq (.seq (.reg [] [⟨(some 6), none, .fa 0 (.t 3)⟩,
    ⟨(some 7), none, .load none (.t 6)⟩])
  (.block 0 (.seq (.seq (.reg [] [⟨(some 9), none, .bin .eql (.t 7) (.c (.v (.int .i64 8)))⟩,
    ⟨(some 8), none, .mv (.t 9)⟩])
  (.cond (.t 8) .skip
  (.seq (.reg [] [⟨(some 10), none, .bin .eql (.t 7) (.c (.v (.int .i64 1)))⟩,
    ⟨(some 8), none, .mv (.t 10)⟩])
  (.cond (.t 8) .skip
  (.seq (.reg [] [⟨(some 11), none, .bin .eql (.t 7) (.c (.v (.int .i64 2)))⟩,
    ⟨(some 8), none, .mv (.t 11)⟩])
  (.cond (.t 8) .skip
  (.reg [] [⟨(some 12), none, .bin .eql (.t 7) (.c (.v (.int .i64 3)))⟩,
    ⟨(some 8), none, .mv (.t 12)⟩])))))))
  (.cond (.t 8) (.seq (.reg [] [⟨(some 13), none, .load (some 4) (.t 2)⟩,
    ⟨none, none, .store 4 (.t 4) (.t 13)⟩,
    ⟨(some 5), none, .mv (.c (.v .nilIface))⟩])
  .ret)
  (.seq (.reg [] [⟨(some 15), none, .bin .eql (.t 7) (.c (.v (.int .i64 9)))⟩,
    ⟨(some 14), none, .mv (.t 15)⟩])
  (.cond (.t 14) (.seq (.reg [] [⟨(some 16), none, .fa 1 (.t 3)⟩,
    ⟨(some 17), none, .load none (.t 16)⟩,
    ⟨(some 18), none, .build [(.v (.int .i64 0)), (.v (.int .i64 0)), (.v (.int .i64 0)), (.v (.int .i64 0))] [(0, 1, (.c (.v (.int .i64 2)))), (1, 1, (.t 17))]⟩,
    ⟨none, none, .store 4 (.t 4) (.t 18)⟩,
    ⟨(some 5), none, .mv (.c (.v .nilIface))⟩])
  .ret)
  .skip))))))
  (.seq (.reg [] [⟨(some 19), none, .load (some 4) (.t 2)⟩,
    ⟨(some 20), none, .load none (.c (.ro [(.ifc 295 (.gl 14))] 0))⟩,
    ⟨none, none, .store 4 (.t 4) (.t 19)⟩,
    ⟨(some 5), none, .mv (.t 20)⟩])
  .ret)))
noncomputable def r174 : RFn := ⟨21, b174, [.cell 4 (some 4), .tmp 5]⟩
noncomputable def k174 : List (List Nat) := []
theorem t174 : toRFn C k174 174 = some r174 := by kernel_rfl
/-- (linkboy/watch.Watcher).watched -/
noncomputable def b175 : RC := (.seq (.reg [] [⟨(some 2), none, .box (.t 0)⟩,
    ⟨(some 3), none, .box (.t 1)⟩,
    ⟨(some 4), none, .box (.c (.agg [(.v (.int .i64 0)), (.v (.int .i64 0)), (.v (.int .i64 0)), (.v (.int .i64 0))]))⟩,
    ⟨(some 5), none, .mv (.c (.v .nilIface))⟩])
  (.seq (.block 0 (.seq (.reg [] [⟨(some 7), none, .fa 0 (.t 3)⟩,
    ⟨(some 8), none, .load none (.t 7)⟩,
    ⟨(some 9), none, .bin .eql (.t 8) (.c (.v (.int .i64 8)))⟩,
    ⟨(some 6), none, .mv (.t 9)⟩])
  (.cond (.t 6) (.seq (.reg [] [⟨(some 10), none, .load (some 4) (.t 2)⟩,
    ⟨(some 11), none, .call 72 [(.t 10), (.c (.v (.int .i64 1))), (.c (.v .nilIface))]⟩,
    ⟨(some 12), none, .ext (.t 11) 0⟩,
    ⟨(some 13), none, .ext (.t 11) 1⟩,
    ⟨none, none, .store 4 (.t 4) (.t 12)⟩,
    ⟨(some 5), none, .mv (.t 13)⟩])
  .ret)
  (.seq (.reg [] [⟨(some 15), none, .fa 0 (.t 3)⟩,
    ⟨(some 16), none, .load none (.t 15)⟩,
    ⟨(some 17), none, .bin .eql (.t 16) (.c (.v (.int .i64 9)))⟩,
    ⟨(some 14), none, .mv (.t 17)⟩])
  (.cond (.t 14) (.seq (.reg [] [⟨(some 18), none, .load (some 4) (.t 2)⟩,
    ⟨(some 19), none, .load none (.c (.ro [(.ifc 295 (.gl 14))] 0))⟩,
    ⟨none, none, .store 4 (.t 4) (.t 18)⟩,
    ⟨(some 5), none, .mv (.t 19)⟩])
  .ret)
  (.seq (.reg [] [⟨(some 21), none, .fa 1 (.t 3)⟩,
    ⟨(some 22), none, .load none (.t 21)⟩,
    ⟨(some 23), none, .fa 1 (.t 2)⟩,
    ⟨(some 24), none, .load none (.t 23)⟩,
    ⟨(some 25), none, .bin .leq (.t 22) (.t 24)⟩,
    ⟨(some 20), none, .mv (.t 25)⟩])
  (.cond (.t 20) (.seq (.reg [] [⟨(some 26), none, .load (some 4) (.t 2)⟩,
    ⟨(some 27), none, .load none (.c (.ro [(.ifc 295 (.gl 9))] 0))⟩,
    ⟨none, none, .store 4 (.t 4) (.t 26)⟩,
    ⟨(some 5), none, .mv (.t 27)⟩])
  .ret)
  .skip)))))))
  (.seq (.reg [] [⟨(some 28), none, .fa 1 (.t 3)⟩,
    ⟨(some 29), none, .load none (.t 28)⟩,
    ⟨(some 30), none, .fa 1 (.t 2)⟩,
    ⟨none, none, .store 1 (.t 30) (.t 29)⟩])
  (.seq (.reg [] [⟨(some 31), none, .load (some 4) (.t 2)⟩,
    ⟨none, none, .store 4 (.t 4) (.t 31)⟩,
    ⟨(some 5), none, .mv (.c (.v .nilIface))⟩])
  .ret))))
noncomputable def r175 : RFn := ⟨32, b175, [.cell 4 (some 4), .tmp 5]⟩
noncomputable def k175 : List (List Nat) := []
theorem t175 : toRFn C k175 175 = some r175 := by kernel_rfl
/-- strings.Trim -/
noncomputable def b181 : RC := (.seq (.reg [] [⟨(some 4), none, .mv (.c (.v (.string ⟨⟨[]⟩⟩)))⟩])
  (.seq (.seq (.reg [] [⟨(some 7), none, .mv (.t 0)⟩,
    ⟨(some 8), none, .bin .eql (.t 7) (.c (.v (.string ⟨⟨[]⟩⟩)))⟩,
    ⟨(some 9), none, .mv (.t 8)⟩,
    ⟨(some 10), (some (9, false)), .mv (.t 1)⟩,
    ⟨(some 11), (some (9, false)), .bin .eql (.t 10) (.c (.v (.string ⟨⟨[]⟩⟩)))⟩,
    ⟨(some 12), none, .pick (.t 9) (.c (.v (.bool true))) (.t 11)⟩])
  (.cond (.t 12) (.seq (.reg [] [⟨(some 13), none, .mv (.t 0)⟩,
    ⟨(some 4), none, .mv (.t 13)⟩])
  .ret)
  .skip))
  (.seq (.seq (.reg [] [⟨(some 14), none, .mv (.t 1)⟩,
    ⟨(some 15), none, .len .str (.t 14)⟩,
    ⟨(some 16), none, .bin .eql (.t 15) (.c (.v (.int .i64 1)))⟩,
    ⟨(some 17), none, .mv (.t 16)⟩,
    ⟨(some 18), (some (17, true)), .mv (.t 1)⟩,
    ⟨(some 19), (some (17, true)), .ixS (.t 18) (.c (.v (.int .i64 0)))⟩,
    ⟨(some 20), (some (17, true)), .bin .lss (.t 19) (.c (.v (.int .u8 128)))⟩,
    ⟨(some 21), none, .pick (.t 17) (.t 20) (.c (.v (.bool false)))⟩])
  (.cond (.t 21) (.seq (.reg [] [⟨(some 22), none, .mv (.t 0)⟩,
    ⟨(some 23), none, .mv (.t 1)⟩,
    ⟨(some 24), none, .ixS (.t 23) (.c (.v (.int .i64 0)))⟩,
    ⟨(some 25), none, .call 221 [(.t 22), (.t 24)]⟩,
    ⟨(some 26), none, .mv (.t 1)⟩,
    ⟨(some 27), none, .ixS (.t 26) (.c (.v (.int .i64 0)))⟩,
    ⟨(some 28), none, .call 220 [(.t 25), (.t 27)]⟩,
    ⟨(some 4), none, .mv (.t 28)⟩])
  .ret)
  .skip))
  (.seq (.seq (.reg [] [⟨(some 30), none, .mv (.t 1)⟩,
    ⟨(some 31), none, .call 222 [(.t 30)]⟩,
    ⟨(some 29), none, .mv (.t 31)⟩,
    ⟨(some 32), none, .ext (.t 29) 0⟩,
    ⟨(some 33), none, .ext (.t 29) 1⟩,
    ⟨(some 5), none, .box (.c (.agg z256_0))⟩,
    ⟨none, none, .store 256 (.t 5) (.t 32)⟩,
    ⟨(some 6), none, .mv (.t 33)⟩])
  (.seq (.reg [] [⟨(some 34), none, .mv (.t 6)⟩])
  (.cond (.t 34) (.seq (.reg [] [⟨(some 35), none, .mv (.t 0)⟩,
    ⟨(some 36), none, .call 224 [(.t 35), (.t 5)]⟩,
    ⟨(some 37), none, .call 223 [(.t 36), (.t 5)]⟩,
    ⟨(some 4), none, .mv (.t 37)⟩])
  .ret)
  .skip)))
  (.seq (.reg [] [⟨(some 38), none, .mv (.t 0)⟩,
    ⟨(some 39), none, .mv (.t 1)⟩,
    ⟨(some 40), none, .call 226 [(.t 38), (.t 39)]⟩,
    ⟨(some 41), none, .mv (.t 1)⟩,
    ⟨(some 42), none, .call 225 [(.t 40), (.t 41)]⟩,
    ⟨(some 4), none, .mv (.t 42)⟩])
  .ret)))))
noncomputable def r181 : RFn := ⟨43, b181, [.tmp 4]⟩
noncomputable def k181 : List (List Nat) := []
theorem t181 : toRFn C k181 181 = some r181 := by kernel_rfl
/-- strings.HasPrefix -/
noncomputable def b182 : RC := (.seq (.reg [] [⟨(some 4), none, .mv (.c (.v (.bool false)))⟩])
  (.seq (.reg [] [⟨(some 5), none, .mv (.t 0)⟩,
    ⟨(some 6), none, .mv (.t 1)⟩,
    ⟨(some 7), none, .call 227 [(.t 5), (.t 6)]⟩,
    ⟨(some 4), none, .mv (.t 7)⟩])
  .ret))
noncomputable def r182 : RFn := ⟨8, b182, [.tmp 4]⟩
noncomputable def k182 : List (List Nat) := []
theorem t182 : toRFn C k182 182 = some r182 := by kernel_rfl
/-- strings.HasSuffix -/
noncomputable def b183 : RC := (.seq (.reg [] [⟨(some 4), none, .mv (.c (.v (.bool false)))⟩])
  (.seq (.reg [] [⟨(some 5), none, .mv (.t 0)⟩,
    ⟨(some 6), none, .mv (.t 1)⟩,
    ⟨(some 7), none, .call 228 [(.t 5), (.t 6)]⟩,
    ⟨(some 4), none, .mv (.t 7)⟩])
  .ret))
noncomputable def r183 : RFn := ⟨8, b183, [.tmp 4]⟩
noncomputable def k183 : List (List Nat) := []
theorem t183 : toRFn C k183 183 = some r183 := by kernel_rfl
/-- linkboy/object.every[linkboy/api.Addr] -/
noncomputable def b184 : RC := (.seq (.reg [] [⟨(some 3), none, .box (.t 1)⟩,
    ⟨(some 4), none, .mv (.c (.v (.bool false)))⟩])
  (.seq (.reg [] [⟨(some 5), none, .mv (.t 0)⟩,
    ⟨(some 6), none, .fn (.func 230) [] [(.t 3)]⟩,
    ⟨(some 7), none, .call 229 [(.t 5), (.t 6)]⟩,
    ⟨(some 8), none, .un .not (.t 7)⟩,
    ⟨(some 4), none, .mv (.t 8)⟩])
  .ret))
noncomputable def r184 : RFn := ⟨9, b184, [.tmp 4]⟩
noncomputable def k184 : List (List Nat) := []
theorem t184 : toRFn C k184 184 = some r184 := by kernel_rfl
/-- slices.ContainsFunc[[]linkboy/object.Port,linkboy/object.Port] -/
noncomputable def b190 : RC := (.seq (.reg [] [⟨(some 4), none, .mv (.c (.v (.bool false)))⟩])
  (.seq (.reg [] [⟨(some 5), none, .mv (.t 0)⟩,
    ⟨(some 6), none, .mv (.t 1)⟩,
    ⟨(some 7), none, .call 231 [(.t 5), (.t 6)]⟩,
    ⟨(some 8), none, .bin .geq (.t 7) (.c (.v (.int .i64 0)))⟩,
    ⟨(some 4), none, .mv (.t 8)⟩])
  .ret))
noncomputable def r190 : RFn := ⟨9, b190, [.tmp 4]⟩
noncomputable def k190 : List (List Nat) := []
theorem t190 : toRFn C k190 190 = some r190 := by kernel_rfl
/-- linkboy/object.every[linkboy/object.Port]$1 -/
noncomputable def b191 : RC := (.seq (.reg [] [⟨(some 2), none, .box (.t 0)⟩,
    ⟨(some 3), none, .mv (.c (.v (.bool false)))⟩])
  (.seq (.reg [] [⟨(some 4), none, .load none (.t 1)⟩,
    ⟨(some 5), none, .load (some 4) (.t 2)⟩,
    ⟨(some 6), none, .callv (.t 4) [(.t 5)]⟩,
    ⟨(some 7), none, .un .not (.t 6)⟩,
    ⟨(some 3), none, .mv (.t 7)⟩])
  .ret))
noncomputable def r191 : RFn := ⟨8, b191, [.tmp 3]⟩
noncomputable def k191 : List (List Nat) := []
theorem t191 : toRFn C k191 191 = some r191 := by kernel_rfl
/-- linkboy/ports.Proto -/
noncomputable def b192 : RC := (.seq (.reg [] [⟨(some 2), none, .mv (.c (.v (.bool false)))⟩])
  (.seq (.reg [] [⟨(some 3), none, .mv (.t 0)⟩,
    ⟨(some 4), none, .bin .eql (.t 3) (.c (.v (.int .i64 6)))⟩,
    ⟨(some 5), none, .mv (.t 4)⟩,
    ⟨(some 6), (some (5, false)), .mv (.t 0)⟩,
    ⟨(some 7), (some (5, false)), .bin .eql (.t 6) (.c (.v (.int .i64 17)))⟩,
    ⟨(some 8), none, .pick (.t 5) (.c (.v (.bool true))) (.t 7)⟩,
    ⟨(some 2), none, .mv (.t 8)⟩])
  .ret))
noncomputable def r192 : RFn := ⟨9, b192, [.tmp 2]⟩
noncomputable def k192 : List (List Nat) := []
theorem t192 : toRFn C k192 192 = some r192 := by kernel_rfl
/-- linkboy/ports.Right -/
noncomputable def b193 : RC := (.seq (.reg [] [⟨(some 2), none, .mv (.c (.v (.bool false)))⟩])
  (.seq (.reg [] [⟨(some 3), none, .mv (.t 0)⟩,
    ⟨(some 4), none, .bin .geq (.t 3) (.c (.v (.int .i64 1)))⟩,
    ⟨(some 5), none, .mv (.t 4)⟩,
    ⟨(some 6), (some (5, true)), .mv (.t 0)⟩,
    ⟨(some 7), (some (5, true)), .bin .leq (.t 6) (.c (.v (.int .i64 65535)))⟩,
    ⟨(some 8), none, .pick (.t 5) (.t 7) (.c (.v (.bool false)))⟩,
    ⟨(some 2), none, .mv (.t 8)⟩])
  .ret))
noncomputable def r193 : RFn := ⟨9, b193, [.tmp 2]⟩
noncomputable def k193 : List (List Nat) := []
theorem t193 : toRFn C k193 193 = some r193 := by kernel_rfl
/-- slices.ContainsFunc[[]linkboy/object.Endpoint,linkboy/object.Endpoint] -/
noncomputable def b194 : RC := (.seq (.reg [] [⟨(some 4), none, .mv (.c (.v (.bool false)))⟩])
  (.seq (.reg [] [⟨(some 5), none, .mv (.t 0)⟩,
    ⟨(some 6), none, .mv (.t 1)⟩,
    ⟨(some 7), none, .call 232 [(.t 5), (.t 6)]⟩,
    ⟨(some 8), none, .bin .geq (.t 7) (.c (.v (.int .i64 0)))⟩,
    ⟨(some 4), none, .mv (.t 8)⟩])
  .ret))
noncomputable def r194 : RFn := ⟨9, b194, [.tmp 4]⟩
noncomputable def k194 : List (List Nat) := []
theorem t194 : toRFn C k194 194 = some r194 := by kernel_rfl
/-- linkboy/object.every[linkboy/object.Endpoint]$1 -/
noncomputable def b195 : RC := (.seq (.reg [] [⟨(some 2), none, .box (.t 0)⟩,
    ⟨(some 3), none, .mv (.c (.v (.bool false)))⟩])
  (.seq (.reg [] [⟨(some 4), none, .load none (.t 1)⟩,
    ⟨(some 5), none, .load (some 22) (.t 2)⟩,
    ⟨(some 6), none, .callv (.t 4) [(.t 5)]⟩,
    ⟨(some 7), none, .un .not (.t 6)⟩,
    ⟨(some 3), none, .mv (.t 7)⟩])
  .ret))
noncomputable def r195 : RFn := ⟨8, b195, [.tmp 3]⟩
noncomputable def k195 : List (List Nat) := []
theorem t195 : toRFn C k195 195 = some r195 := by kernel_rfl
/-- bytes.Trim -/
noncomputable def b196 : RC := (.seq (.reg [] [⟨(some 4), none, .mv (.c (.sl [] .nil))⟩])
  (.seq (.seq (.reg [] [⟨(some 7), none, .mv (.t 0)⟩,
    ⟨(some 8), none, .len .sl (.t 7)⟩,
    ⟨(some 9), none, .bin .eql (.t 8) (.c (.v (.int .i64 0)))⟩])
  (.cond (.t 9) (.seq (.reg [] [⟨(some 4), none, .mv (.c (.sl [] .nil))⟩])
  .ret)
  .skip))
  (.seq (.seq (.reg [] [⟨(some 10), none, .mv (.t 1)⟩,
    ⟨(some 11), none, .bin .eql (.t 10) (.c (.v (.string ⟨⟨[]⟩⟩)))⟩])
  (.cond (.t 11) (.seq (.reg [] [⟨(some 12), none, .mv (.t 0)⟩,
    ⟨(some 4), none, .mv (.t 12)⟩])
  .ret)
  .skip))
  (.seq (.seq (.reg [] [⟨(some 13), none, .mv (.t 1)⟩,
    ⟨(some 14), none, .len .str (.t 13)⟩,
    ⟨(some 15), none, .bin .eql (.t 14) (.c (.v (.int .i64 1)))⟩,
    ⟨(some 16), none, .mv (.t 15)⟩,
    ⟨(some 17), (some (16, true)), .mv (.t 1)⟩,
    ⟨(some 18), (some (16, true)), .ixS (.t 17) (.c (.v (.int .i64 0)))⟩,
    ⟨(some 19), (some (16, true)), .bin .lss (.t 18) (.c (.v (.int .u8 128)))⟩,
    ⟨(some 20), none, .pick (.t 16) (.t 19) (.c (.v (.bool false)))⟩])
  (.cond (.t 20) (.seq (.reg [] [⟨(some 21), none, .mv (.t 0)⟩,
    ⟨(some 22), none, .mv (.t 1)⟩,
    ⟨(some 23), none, .ixS (.t 22) (.c (.v (.int .i64 0)))⟩,
    ⟨(some 24), none, .call 234 [(.t 21), (.t 23)]⟩,
    ⟨(some 25), none, .mv (.t 1)⟩,
    ⟨(some 26), none, .ixS (.t 25) (.c (.v (.int .i64 0)))⟩,
    ⟨(some 27), none, .call 233 [(.t 24), (.t 26)]⟩,
    ⟨(some 4), none, .mv (.t 27)⟩])
  .ret)
  .skip))
  (.seq (.seq (.reg [] [⟨(some 29), none, .mv (.t 1)⟩,
    ⟨(some 30), none, .call 235 [(.t 29)]⟩,
    ⟨(some 28), none, .mv (.t 30)⟩,
    ⟨(some 31), none, .ext (.t 28) 0⟩,
    ⟨(some 32), none, .ext (.t 28) 1⟩,
    ⟨(some 5), none, .box (.c (.agg z256_0))⟩,
    ⟨none, none, .store 256 (.t 5) (.t 31)⟩,
    ⟨(some 6), none, .mv (.t 32)⟩])
  (.seq (.reg [] [⟨(some 33), none, .mv (.t 6)⟩])
  (.cond (.t 33) (.seq (.reg [] [⟨(some 34), none, .mv (.t 0)⟩,
    ⟨(some 35), none, .call 237 [(.t 34), (.t 5)]⟩,
    ⟨(some 36), none, .call 236 [(.t 35), (.t 5)]⟩,
    ⟨(some 4), none, .mv (.t 36)⟩])
  .ret)
  .skip)))
  (.seq (.reg [] [⟨(some 37), none, .mv (.t 0)⟩,
    ⟨(some 38), none, .mv (.t 1)⟩,
    ⟨(some 39), none, .call 239 [(.t 37), (.t 38)]⟩,
    ⟨(some 40), none, .mv (.t 1)⟩,
    ⟨(some 41), none, .call 238 [(.t 39), (.t 40)]⟩,
    ⟨(some 4), none, .mv (.t 41)⟩])
  .ret))))))
noncomputable def r196 : RFn := ⟨42, b196, [.tmp 4]⟩
noncomputable def k196 : List (List Nat) := []
theorem t196 : toRFn C k196 196 = some r196 := by kernel_rfl
/-- linkboy/object.every[string] -/
noncomputable def b197 : RC := (.seq (.reg [] [⟨(some 3), none, .box (.t 1)⟩,
    ⟨(some 4), none, .mv (.c (.v (.bool false)))⟩])
  (.seq (.reg [] [⟨(some 5), none, .mv (.t 0)⟩,
    ⟨(some 6), none, .fn (.func 241) [] [(.t 3)]⟩,
    ⟨(some 7), none, .call 240 [(.t 5), (.t 6)]⟩,
    ⟨(some 8), none, .un .not (.t 7)⟩,
    ⟨(some 4), none, .mv (.t 8)⟩])
  .ret))
noncomputable def r197 : RFn := ⟨9, b197, [.tmp 4]⟩
noncomputable def k197 : List (List Nat) := []
theorem t197 : toRFn C k197 197 = some r197 := by kernel_rfl
/-- slices.IsSorted[[]string,string] -/
noncomputable def m198_0 : RC := (.seq (.seq (.reg [] [⟨(some 7), none, .mv (.t 3)⟩,
    ⟨(some 8), none, .bin .gtr (.t 7) (.c (.v (.int .i64 0)))⟩])
  (.cond (.t 8) .skip
  (.exit 0)))
  (.seq (.block 1 (.seq (.reg [] [⟨(some 11), none, .mv (.t 0)⟩,
    ⟨(some 12), none, .mv (.t 3)⟩,
    ⟨(some 13), none, .iaS 1 (.t 11) (.t 12)⟩,
    ⟨(some 14), none, .load none (.t 13)⟩,
    ⟨(some 15), none, .mv (.t 0)⟩,
    ⟨(some 16), none, .mv (.t 3)⟩,
    ⟨(some 17), none, .bin .sub (.t 16) (.c (.v (.int .i64 1)))⟩,
    ⟨(some 18), none, .iaS 1 (.t 15) (.t 17)⟩,
    ⟨(some 19), none, .load none (.t 18)⟩,
    ⟨(some 20), none, .call 242 [(.t 14), (.t 19)]⟩])
  (.cond (.t 20) (.seq (.reg [] [⟨(some 2), none, .mv (.c (.v (.bool false)))⟩])
  .ret)
  .skip)))
  (.reg [] [⟨(some 9), none, .mv (.t 3)⟩,
    ⟨(some 10), none, .bin .sub (.t 9) (.c (.v (.int .i64 1)))⟩,
    ⟨(some 3), none, .mv (.t 10)⟩])))
noncomputable def l198_0 : RC := m198_0
noncomputable def b198 : RC := (.seq (.reg [] [⟨(some 2), none, .mv (.c (.v (.bool false)))⟩])
  (.seq (.seq (.reg [] [⟨(some 4), none, .mv (.t 0)⟩,
    ⟨(some 5), none, .len .sl (.t 4)⟩,
    ⟨(some 6), none, .bin .sub (.t 5) (.c (.v (.int .i64 1)))⟩,
    ⟨(some 3), none, .mv (.t 6)⟩])
  (.block 0 (.loop [0, 3] [2] l198_0)))
  (.seq (.reg [] [⟨(some 2), none, .mv (.c (.v (.bool true)))⟩])
  .ret)))
noncomputable def r198 : RFn := ⟨21, b198, [.tmp 2]⟩
noncomputable def k198 : List (List Nat) := [[0, 3], [2]]
theorem t198 : toRFn C k198 198 = some r198 := by kernel_rfl
/-- linkboy/object.unlike[string,string] -/
noncomputable def m199_0 : RC := (.seq (.reg [] [⟨(some 12), none, .bin .lss (.t 11) (.t 10)⟩])
  (.seq (.cond (.t 12) .skip
  (.exit 0))
  (.seq (.block 1 (.seq (.reg [] [⟨(some 13), none, .iaS 1 (.t 9) (.t 11)⟩,
    ⟨(some 14), none, .load none (.t 13)⟩,
    ⟨(some 7), none, .mv (.t 14)⟩])
  (.reg [] [⟨(some 15), none, .mv (.t 5)⟩,
    ⟨(some 16), none, .mv (.t 1)⟩,
    ⟨(some 17), none, .mv (.t 7)⟩,
    ⟨(some 18), none, .callv (.t 16) [(.t 17)]⟩,
    ⟨(some 19), none, .look false [.str] (.v (.int .i64 0)) false (.t 15) (.t 18)⟩,
    ⟨(some 20), none, .bin .add (.t 19) (.c (.v (.int .i64 1)))⟩,
    ⟨none, none, .mset false [.str] (.t 15) (.t 18) (.t 20)⟩])))
  (.reg [] [⟨(some 21), none, .bin .add (.t 11) (.c (.v (.int .i64 1)))⟩,
    ⟨(some 11), none, .mv (.t 21)⟩]))))
noncomputable def l199_0 : RC := m199_0
noncomputable def b199 : RC := (.seq (.reg [] [⟨(some 4), none, .mv (.c (.v (.bool false)))⟩])
  (.seq (.reg [] [⟨(some 8), none, .mkmap⟩,
    ⟨(some 5), none, .mv (.t 8)⟩])
  (.seq (.seq (.reg [] [⟨(some 9), none, .mv (.t 0)⟩,
    ⟨(some 10), none, .len .sl (.t 9)⟩,
    ⟨(some 11), none, .mv (.c (.v (.int .i64 0)))⟩])
  (.block 0 (.loop [0, 1, 5, 9, 10, 11] [0, 5] l199_0)))
  (.seq (.reg [] [⟨(some 22), none, .mv (.t 5)⟩,
    ⟨(some 23), none, .len .map (.t 22)⟩,
    ⟨(some 24), none, .mv (.t 0)⟩,
    ⟨(some 25), none, .len .sl (.t 24)⟩,
    ⟨(some 26), none, .bin .eql (.t 23) (.t 25)⟩,
    ⟨(some 4), none, .mv (.t 26)⟩])
  .ret))))
noncomputable def r199 : RFn := ⟨27, b199, [.tmp 4]⟩
noncomputable def k199 : List (List Nat) := [[0, 1, 5, 9, 10, 11], [0, 5]]
theorem t199 : toRFn C k199 199 = some r199 := by kernel_rfl
/-- linkboy/object.zoned$1 -/
noncomputable def b200 : RC := (.seq (.reg [] [⟨(some 2), none, .mv (.c (.v (.string ⟨⟨[]⟩⟩)))⟩])
  (.seq (.reg [] [⟨(some 3), none, .mv (.t 0)⟩,
    ⟨(some 2), none, .mv (.t 3)⟩])
  .ret))
noncomputable def r200 : RFn := ⟨4, b200, [.tmp 2]⟩
noncomputable def k200 : List (List Nat) := []
theorem t200 : toRFn C k200 200 = some r200 := by kernel_rfl
/-- linkboy/object.unlike[linkboy/object.Port,string] -/
noncomputable def m201_0 : RC := (.seq (.reg [] [⟨(some 12), none, .bin .lss (.t 11) (.t 10)⟩])
  (.seq (.cond (.t 12) .skip
  (.exit 0))
  (.seq (.block 1 (.seq (.reg [] [⟨(some 13), none, .iaS 4 (.t 9) (.t 11)⟩,
    ⟨(some 14), none, .load (some 4) (.t 13)⟩,
    ⟨(some 7), none, .box (.c (.agg [(.v (.string ⟨⟨[]⟩⟩)), (.v (.int .i64 0)), (.v (.int .i64 0)), (.v (.int .i64 0))]))⟩,
    ⟨none, none, .store 4 (.t 7) (.t 14)⟩])
  (.reg [] [⟨(some 15), none, .mv (.t 5)⟩,
    ⟨(some 16), none, .mv (.t 1)⟩,
    ⟨(some 17), none, .load (some 4) (.t 7)⟩,
    ⟨(some 18), none, .callv (.t 16) [(.t 17)]⟩,
    ⟨(some 19), none, .look false [.str] (.v (.int .i64 0)) false (.t 15) (.t 18)⟩,
    ⟨(some 20), none, .bin .add (.t 19) (.c (.v (.int .i64 1)))⟩,
    ⟨none, none, .mset false [.str] (.t 15) (.t 18) (.t 20)⟩])))
  (.reg [] [⟨(some 21), none, .bin .add (.t 11) (.c (.v (.int .i64 1)))⟩,
    ⟨(some 11), none, .mv (.t 21)⟩]))))
noncomputable def l201_0 : RC := m201_0
noncomputable def b201 : RC := (.seq (.reg [] [⟨(some 4), none, .mv (.c (.v (.bool false)))⟩])
  (.seq (.reg [] [⟨(some 8), none, .mkmap⟩,
    ⟨(some 5), none, .mv (.t 8)⟩])
  (.seq (.seq (.reg [] [⟨(some 9), none, .mv (.t 0)⟩,
    ⟨(some 10), none, .len .sl (.t 9)⟩,
    ⟨(some 11), none, .mv (.c (.v (.int .i64 0)))⟩])
  (.block 0 (.loop [0, 1, 5, 9, 10, 11] [0, 5] l201_0)))
  (.seq (.reg [] [⟨(some 22), none, .mv (.t 5)⟩,
    ⟨(some 23), none, .len .map (.t 22)⟩,
    ⟨(some 24), none, .mv (.t 0)⟩,
    ⟨(some 25), none, .len .sl (.t 24)⟩,
    ⟨(some 26), none, .bin .eql (.t 23) (.t 25)⟩,
    ⟨(some 4), none, .mv (.t 26)⟩])
  .ret))))
noncomputable def r201 : RFn := ⟨27, b201, [.tmp 4]⟩
noncomputable def k201 : List (List Nat) := [[0, 1, 5, 9, 10, 11], [0, 5]]
theorem t201 : toRFn C k201 201 = some r201 := by kernel_rfl
/-- linkboy/object.named$1 -/
noncomputable def b202 : RC := (.seq (.reg [] [⟨(some 1), none, .box (.t 0)⟩,
    ⟨(some 2), none, .mv (.c (.v (.string ⟨⟨[]⟩⟩)))⟩])
  (.seq (.reg [] [⟨(some 3), none, .fa 0 (.t 1)⟩,
    ⟨(some 4), none, .load none (.t 3)⟩,
    ⟨(some 2), none, .mv (.t 4)⟩])
  .ret))
noncomputable def r202 : RFn := ⟨5, b202, [.tmp 2]⟩
noncomputable def k202 : List (List Nat) := []
theorem t202 : toRFn C k202 202 = some r202 := by kernel_rfl
/-- slices.ContainsFunc[[][]linkboy/api.Addr,[]linkboy/api.Addr] -/
noncomputable def b206 : RC := (.seq (.reg [] [⟨(some 4), none, .mv (.c (.v (.bool false)))⟩])
  (.seq (.reg [] [⟨(some 5), none, .mv (.t 0)⟩,
    ⟨(some 6), none, .mv (.t 1)⟩,
    ⟨(some 7), none, .call 243 [(.t 5), (.t 6)]⟩,
    ⟨(some 8), none, .bin .geq (.t 7) (.c (.v (.int .i64 0)))⟩,
    ⟨(some 4), none, .mv (.t 8)⟩])
  .ret))
noncomputable def r206 : RFn := ⟨9, b206, [.tmp 4]⟩
noncomputable def k206 : List (List Nat) := []
theorem t206 : toRFn C k206 206 = some r206 := by kernel_rfl
/-- linkboy/object.every[[]linkboy/api.Addr]$1 -/
noncomputable def b207 : RC := (.seq (.reg [] [⟨(some 3), none, .mv (.c (.v (.bool false)))⟩])
  (.seq (.reg [] [⟨(some 4), none, .load none (.t 1)⟩,
    ⟨(some 5), none, .mv (.t 0)⟩,
    ⟨(some 6), none, .callv (.t 4) [(.t 5)]⟩,
    ⟨(some 7), none, .un .not (.t 6)⟩,
    ⟨(some 3), none, .mv (.t 7)⟩])
  .ret))
noncomputable def r207 : RFn := ⟨8, b207, [.tmp 3]⟩
noncomputable def k207 : List (List Nat) := []
theorem t207 : toRFn C k207 207 = some r207 := by kernel_rfl
/-- slices.ContainsFunc[[]linkboy/api.Cidr,linkboy/api.Cidr] -/
noncomputable def b208 : RC := (.seq (.reg [] [⟨(some 4), none, .mv (.c (.v (.bool false)))⟩])
  (.seq (.reg [] [⟨(some 5), none, .mv (.t 0)⟩,
    ⟨(some 6), none, .mv (.t 1)⟩,
    ⟨(some 7), none, .call 244 [(.t 5), (.t 6)]⟩,
    ⟨(some 8), none, .bin .geq (.t 7) (.c (.v (.int .i64 0)))⟩,
    ⟨(some 4), none, .mv (.t 8)⟩])
  .ret))
noncomputable def r208 : RFn := ⟨9, b208, [.tmp 4]⟩
noncomputable def k208 : List (List Nat) := []
theorem t208 : toRFn C k208 208 = some r208 := by kernel_rfl
/-- linkboy/object.every[linkboy/api.Cidr]$1 -/
noncomputable def b209 : RC := (.seq (.reg [] [⟨(some 2), none, .box (.t 0)⟩,
    ⟨(some 3), none, .mv (.c (.v (.bool false)))⟩])
  (.seq (.reg [] [⟨(some 4), none, .load none (.t 1)⟩,
    ⟨(some 5), none, .load (some 18) (.t 2)⟩,
    ⟨(some 6), none, .callv (.t 4) [(.t 5)]⟩,
    ⟨(some 7), none, .un .not (.t 6)⟩,
    ⟨(some 3), none, .mv (.t 7)⟩])
  .ret))
noncomputable def r209 : RFn := ⟨8, b209, [.tmp 3]⟩
noncomputable def k209 : List (List Nat) := []
theorem t209 : toRFn C k209 209 = some r209 := by kernel_rfl
/-- linkboy/cidr.fits -/
noncomputable def b210 : RC := (.seq (.reg [] [⟨(some 2), none, .box (.t 0)⟩,
    ⟨(some 4), none, .mv (.c (.v (.bool false)))⟩])
  (.seq (.reg [] [⟨(some 5), none, .mv (.t 1)⟩,
    ⟨(some 6), none, .bin .geq (.t 5) (.c (.v (.int .i64 0)))⟩,
    ⟨(some 7), none, .mv (.t 6)⟩,
    ⟨(some 8), (some (7, true)), .mv (.t 1)⟩,
    ⟨(some 9), (some (7, true)), .load (some 17) (.t 2)⟩,
    ⟨(some 10), (some (7, true)), .call 245 [(.t 9)]⟩,
    ⟨(some 11), (some (7, true)), .bin .leq (.t 8) (.t 10)⟩,
    ⟨(some 12), none, .pick (.t 7) (.t 11) (.c (.v (.bool false)))⟩,
    ⟨(some 4), none, .mv (.t 12)⟩])
  .ret))
noncomputable def r210 : RFn := ⟨13, b210, [.tmp 4]⟩
noncomputable def k210 : List (List Nat) := []
theorem t210 : toRFn C k210 210 = some r210 := by kernel_rfl
/-- linkboy/cidr.cut -/
noncomputable def m211_0 : RC := (.seq (.reg [] [⟨(some 8), none, .bin .lss (.t 7) (.c (.v (.int .i64 16)))⟩])
  (.seq (.cond (.t 8) .skip
  (.exit 0))
  (.seq (.block 1 (.seq (.reg [] [⟨(some 9), none, .mv (.t 7)⟩,
    ⟨(some 5), none, .mv (.t 9)⟩])
  (.seq (.reg [] [⟨(some 10), none, .mv (.t 1)⟩,
    ⟨(some 11), none, .mv (.t 5)⟩,
    ⟨(some 12), none, .bin .mul (.c (.v (.int .i64 8))) (.t 11)⟩,
    ⟨(some 13), none, .bin .sub (.t 10) (.t 12)⟩,
    ⟨(some 14), none, .mm true [(.t 13), (.c (.v (.int .i64 0)))]⟩,
    ⟨(some 15), none, .mm false [(.t 14), (.c (.v (.int .i64 8)))]⟩,
    ⟨(some 6), none, .mv (.t 15)⟩])
  (.reg [] [⟨(some 16), none, .mv (.t 5)⟩,
    ⟨(some 17), none, .fa 1 (.t 2)⟩,
    ⟨(some 18), none, .iaA 1 16 (.t 17) (.t 16)⟩,
    ⟨(some 19), none, .load none (.t 18)⟩,
    ⟨(some 20), none, .mv (.t 6)⟩,
    ⟨(some 21), none, .bin .shr (.c (.v (.int .u16 65280))) (.t 20)⟩,
    ⟨(some 22), none, .cint .u8 (.t 21)⟩,
    ⟨(some 23), none, .bin .and (.t 19) (.t 22)⟩,
    ⟨(some 24), none, .fa 1 (.t 2)⟩,
    ⟨(some 25), none, .iaA 1 16 (.t 24) (.t 16)⟩,
    ⟨none, none, .store 1 (.t 25) (.t 23)⟩]))))
  (.reg [] [⟨(some 26), none, .bin .add (.t 7) (.c (.v (.int .i64 1)))⟩,
    ⟨(some 7), none, .mv (.t 26)⟩]))))
noncomputable def l211_0 : RC := m211_0
noncomputable def b211 : RC := (.seq (.reg [] [⟨(some 2), none, .box (.t 0)⟩,
    ⟨(some 4), none, .box (.c (.agg [(.v (.bool false)), (.v (.int .u8 0)), (.v (.int .u8 0)), (.v (.int .u8 0)), (.v (.int .u8 0)), (.v (.int .u8 0)), (.v (.int .u8 0)), (.v (.int .u8 0)), (.v (.int .u8 0)), (.v (.int .u8 0)), (.v (.int .u8 0)), (.v (.int .u8 0)), (.v (.int .u8 0)), (.v (.int .u8 0)), (.v (.int .u8 0)), (.v (.int .u8 0)), (.v (.int .u8 0))]))⟩])
  (.seq (.seq (.reg [] [⟨(some 7), none, .mv (.c (.v (.int .i64 0)))⟩])
  (.block 0 (.loop [1, 2, 4, 7] [2, 4] l211_0)))
  (.seq (.reg [] [⟨(some 27), none, .load (some 17) (.t 2)⟩,
    ⟨none, none, .store 17 (.t 4) (.t 27)⟩])
  .ret)))
noncomputable def r211 : RFn := ⟨28, b211, [.cell 4 (some 17)]⟩
noncomputable def k211 : List (List Nat) := [[1, 2, 4, 7], [2, 4]]
theorem t211 : toRFn C k211 211 = some r211 := by kernel_rfl
/-- linkboy/object.unlike[linkboy/object.Port,[2]int] -/
noncomputable def m212_0 : RC := (.seq (.reg [] [⟨(some 12), none, .bin .lss (.t 11) (.t 10)⟩])
  (.seq (.cond (.t 12) .skip
  (.exit 0))
  (.seq (.block 1 (.seq (.reg [] [⟨(some 13), none, .iaS 4 (.t 9) (.t 11)⟩,
    ⟨(some 14), none, .load (some 4) (.t 13)⟩,
    ⟨(some 7), none, .box (.c (.agg [(.v (.string ⟨⟨[]⟩⟩)), (.v (.int .i64 0)), (.v (.int .i64 0)), (.v (.int .i64 0))]))⟩,
    ⟨none, none, .store 4 (.t 7) (.t 14)⟩])
  (.reg [(4, 6)] [⟨(some 15), none, .mv (.t 5)⟩,
    ⟨(some 16), none, .mv (.t 1)⟩,
    ⟨(some 17), none, .load (some 4) (.t 7)⟩,
    ⟨(some 18), none, .callv (.t 16) [(.t 17)]⟩,
    ⟨(some 19), none, .look true [.int, .int] (.v (.int .i64 0)) false (.t 15) (.t 18)⟩,
    ⟨(some 20), none, .bin .add (.t 19) (.c (.v (.int .i64 1)))⟩,
    ⟨(some 21), none, .ment true [.int, .int] (.v (.int .i64 0)) (.t 15) (.t 18)⟩,
    ⟨(some 22), none, .ext (.t 21) 1⟩,
    ⟨none, none, .mst (.t 15) (.t 22) (.t 20)⟩])))
  (.reg [] [⟨(some 23), none, .bin .add (.t 11) (.c (.v (.int .i64 1)))⟩,
    ⟨(some 11), none, .mv (.t 23)⟩]))))
noncomputable def l212_0 : RC := m212_0
noncomputable def b212 : RC := (.seq (.reg [] [⟨(some 4), none, .mv (.c (.v (.bool false)))⟩])
  (.seq (.reg [] [⟨(some 8), none, .mkmap⟩,
    ⟨(some 5), none, .mv (.t 8)⟩])
  (.seq (.seq (.reg [] [⟨(some 9), none, .mv (.t 0)⟩,
    ⟨(some 10), none, .len .sl (.t 9)⟩,
    ⟨(some 11), none, .mv (.c (.v (.int .i64 0)))⟩])
  (.block 0 (.loop [0, 1, 5, 9, 10, 11] [0, 5] l212_0)))
  (.seq (.reg [] [⟨(some 24), none, .mv (.t 5)⟩,
    ⟨(some 25), none, .len .map (.t 24)⟩,
    ⟨(some 26), none, .mv (.t 0)⟩,
    ⟨(some 27), none, .len .sl (.t 26)⟩,
    ⟨(some 28), none, .bin .eql (.t 25) (.t 27)⟩,
    ⟨(some 4), none, .mv (.t 28)⟩])
  .ret))))
noncomputable def r212 : RFn := ⟨29, b212, [.tmp 4]⟩
noncomputable def k212 : List (List Nat) := [[0, 1, 5, 9, 10, 11], [0, 5]]
theorem t212 : toRFn C k212 212 = some r212 := by kernel_rfl
/-- linkboy/object.ported$1 -/
noncomputable def b213 : RC := (.seq (.reg [] [⟨(some 1), none, .box (.t 0)⟩,
    ⟨(some 2), none, .box (.c (.agg [(.v (.int .i64 0)), (.v (.int .i64 0))]))⟩])
  (.seq (.reg [] [⟨(some 3), none, .fa 1 (.t 1)⟩,
    ⟨(some 4), none, .load none (.t 3)⟩,
    ⟨(some 5), none, .fa 2 (.t 1)⟩,
    ⟨(some 6), none, .load none (.t 5)⟩,
    ⟨(some 7), none, .build [(.v (.int .i64 0)), (.v (.int .i64 0))] [(0, 1, (.t 4)), (1, 1, (.t 6))]⟩,
    ⟨none, none, .store 2 (.t 2) (.t 7)⟩])
  .ret))
noncomputable def r213 : RFn := ⟨8, b213, [.cell 2 (some 2)]⟩
noncomputable def k213 : List (List Nat) := []
theorem t213 : toRFn C k213 213 = some r213 := by kernel_rfl
/-- linkboy/object.outer -/
noncomputable def b214 : RC := (.seq (.reg [] [⟨(some 1), none, .box (.t 0)⟩,
    ⟨(some 2), none, .mv (.c (.v (.bool false)))⟩])
  (.seq (.reg [] [⟨(some 3), none, .fa 7 (.t 1)⟩,
    ⟨(some 4), none, .load none (.t 3)⟩,
    ⟨(some 5), none, .fn (.func 246) [] [(.t 1)]⟩,
    ⟨(some 6), none, .call 109 [(.t 4), (.t 5)]⟩,
    ⟨(some 2), none, .mv (.t 6)⟩])
  .ret))
noncomputable def r214 : RFn := ⟨7, b214, [.tmp 2]⟩
noncomputable def k214 : List (List Nat) := []
theorem t214 : toRFn C k214 214 = some r214 := by kernel_rfl
/-- linkboy/addr.size -/
noncomputable def b219 : RC := (.seq (.reg [] [⟨(some 1), none, .box (.t 0)⟩,
    ⟨(some 2), none, .mv (.c (.v (.int .i64 0)))⟩])
  (.seq (.seq (.reg [] [⟨(some 3), none, .fa 0 (.t 1)⟩,
    ⟨(some 4), none, .load none (.t 3)⟩])
  (.cond (.t 4) (.seq (.reg [] [⟨(some 2), none, .mv (.c (.v (.int .i64 16)))⟩])
  .ret)
  .skip))
  (.seq (.reg [] [⟨(some 2), none, .mv (.c (.v (.int .i64 4)))⟩])
  .ret)))
noncomputable def r219 : RFn := ⟨5, b219, [.tmp 2]⟩
noncomputable def k219 : List (List Nat) := []
theorem t219 : toRFn C k219 219 = some r219 := by kernel_rfl
/-- strings.trimLeftByte -/
noncomputable def m220_0 : RC := (.seq (.seq (.reg [] [⟨(some 5), none, .mv (.t 0)⟩,
    ⟨(some 6), none, .len .str (.t 5)⟩,
    ⟨(some 7), none, .bin .gtr (.t 6) (.c (.v (.int .i64 0)))⟩,
    ⟨(some 8), none, .mv (.t 7)⟩,
    ⟨(some 9), (some (8, true)), .mv (.t 0)⟩,
    ⟨(some 10), (some (8, true)), .ixS (.t 9) (.c (.v (.int .i64 0)))⟩,
    ⟨(some 11), (some (8, true)), .mv (.t 1)⟩,
    ⟨(some 12), (some (8, true)), .bin .eql (.t 10) (.t 11)⟩,
    ⟨(some 13), none, .pick (.t 8) (.t 12) (.c (.v (.bool false)))⟩])
  (.cond (.t 13) .skip
  (.exit 0)))
  (.block 1 (.reg [] [⟨(some 14), none, .mv (.t 0)⟩,
    ⟨(some 15), none, .slStr (.t 14) (some (.c (.v (.int .i64 1)))) none⟩,
    ⟨(some 0), none, .mv (.t 15)⟩])))
noncomputable def l220_0 : RC := m220_0
noncomputable def b220 : RC := (.seq (.reg [] [⟨(some 4), none, .mv (.c (.v (.string ⟨⟨[]⟩⟩)))⟩])
  (.seq (.block 0 (.loop [0, 1] [0] l220_0))
  (.seq (.reg [] [⟨(some 16), none, .mv (.t 0)⟩,
    ⟨(some 4), none, .mv (.t 16)⟩])
  .ret)))
noncomputable def r220 : RFn := ⟨17, b220, [.tmp 4]⟩
noncomputable def k220 : List (List Nat) := [[0, 1], [0]]
theorem t220 : toRFn C k220 220 = some r220 := by kernel_rfl
/-- strings.trimRightByte -/
noncomputable def m221_0 : RC := (.seq (.seq (.reg [] [⟨(some 5), none, .mv (.t 0)⟩,
    ⟨(some 6), none, .len .str (.t 5)⟩,
    ⟨(some 7), none, .bin .gtr (.t 6) (.c (.v (.int .i64 0)))⟩,
    ⟨(some 8), none, .mv (.t 7)⟩,
    ⟨(some 9), (some (8, true)), .mv (.t 0)⟩,
    ⟨(some 10), (some (8, true)), .mv (.t 0)⟩,
    ⟨(some 11), (some (8, true)), .len .str (.t 10)⟩,
    ⟨(some 12), (some (8, true)), .bin .sub (.t 11) (.c (.v (.int .i64 1)))⟩,
    ⟨(some 13), (some (8, true)), .ixS (.t 9) (.t 12)⟩,
    ⟨(some 14), (some (8, true)), .mv (.t 1)⟩,
    ⟨(some 15), (some (8, true)), .bin .eql (.t 13) (.t 14)⟩,
    ⟨(some 16), none, .pick (.t 8) (.t 15) (.c (.v (.bool false)))⟩])
  (.cond (.t 16) .skip
  (.exit 0)))
  (.block 1 (.reg [] [⟨(some 17), none, .mv (.t 0)⟩,
    ⟨(some 18), none, .mv (.t 0)⟩,
    ⟨(some 19), none, .len .str (.t 18)⟩,
    ⟨(some 20), none, .bin .sub (.t 19) (.c (.v (.int .i64 1)))⟩,
    ⟨(some 21), none, .slStr (.t 17) none (some (.t 20))⟩,
    ⟨(some 0), none, .mv (.t 21)⟩])))
noncomputable def l221_0 : RC := m221_0
noncomputable def b221 : RC := (.seq (.reg [] [⟨(some 4), none, .mv (.c (.v (.string ⟨⟨[]⟩⟩)))⟩])
  (.seq (.block 0 (.loop [0, 1] [0] l221_0))
  (.seq (.reg [] [⟨(some 22), none, .mv (.t 0)⟩,
    ⟨(some 4), none, .mv (.t 22)⟩])
  .ret)))
noncomputable def r221 : RFn := ⟨23, b221, [.tmp 4]⟩
noncomputable def k221 : List (List Nat) := [[0, 1], [0]]
theorem t221 : toRFn C k221 221 = some r221 := by kernel_rfl
/-- strings.makeASCIISet -/
noncomputable def m222_0 : RC := (.seq (.seq (.reg [] [⟨(some 6), none, .mv (.t 4)⟩,
    ⟨(some 7), none, .mv (.t 0)⟩,
    ⟨(some 8), none, .len .str (.t 7)⟩,
    ⟨(some 9), none, .bin .lss (.t 6) (.t 8)⟩])
  (.cond (.t 9) .skip
  (.exit 0)))
  (.seq (.block 1 (.seq (.reg [] [⟨(some 12), none, .mv (.t 0)⟩,
    ⟨(some 13), none, .mv (.t 4)⟩,
    ⟨(some 14), none, .ixS (.t 12) (.t 13)⟩,
    ⟨(some 5), none, .mv (.t 14)⟩])
  (.seq (.seq (.reg [] [⟨(some 15), none, .mv (.t 5)⟩,
    ⟨(some 16), none, .bin .geq (.t 15) (.c (.v (.int .u8 128)))⟩])
  (.cond (.t 16) (.seq (.reg [] [⟨(some 17), none, .load (some 256) (.t 2)⟩,
    ⟨none, none, .store 256 (.t 2) (.t 17)⟩,
    ⟨(some 3), none, .mv (.c (.v (.bool false)))⟩])
  .ret)
  .skip))
  (.reg [] [⟨(some 18), none, .mv (.t 5)⟩,
    ⟨(some 19), none, .iaA 1 256 (.t 2) (.t 18)⟩,
    ⟨none, none, .store 1 (.t 19) (.c (.v (.bool true)))⟩]))))
  (.reg [] [⟨(some 10), none, .mv (.t 4)⟩,
    ⟨(some 11), none, .bin .add (.t 10) (.c (.v (.int .i64 1)))⟩,
    ⟨(some 4), none, .mv (.t 11)⟩])))
noncomputable def l222_0 : RC := m222_0
noncomputable def b222 : RC := (.seq (.reg [] [⟨(some 2), none, .box (.c (.agg z256_0))⟩,
    ⟨(some 3), none, .mv (.c (.v (.bool false)))⟩])
  (.seq (.seq (.reg [] [⟨(some 4), none, .mv (.c (.v (.int .i64 0)))⟩])
  (.block 0 (.loop [0, 2, 4] [2, 3] l222_0)))
  (.seq (.reg [] [⟨(some 20), none, .load (some 256) (.t 2)⟩,
    ⟨none, none, .store 256 (.t 2) (.t 20)⟩,
    ⟨(some 3), none, .mv (.c (.v (.bool true)))⟩])
  .ret)))
noncomputable def r222 : RFn := ⟨21, b222, [.cell 2 (some 256), .tmp 3]⟩
noncomputable def k222 : List (List Nat) := [[0, 2, 4], [2, 3]]
theorem t222 : toRFn C k222 222 = some r222 := by kernel_rfl
/-- strings.trimLeftASCII -/
noncomputable def m223_0 : RC := (.seq (.seq (.reg [] [⟨(some 5), none, .mv (.t 0)⟩,
    ⟨(some 6), none, .len .str (.t 5)⟩,
    ⟨(some 7), none, .bin .gtr (.t 6) (.c (.v (.int .i64 0)))⟩])
  (.cond (.t 7) .skip
  (.exit 0)))
  (.block 1 (.seq (.seq (.reg [] [⟨(some 8), none, .mv (.t 1)⟩,
    ⟨(some 9), none, .mv (.t 0)⟩,
    ⟨(some 10), none, .ixS (.t 9) (.c (.v (.int .i64 0)))⟩,
    ⟨(some 11), none, .call 248 [(.t 8), (.t 10)]⟩,
    ⟨(some 12), none, .un .not (.t 11)⟩])
  (.cond (.t 12) (.exit 0)
  .skip))
  (.reg [] [⟨(some 13), none, .mv (.t 0)⟩,
    ⟨(some 14), none, .slStr (.t 13) (some (.c (.v (.int .i64 1)))) none⟩,
    ⟨(some 0), none, .mv (.t 14)⟩]))))
noncomputable def l223_0 : RC := m223_0
noncomputable def b223 : RC := (.seq (.reg [] [⟨(some 4), none, .mv (.c (.v (.string ⟨⟨[]⟩⟩)))⟩])
  (.seq (.block 0 (.loop [0, 1] [0] l223_0))
  (.seq (.reg [] [⟨(some 15), none, .mv (.t 0)⟩,
    ⟨(some 4), none, .mv (.t 15)⟩])
  .ret)))
noncomputable def r223 : RFn := ⟨16, b223, [.tmp 4]⟩
noncomputable def k223 : List (List Nat) := [[0, 1], [0]]
theorem t223 : toRFn C k223 223 = some r223 := by kernel_rfl
/-- strings.trimRightASCII -/
noncomputable def m224_0 : RC := (.seq (.seq (.reg [] [⟨(some 5), none, .mv (.t 0)⟩,
    ⟨(some 6), none, .len .str (.t 5)⟩,
    ⟨(some 7), none, .bin .gtr (.t 6) (.c (.v (.int .i64 0)))⟩])
  (.cond (.t 7) .skip
  (.exit 0)))
  (.block 1 (.seq (.seq (.reg [] [⟨(some 8), none, .mv (.t 1)⟩,
    ⟨(some 9), none, .mv (.t 0)⟩,
    ⟨(some 10), none, .mv (.t 0)⟩,
    ⟨(some 11), none, .len .str (.t 10)⟩,
    ⟨(some 12), none, .bin .sub (.t 11) (.c (.v (.int .i64 1)))⟩,
    ⟨(some 13), none, .ixS (.t 9) (.t 12)⟩,
    ⟨(some 14), none, .call 248 [(.t 8), (.t 13)]⟩,
    ⟨(some 15), none, .un .not (.t 14)⟩])
  (.cond (.t 15) (.exit 0)
  .skip))
  (.reg [] [⟨(some 16), none, .mv (.t 0)⟩,
    ⟨(some 17), none, .mv (.t 0)⟩,
    ⟨(some 18), none, .len .str (.t 17)⟩,
    ⟨(some 19), none, .bin .sub (.t 18) (.c (.v (.int .i64 1)))⟩,
    ⟨(some 20), none, .slStr (.t 16) none (some (.t 19))⟩,
    ⟨(some 0), none, .mv (.t 20)⟩]))))
noncomputable def l224_0 : RC := m224_0
noncomputable def b224 : RC := (.seq (.reg [] [⟨(some 4), none, .mv (.c (.v (.string ⟨⟨[]⟩⟩)))⟩])
  (.seq (.block 0 (.loop [0, 1] [0] l224_0))
  (.seq (.reg [] [⟨(some 21), none, .mv (.t 0)⟩,
    ⟨(some 4), none, .mv (.t 21)⟩])
  .ret)))
noncomputable def r224 : RFn := ⟨22, b224, [.tmp 4]⟩
noncomputable def k224 : List (List Nat) := [[0, 1], [0]]
theorem t224 : toRFn C k224 224 = some r224 := by kernel_rfl
/-- strings.trimLeftUnicode -/
noncomputable def m225_0 : RC := (.seq (.seq (.reg [] [⟨(some 7), none, .mv (.t 0)⟩,
    ⟨(some 8), none, .len .str (.t 7)⟩,
    ⟨(some 9), none, .bin .gtr (.t 8) (.c (.v (.int .i64 0)))⟩])
  (.cond (.t 9) .skip
  (.exit 0)))
  (.block 1 (.seq (.reg [] [⟨(some 11), none, .mv (.t 0)⟩,
    ⟨(some 12), none, .call 249 [(.t 11)]⟩,
    ⟨(some 10), none, .mv (.t 12)⟩,
    ⟨(some 13), none, .ext (.t 10) 0⟩,
    ⟨(some 14), none, .ext (.t 10) 1⟩,
    ⟨(some 5), none, .mv (.t 13)⟩,
    ⟨(some 6), none, .mv (.t 14)⟩])
  (.seq (.seq (.reg [] [⟨(some 15), none, .mv (.t 1)⟩,
    ⟨(some 16), none, .mv (.t 5)⟩,
    ⟨(some 17), none, .call 250 [(.t 15), (.t 16)]⟩,
    ⟨(some 18), none, .un .not (.t 17)⟩])
  (.cond (.t 18) (.exit 0)
  .skip))
  (.reg [] [⟨(some 19), none, .mv (.t 0)⟩,
    ⟨(some 20), none, .mv (.t 6)⟩,
    ⟨(some 21), none, .slStr (.t 19) (some (.t 20)) none⟩,
    ⟨(some 0), none, .mv (.t 21)⟩])))))
noncomputable def l225_0 : RC := m225_0
noncomputable def b225 : RC := (.seq (.reg [] [⟨(some 4), none, .mv (.c (.v (.string ⟨⟨[]⟩⟩)))⟩])
  (.seq (.block 0 (.loop [0, 1] [0] l225_0))
  (.seq (.reg [] [⟨(some 22), none, .mv (.t 0)⟩,
    ⟨(some 4), none, .mv (.t 22)⟩])
  .ret)))
noncomputable def r225 : RFn := ⟨23, b225, [.tmp 4]⟩
noncomputable def k225 : List (List Nat) := [[0, 1], [0]]
theorem t225 : toRFn C k225 225 = some r225 := by kernel_rfl
/-- strings.trimRightUnicode -/
noncomputable def m226_0 : RC := (.seq (.seq (.reg [] [⟨(some 7), none, .mv (.t 0)⟩,
    ⟨(some 8), none, .len .str (.t 7)⟩,
    ⟨(some 9), none, .bin .gtr (.t 8) (.c (.v (.int .i64 0)))⟩])
  (.cond (.t 9) .skip
  (.exit 0)))
  (.block 1 (.seq (.reg [] [⟨(some 10), none, .mv (.t 0)⟩,
    ⟨(some 11), none, .mv (.t 0)⟩,
    ⟨(some 12), none, .len .str (.t 11)⟩,
    ⟨(some 13), none, .bin .sub (.t 12) (.c (.v (.int .i64 1)))⟩,
    ⟨(some 14), none, .ixS (.t 10) (.t 13)⟩,
    ⟨(some 15), none, .cint .i32 (.t 14)⟩,
    ⟨(some 5), none, .mv (.t 15)⟩,
    ⟨(some 6), none, .mv (.c (.v (.int .i64 1)))⟩])
  (.seq (.seq (.reg [] [⟨(some 16), none, .mv (.t 5)⟩,
    ⟨(some 17), none, .bin .geq (.t 16) (.c (.v (.int .i32 128)))⟩])
  (.cond (.t 17) (.reg [] [⟨(some 19), none, .mv (.t 0)⟩,
    ⟨(some 20), none, .call 251 [(.t 19)]⟩,
    ⟨(some 18), none, .mv (.t 20)⟩,
    ⟨(some 21), none, .ext (.t 18) 0⟩,
    ⟨(some 22), none, .ext (.t 18) 1⟩,
    ⟨(some 5), none, .mv (.t 21)⟩,
    ⟨(some 6), none, .mv (.t 22)⟩])
  .skip))
  (.seq (.seq (.reg [] [⟨(some 23), none, .mv (.t 1)⟩,
    ⟨(some 24), none, .mv (.t 5)⟩,
    ⟨(some 25), none, .call 250 [(.t 23), (.t 24)]⟩,
    ⟨(some 26), none, .un .not (.t 25)⟩])
  (.cond (.t 26) (.exit 0)
  .skip))
  (.reg [] [⟨(some 27), none, .mv (.t 0)⟩,
    ⟨(some 28), none, .mv (.t 0)⟩,
    ⟨(some 29), none, .len .str (.t 28)⟩,
    ⟨(some 30), none, .mv (.t 6)⟩,
    ⟨(some 31), none, .bin .sub (.t 29) (.t 30)⟩,
    ⟨(some 32), none, .slStr (.t 27) none (some (.t 31))⟩,
    ⟨(some 0), none, .mv (.t 32)⟩]))))))
noncomputable def l226_0 : RC := m226_0
noncomputable def b226 : RC := (.seq (.reg [] [⟨(some 4), none, .mv (.c (.v (.string ⟨⟨[]⟩⟩)))⟩])
  (.seq (.block 0 (.loop [0, 1] [0] l226_0))
  (.seq (.reg [] [⟨(some 33), none, .mv (.t 0)⟩,
    ⟨(some 4), none, .mv (.t 33)⟩])
  .ret)))
noncomputable def r226 : RFn := ⟨34, b226, [.tmp 4]⟩
noncomputable def k226 : List (List Nat) := [[0, 1], [0]]
theorem t226 : toRFn C k226 226 = some r226 := by kernel_rfl
/-- internal/stringslite.HasPrefix -/
noncomputable def b227 : RC := (.seq (.reg [] [⟨(some 4), none, .mv (.c (.v (.bool false)))⟩])
  (.seq (.reg [] [⟨(some 5), none, .mv (.t 0)⟩,
    ⟨(some 6), none, .len .str (.t 5)⟩,
    ⟨(some 7), none, .mv (.t 1)⟩,
    ⟨(some 8), none, .len .str (.t 7)⟩,
    ⟨(some 9), none, .bin .geq (.t 6) (.t 8)⟩,
    ⟨(some 10), none, .mv (.t 9)⟩,
    ⟨(some 11), (some (10, true)), .mv (.t 0)⟩,
    ⟨(some 12), (some (10, true)), .mv (.t 1)⟩,
    ⟨(some 13), (some (10, true)), .len .str (.t 12)⟩,
    ⟨(some 14), (some (10, true)), .slStr (.t 11) none (some (.t 13))⟩,
    ⟨(some 15), (some (10, true)), .mv (.t 1)⟩,
    ⟨(some 16), (some (10, true)), .bin .eql (.t 14) (.t 15)⟩,
    ⟨(some 17), none, .pick (.t 10) (.t 16) (.c (.v (.bool false)))⟩,
    ⟨(some 4), none, .mv (.t 17)⟩])
  .ret))
noncomputable def r227 : RFn := ⟨18, b227, [.tmp 4]⟩
noncomputable def k227 : List (List Nat) := []
theorem t227 : toRFn C k227 227 = some r227 := by kernel_rfl
/-- internal/stringslite.HasSuffix -/
noncomputable def b228 : RC := (.seq (.reg [] [⟨(some 4), none, .mv (.c (.v (.bool false)))⟩])
  (.seq (.reg [] [⟨(some 5), none, .mv (.t 0)⟩,
    ⟨(some 6), none, .len .str (.t 5)⟩,
    ⟨(some 7), none, .mv (.t 1)⟩,
    ⟨(some 8), none, .len .str (.t 7)⟩,
    ⟨(some 9), none, .bin .geq (.t 6) (.t 8)⟩,
    ⟨(some 10), none, .mv (.t 9)⟩,
    ⟨(some 11), (some (10, true)), .mv (.t 0)⟩,
    ⟨(some 12), (some (10, true)), .mv (.t 0)⟩,
    ⟨(some 13), (some (10, true)), .len .str (.t 12)⟩,
    ⟨(some 14), (some (10, true)), .mv (.t 1)⟩,
    ⟨(some 15), (some (10, true)), .len .str (.t 14)⟩,
    ⟨(some 16), (some (10, true)), .bin .sub (.t 13) (.t 15)⟩,
    ⟨(some 17), (some (10, true)), .slStr (.t 11) (some (.t 16)) none⟩,
    ⟨(some 18), (some (10, true)), .mv (.t 1)⟩,
    ⟨(some 19), (some (10, true)), .bin .eql (.t 17) (.t 18)⟩,
    ⟨(some 20), none, .pick (.t 10) (.t 19) (.c (.v (.bool false)))⟩,
    ⟨(some 4), none, .mv (.t 20)⟩])
  .ret))
noncomputable def r228 : RFn := ⟨21, b228, [.tmp 4]⟩
noncomputable def k228 : List (List Nat) := []
theorem t228 : toRFn C k228 228 = some r228 := by kernel_rfl
/-- slices.ContainsFunc[[]linkboy/api.Addr,linkboy/api.Addr] -/
noncomputable def b229 : RC := (.seq (.reg [] [⟨(some 4), none, .mv (.c (.v (.bool false)))⟩])
  (.seq (.reg [] [⟨(some 5), none, .mv (.t 0)⟩,
    ⟨(some 6), none, .mv (.t 1)⟩,
    ⟨(some 7), none, .call 252 [(.t 5), (.t 6)]⟩,
    ⟨(some 8), none, .bin .geq (.t 7) (.c (.v (.int .i64 0)))⟩,
    ⟨(some 4), none, .mv (.t 8)⟩])
  .ret))
noncomputable def r229 : RFn := ⟨9, b229, [.tmp 4]⟩
noncomputable def k229 : List (List Nat) := []
theorem t229 : toRFn C k229 229 = some r229 := by kernel_rfl
/-- linkboy/object.every[linkboy/api.Addr]$1 -/
noncomputable def b230 : RC := (.seq (.reg [] [⟨(some 2), none, .box (.t 0)⟩,
    ⟨(some 3), none, .mv (.c (.v (.bool false)))⟩])
  (.seq (.reg [] [⟨(some 4), none, .load none (.t 1)⟩,
    ⟨(some 5), none, .load (some 17) (.t 2)⟩,
    ⟨(some 6), none, .callv (.t 4) [(.t 5)]⟩,
    ⟨(some 7), none, .un .not (.t 6)⟩,
    ⟨(some 3), none, .mv (.t 7)⟩])
  .ret))
noncomputable def r230 : RFn := ⟨8, b230, [.tmp 3]⟩
noncomputable def k230 : List (List Nat) := []
theorem t230 : toRFn C k230 230 = some r230 := by kernel_rfl
/-- slices.IndexFunc[[]linkboy/object.Port,linkboy/object.Port] -/
noncomputable def m231_0 : RC := (.seq (.reg [] [⟨(some 9), none, .bin .lss (.t 8) (.t 7)⟩])
  (.seq (.cond (.t 9) .skip
  (.exit 0))
  (.seq (.block 1 (.seq (.reg [] [⟨(some 10), none, .mv (.t 8)⟩,
    ⟨(some 5), none, .mv (.t 10)⟩])
  (.seq (.reg [] [⟨(some 11), none, .mv (.t 1)⟩,
    ⟨(some 12), none, .mv (.t 0)⟩,
    ⟨(some 13), none, .mv (.t 5)⟩,
    ⟨(some 14), none, .iaS 4 (.t 12) (.t 13)⟩,
    ⟨(some 15), none, .load (some 4) (.t 14)⟩,
    ⟨(some 16), none, .callv (.t 11) [(.t 15)]⟩])
  (.cond (.t 16) (.seq (.reg [] [⟨(some 17), none, .mv (.t 5)⟩,
    ⟨(some 4), none, .mv (.t 17)⟩])
  .ret)
  .skip))))
  (.reg [] [⟨(some 18), none, .bin .add (.t 8) (.c (.v (.int .i64 1)))⟩,
    ⟨(some 8), none, .mv (.t 18)⟩]))))
noncomputable def l231_0 : RC := m231_0
noncomputable def b231 : RC := (.seq (.reg [] [⟨(some 4), none, .mv (.c (.v (.int .i64 0)))⟩])
  (.seq (.seq (.reg [] [⟨(some 6), none, .mv (.t 0)⟩,
    ⟨(some 7), none, .len .sl (.t 6)⟩,
    ⟨(some 8), none, .mv (.c (.v (.int .i64 0)))⟩])
  (.block 0 (.loop [0, 1, 7, 8] [4] l231_0)))
  (.seq (.reg [] [⟨(some 4), none, .mv (.c (.v (.int .i64 (-1))))⟩])
  .ret)))
noncomputable def r231 : RFn := ⟨19, b231, [.tmp 4]⟩
noncomputable def k231 : List (List Nat) := [[0, 1, 7, 8], [4]]
theorem t231 : toRFn C k231 231 = some r231 := by kernel_rfl
/-- slices.IndexFunc[[]linkboy/object.Endpoint,linkboy/object.Endpoint] -/
noncomputable def m232_0 : RC := (.seq (.reg [] [⟨(some 9), none, .bin .lss (.t 8) (.t 7)⟩])
  (.seq (.cond (.t 9) .skip
  (.exit 0))
  (.seq (.block 1 (.seq (.reg [] [⟨(some 10), none, .mv (.t 8)⟩,
    ⟨(some 5), none, .mv (.t 10)⟩])
  (.seq (.reg [] [⟨(some 11), none, .mv (.t 1)⟩,
    ⟨(some 12), none, .mv (.t 0)⟩,
    ⟨(some 13), none, .mv (.t 5)⟩,
    ⟨(some 14), none, .iaS 22 (.t 12) (.t 13)⟩,
    ⟨(some 15), none, .load (some 22) (.t 14)⟩,
    ⟨(some 16), none, .callv (.t 11) [(.t 15)]⟩])
  (.cond (.t 16) (.seq (.reg [] [⟨(some 17), none, .mv (.t 5)⟩,
    ⟨(some 4), none, .mv (.t 17)⟩])
  .ret)
  .skip))))
  (.reg [] [⟨(some 18), none, .bin .add (.t 8) (.c (.v (.int .i64 1)))⟩,
    ⟨(some 8), none, .mv (.t 18)⟩]))))
noncomputable def l232_0 : RC := m232_0
noncomputable def b232 : RC := (.seq (.reg [] [⟨(some 4), none, .mv (.c (.v (.int .i64 0)))⟩])
  (.seq (.seq (.reg [] [⟨(some 6), none, .mv (.t 0)⟩,
    ⟨(some 7), none, .len .sl (.t 6)⟩,
    ⟨(some 8), none, .mv (.c (.v (.int .i64 0)))⟩])
  (.block 0 (.loop [0, 1, 7, 8] [4] l232_0)))
  (.seq (.reg [] [⟨(some 4), none, .mv (.c (.v (.int .i64 (-1))))⟩])
  .ret)))
noncomputable def r232 : RFn := ⟨19, b232, [.tmp 4]⟩
noncomputable def k232 : List (List Nat) := [[0, 1, 7, 8], [4]]
theorem t232 : toRFn C k232 232 = some r232 := by kernel_rfl
/-- bytes.trimLeftByte -/
noncomputable def m233_0 : RC := (.seq (.seq (.reg [] [⟨(some 5), none, .mv (.t 0)⟩,
    ⟨(some 6), none, .len .sl (.t 5)⟩,
    ⟨(some 7), none, .bin .gtr (.t 6) (.c (.v (.int .i64 0)))⟩,
    ⟨(some 8), none, .mv (.t 7)⟩,
    ⟨(some 9), (some (8, true)), .mv (.t 0)⟩,
    ⟨(some 10), (some (8, true)), .iaS 1 (.t 9) (.c (.v (.int .i64 0)))⟩,
    ⟨(some 11), (some (8, true)), .load none (.t 10)⟩,
    ⟨(some 12), (some (8, true)), .mv (.t 1)⟩,
    ⟨(some 13), (some (8, true)), .bin .eql (.t 11) (.t 12)⟩,
    ⟨(some 14), none, .pick (.t 8) (.t 13) (.c (.v (.bool false)))⟩])
  (.cond (.t 14) .skip
  (.exit 0)))
  (.block 1 (.reg [] [⟨(some 15), none, .mv (.t 0)⟩,
    ⟨(some 16), none, .slX 1 (.t 15) (some (.c (.v (.int .i64 1)))) none none⟩,
    ⟨(some 0), none, .mv (.t 16)⟩])))
noncomputable def l233_0 : RC := m233_0
noncomputable def b233 : RC := (.seq (.reg [] [⟨(some 4), none, .mv (.c (.sl [] .nil))⟩])
  (.seq (.block 0 (.loop [0, 1] [0] l233_0))
  (.seq (.seq (.reg [] [⟨(some 17), none, .mv (.t 0)⟩,
    ⟨(some 18), none, .len .sl (.t 17)⟩,
    ⟨(some 19), none, .bin .eql (.t 18) (.c (.v (.int .i64 0)))⟩])
  (.cond (.t 19) (.seq (.reg [] [⟨(some 4), none, .mv (.c (.sl [] .nil))⟩])
  .ret)
  .skip))
  (.seq (.reg [] [⟨(some 20), none, .mv (.t 0)⟩,
    ⟨(some 4), none, .mv (.t 20)⟩])
  .ret))))
noncomputable def r233 : RFn := ⟨21, b233, [.tmp 4]⟩
noncomputable def k233 : List (List Nat) := [[0, 1], [0]]
theorem t233 : toRFn C k233 233 = some r233 := by kernel_rfl
/-- bytes.trimRightByte -/
noncomputable def m234_0 : RC := (.seq (.seq (.reg [] [⟨(some 5), none, .mv (.t 0)⟩,
    ⟨(some 6), none, .len .sl (.t 5)⟩,
    ⟨(some 7), none, .bin .gtr (.t 6) (.c (.v (.int .i64 0)))⟩,
    ⟨(some 8), none, .mv (.t 7)⟩,
    ⟨(some 9), (some (8, true)), .mv (.t 0)⟩,
    ⟨(some 10), (some (8, true)), .mv (.t 0)⟩,
    ⟨(some 11), (some (8, true)), .len .sl (.t 10)⟩,
    ⟨(some 12), (some (8, true)), .bin .sub (.t 11) (.c (.v (.int .i64 1)))⟩,
    ⟨(some 13), (some (8, true)), .iaS 1 (.t 9) (.t 12)⟩,
    ⟨(some 14), (some (8, true)), .load none (.t 13)⟩,
    ⟨(some 15), (some (8, true)), .mv (.t 1)⟩,
    ⟨(some 16), (some (8, true)), .bin .eql (.t 14) (.t 15)⟩,
    ⟨(some 17), none, .pick (.t 8) (.t 16) (.c (.v (.bool false)))⟩])
  (.cond (.t 17) .skip
  (.exit 0)))
  (.block 1 (.reg [] [⟨(some 18), none, .mv (.t 0)⟩,
    ⟨(some 19), none, .mv (.t 0)⟩,
    ⟨(some 20), none, .len .sl (.t 19)⟩,
    ⟨(some 21), none, .bin .sub (.t 20) (.c (.v (.int .i64 1)))⟩,
    ⟨(some 22), none, .slX 1 (.t 18) none (some (.t 21)) none⟩,
    ⟨(some 0), none, .mv (.t 22)⟩])))
noncomputable def l234_0 : RC := m234_0
noncomputable def b234 : RC := (.seq (.reg [] [⟨(some 4), none, .mv (.c (.sl [] .nil))⟩])
  (.seq (.block 0 (.loop [0, 1] [0] l234_0))
  (.seq (.reg [] [⟨(some 23), none, .mv (.t 0)⟩,
    ⟨(some 4), none, .mv (.t 23)⟩])
  .ret)))
noncomputable def r234 : RFn := ⟨24, b234, [.tmp 4]⟩
noncomputable def k234 : List (List Nat) := [[0, 1], [0]]
theorem t234 : toRFn C k234 234 = some r234 := by kernel_rfl
/-- bytes.makeASCIISet -/
noncomputable def m235_0 : RC := (.seq (.seq (.reg [] [⟨(some 6), none, .mv (.t 4)⟩,
    ⟨(some 7), none, .mv (.t 0)⟩,
    ⟨(some 8), none, .len .str (.t 7)⟩,
    ⟨(some 9), none, .bin .lss (.t 6) (.t 8)⟩])
  (.cond (.t 9) .skip
  (.exit 0)))
  (.seq (.block 1 (.seq (.reg [] [⟨(some 12), none, .mv (.t 0)⟩,
    ⟨(some 13), none, .mv (.t 4)⟩,
    ⟨(some 14), none, .ixS (.t 12) (.t 13)⟩,
    ⟨(some 5), none, .mv (.t 14)⟩])
  (.seq (.seq (.reg [] [⟨(some 15), none, .mv (.t 5)⟩,
    ⟨(some 16), none, .bin .geq (.t 15) (.c (.v (.int .u8 128)))⟩])
  (.cond (.t 16) (.seq (.reg [] [⟨(some 17), none, .load (some 256) (.t 2)⟩,
    ⟨none, none, .store 256 (.t 2) (.t 17)⟩,
    ⟨(some 3), none, .mv (.c (.v (.bool false)))⟩])
  .ret)
  .skip))
  (.reg [] [⟨(some 18), none, .mv (.t 5)⟩,
    ⟨(some 19), none, .iaA 1 256 (.t 2) (.t 18)⟩,
    ⟨none, none, .store 1 (.t 19) (.c (.v (.bool true)))⟩]))))
  (.reg [] [⟨(some 10), none, .mv (.t 4)⟩,
    ⟨(some 11), none, .bin .add (.t 10) (.c (.v (.int .i64 1)))⟩,
    ⟨(some 4), none, .mv (.t 11)⟩])))
noncomputable def l235_0 : RC := m235_0
noncomputable def b235 : RC := (.seq (.reg [] [⟨(some 2), none, .box (.c (.agg z256_0))⟩,
    ⟨(some 3), none, .mv (.c (.v (.bool false)))⟩])
  (.seq (.seq (.reg [] [⟨(some 4), none, .mv (.c (.v (.int .i64 0)))⟩])
  (.block 0 (.loop [0, 2, 4] [2, 3] l235_0)))
  (.seq (.reg [] [⟨(some 20), none, .load (some 256) (.t 2)⟩,
    ⟨none, none, .store 256 (.t 2) (.t 20)⟩,
    ⟨(some 3), none, .mv (.c (.v (.bool true)))⟩])
  .ret)))
noncomputable def r235 : RFn := ⟨21, b235, [.cell 2 (some 256), .tmp 3]⟩
noncomputable def k235 : List (List Nat) := [[0, 2, 4], [2, 3]]
theorem t235 : toRFn C k235 235 = some r235 := by kernel_rfl
/-- bytes.trimLeftASCII -/
noncomputable def m236_0 : RC := (.seq (.seq (.reg [] [⟨(some 5), none, .mv (.t 0)⟩,
    ⟨(some 6), none, .len .sl (.t 5)⟩,
    ⟨(some 7), none, .bin .gtr (.t 6) (.c (.v (.int .i64 0)))⟩])
  (.cond (.t 7) .skip
  (.exit 0)))
  (.block 1 (.seq (.seq (.reg [] [⟨(some 8), none, .mv (.t 1)⟩,
    ⟨(some 9), none, .mv (.t 0)⟩,
    ⟨(some 10), none, .iaS 1 (.t 9) (.c (.v (.int .i64 0)))⟩,
    ⟨(some 11), none, .load none (.t 10)⟩,
    ⟨(some 12), none, .call 253 [(.t 8), (.t 11)]⟩,
    ⟨(some 13), none, .un .not (.t 12)⟩])
  (.cond (.t 13) (.exit 0)
  .skip))
  (.reg [] [⟨(some 14), none, .mv (.t 0)⟩,
    ⟨(some 15), none, .slX 1 (.t 14) (some (.c (.v (.int .i64 1)))) none none⟩,
    ⟨(some 0), none, .mv (.t 15)⟩]))))
noncomputable def l236_0 : RC := m236_0
noncomputable def b236 : RC := (.seq (.reg [] [⟨(some 4), none, .mv (.c (.sl [] .nil))⟩])
  (.seq (.block 0 (.loop [0, 1] [0] l236_0))
  (.seq (.seq (.reg [] [⟨(some 16), none, .mv (.t 0)⟩,
    ⟨(some 17), none, .len .sl (.t 16)⟩,
    ⟨(some 18), none, .bin .eql (.t 17) (.c (.v (.int .i64 0)))⟩])
  (.cond (.t 18) (.seq (.reg [] [⟨(some 4), none, .mv (.c (.sl [] .nil))⟩])
  .ret)
  .skip))
  (.seq (.reg [] [⟨(some 19), none, .mv (.t 0)⟩,
    ⟨(some 4), none, .mv (.t 19)⟩])
  .ret))))
noncomputable def r236 : RFn := ⟨20, b236, [.tmp 4]⟩
noncomputable def k236 : List (List Nat) := [[0, 1], [0]]
theorem t236 : toRFn C k236 236 = some r236 := by kernel_rfl
/-- bytes.trimRightASCII -/
noncomputable def m237_0 : RC := (.seq (.seq (.reg [] [⟨(some 5), none, .mv (.t 0)⟩,
    ⟨(some 6), none, .len .sl (.t 5)⟩,
    ⟨(some 7), none, .bin .gtr (.t 6) (.c (.v (.int .i64 0)))⟩])
  (.cond (.t 7) .skip
  (.exit 0)))
  (.block 1 (.seq (.seq (.reg [] [⟨(some 8), none, .mv (.t 1)⟩,
    ⟨(some 9), none, .mv (.t 0)⟩,
    ⟨(some 10), none, .mv (.t 0)⟩,
    ⟨(some 11), none, .len .sl (.t 10)⟩,
    ⟨(some 12), none, .bin .sub (.t 11) (.c (.v (.int .i64 1)))⟩,
    ⟨(some 13), none, .iaS 1 (.t 9) (.t 12)⟩,
    ⟨(some 14), none, .load none (.t 13)⟩,
    ⟨(some 15), none, .call 253 [(.t 8), (.t 14)]⟩,
    ⟨(some 16), none, .un .not (.t 15)⟩])
  (.cond (.t 16) (.exit 0)
  .skip))
  (.reg [] [⟨(some 17), none, .mv (.t 0)⟩,
    ⟨(some 18), none, .mv (.t 0)⟩,
    ⟨(some 19), none, .len .sl (.t 18)⟩,
    ⟨(some 20), none, .bin .sub (.t 19) (.c (.v (.int .i64 1)))⟩,
    ⟨(some 21), none, .slX 1 (.t 17) none (some (.t 20)) none⟩,
    ⟨(some 0), none, .mv (.t 21)⟩]))))
noncomputable def l237_0 : RC := m237_0
noncomputable def b237 : RC := (.seq (.reg [] [⟨(some 4), none, .mv (.c (.sl [] .nil))⟩])
  (.seq (.block 0 (.loop [0, 1] [0] l237_0))
  (.seq (.reg [] [⟨(some 22), none, .mv (.t 0)⟩,
    ⟨(some 4), none, .mv (.t 22)⟩])
  .ret)))
noncomputable def r237 : RFn := ⟨23, b237, [.tmp 4]⟩
noncomputable def k237 : List (List Nat) := [[0, 1], [0]]
theorem t237 : toRFn C k237 237 = some r237 := by kernel_rfl
/-- bytes.trimLeftUnicode -/
noncomputable def m238_0 : RC := (.seq (.seq (.reg [] [⟨(some 7), none, .mv (.t 0)⟩,
    ⟨(some 8), none, .len .sl (.t 7)⟩,
    ⟨(some 9), none, .bin .gtr (.t 8) (.c (.v (.int .i64 0)))⟩])
  (.cond (.t 9) .skip
  (.exit 0)))
  (.block 1 (.seq (.reg [] [⟨(some 11), none, .mv (.t 0)⟩,
    ⟨(some 12), none, .call 254 [(.t 11)]⟩,
    ⟨(some 10), none, .mv (.t 12)⟩,
    ⟨(some 13), none, .ext (.t 10) 0⟩,
    ⟨(some 14), none, .ext (.t 10) 1⟩,
    ⟨(some 5), none, .mv (.t 13)⟩,
    ⟨(some 6), none, .mv (.t 14)⟩])
  (.seq (.seq (.reg [] [⟨(some 15), none, .mv (.t 1)⟩,
    ⟨(some 16), none, .mv (.t 5)⟩,
    ⟨(some 17), none, .call 255 [(.t 15), (.t 16)]⟩,
    ⟨(some 18), none, .un .not (.t 17)⟩])
  (.cond (.t 18) (.exit 0)
  .skip))
  (.reg [] [⟨(some 19), none, .mv (.t 0)⟩,
    ⟨(some 20), none, .mv (.t 6)⟩,
    ⟨(some 21), none, .slX 1 (.t 19) (some (.t 20)) none none⟩,
    ⟨(some 0), none, .mv (.t 21)⟩])))))
noncomputable def l238_0 : RC := m238_0
noncomputable def b238 : RC := (.seq (.reg [] [⟨(some 4), none, .mv (.c (.sl [] .nil))⟩])
  (.seq (.block 0 (.loop [0, 1] [0] l238_0))
  (.seq (.seq (.reg [] [⟨(some 22), none, .mv (.t 0)⟩,
    ⟨(some 23), none, .len .sl (.t 22)⟩,
    ⟨(some 24), none, .bin .eql (.t 23) (.c (.v (.int .i64 0)))⟩])
  (.cond (.t 24) (.seq (.reg [] [⟨(some 4), none, .mv (.c (.sl [] .nil))⟩])
  .ret)
  .skip))
  (.seq (.reg [] [⟨(some 25), none, .mv (.t 0)⟩,
    ⟨(some 4), none, .mv (.t 25)⟩])
  .ret))))
noncomputable def r238 : RFn := ⟨26, b238, [.tmp 4]⟩
noncomputable def k238 : List (List Nat) := [[0, 1], [0]]
theorem t238 : toRFn C k238 238 = some r238 := by kernel_rfl
/-- bytes.trimRightUnicode -/
noncomputable def m239_0 : RC := (.seq (.seq (.reg [] [⟨(some 7), none, .mv (.t 0)⟩,
    ⟨(some 8), none, .len .sl (.t 7)⟩,
    ⟨(some 9), none, .bin .gtr (.t 8) (.c (.v (.int .i64 0)))⟩])
  (.cond (.t 9) .skip
  (.exit 0)))
  (.block 1 (.seq (.reg [] [⟨(some 10), none, .mv (.t 0)⟩,
    ⟨(some 11), none, .mv (.t 0)⟩,
    ⟨(some 12), none, .len .sl (.t 11)⟩,
    ⟨(some 13), none, .bin .sub (.t 12) (.c (.v (.int .i64 1)))⟩,
    ⟨(some 14), none, .iaS 1 (.t 10) (.t 13)⟩,
    ⟨(some 15), none, .load none (.t 14)⟩,
    ⟨(some 16), none, .cint .i32 (.t 15)⟩,
    ⟨(some 5), none, .mv (.t 16)⟩,
    ⟨(some 6), none, .mv (.c (.v (.int .i64 1)))⟩])
  (.seq (.seq (.reg [] [⟨(some 17), none, .mv (.t 5)⟩,
    ⟨(some 18), none, .bin .geq (.t 17) (.c (.v (.int .i32 128)))⟩])
  (.cond (.t 18) (.reg [] [⟨(some 20), none, .mv (.t 0)⟩,
    ⟨(some 21), none, .call 256 [(.t 20)]⟩,
    ⟨(some 19), none, .mv (.t 21)⟩,
    ⟨(some 22), none, .ext (.t 19) 0⟩,
    ⟨(some 23), none, .ext (.t 19) 1⟩,
    ⟨(some 5), none, .mv (.t 22)⟩,
    ⟨(some 6), none, .mv (.t 23)⟩])
  .skip))
  (.seq (.seq (.reg [] [⟨(some 24), none, .mv (.t 1)⟩,
    ⟨(some 25), none, .mv (.t 5)⟩,
    ⟨(some 26), none, .call 255 [(.t 24), (.t 25)]⟩,
    ⟨(some 27), none, .un .not (.t 26)⟩])
  (.cond (.t 27) (.exit 0)
  .skip))
  (.reg [] [⟨(some 28), none, .mv (.t 0)⟩,
    ⟨(some 29), none, .mv (.t 0)⟩,
    ⟨(some 30), none, .len .sl (.t 29)⟩,
    ⟨(some 31), none, .mv (.t 6)⟩,
    ⟨(some 32), none, .bin .sub (.t 30) (.t 31)⟩,
    ⟨(some 33), none, .slX 1 (.t 28) none (some (.t 32)) none⟩,
    ⟨(some 0), none, .mv (.t 33)⟩]))))))
noncomputable def l239_0 : RC := m239_0
noncomputable def b239 : RC := (.seq (.reg [] [⟨(some 4), none, .mv (.c (.sl [] .nil))⟩])
  (.seq (.block 0 (.loop [0, 1] [0] l239_0))
  (.seq (.reg [] [⟨(some 34), none, .mv (.t 0)⟩,
    ⟨(some 4), none, .mv (.t 34)⟩])
  .ret)))
noncomputable def r239 : RFn := ⟨35, b239, [.tmp 4]⟩
noncomputable def k239 : List (List Nat) := [[0, 1], [0]]
theorem t239 : toRFn C k239 239 = some r239 := by kernel_rfl
/-- slices.ContainsFunc[[]string,string] -/
noncomputable def b240 : RC := (.seq (.reg [] [⟨(some 4), none, .mv (.c (.v (.bool false)))⟩])
  (.seq (.reg [] [⟨(some 5), none, .mv (.t 0)⟩,
    ⟨(some 6), none, .mv (.t 1)⟩,
    ⟨(some 7), none, .call 257 [(.t 5), (.t 6)]⟩,
    ⟨(some 8), none, .bin .geq (.t 7) (.c (.v (.int .i64 0)))⟩,
    ⟨(some 4), none, .mv (.t 8)⟩])
  .ret))
noncomputable def r240 : RFn := ⟨9, b240, [.tmp 4]⟩
noncomputable def k240 : List (List Nat) := []
theorem t240 : toRFn C k240 240 = some r240 := by kernel_rfl
/-- linkboy/object.every[string]$1 -/
noncomputable def b241 : RC := (.seq (.reg [] [⟨(some 3), none, .mv (.c (.v (.bool false)))⟩])
  (.seq (.reg [] [⟨(some 4), none, .load none (.t 1)⟩,
    ⟨(some 5), none, .mv (.t 0)⟩,
    ⟨(some 6), none, .callv (.t 4) [(.t 5)]⟩,
    ⟨(some 7), none, .un .not (.t 6)⟩,
    ⟨(some 3), none, .mv (.t 7)⟩])
  .ret))
noncomputable def r241 : RFn := ⟨8, b241, [.tmp 3]⟩
noncomputable def k241 : List (List Nat) := []
theorem t241 : toRFn C k241 241 = some r241 := by kernel_rfl
/-- cmp.Less[string] -/
noncomputable def b242 : RC := (.seq (.reg [] [⟨(some 4), none, .mv (.c (.v (.bool false)))⟩])
  (.seq (.reg [] [⟨(some 5), none, .mv (.t 0)⟩,
    ⟨(some 6), none, .call 258 [(.t 5)]⟩,
    ⟨(some 7), none, .mv (.t 6)⟩,
    ⟨(some 8), (some (7, true)), .mv (.t 1)⟩,
    ⟨(some 9), (some (7, true)), .call 258 [(.t 8)]⟩,
    ⟨(some 10), (some (7, true)), .un .not (.t 9)⟩,
    ⟨(some 11), none, .pick (.t 7) (.t 10) (.c (.v (.bool false)))⟩,
    ⟨(some 12), none, .mv (.t 11)⟩,
    ⟨(some 13), (some (12, false)), .mv (.t 0)⟩,
    ⟨(some 14), (some (12, false)), .mv (.t 1)⟩,
    ⟨(some 15), (some (12, false)), .bin .lss (.t 13) (.t 14)⟩,
    ⟨(some 16), none, .pick (.t 12) (.c (.v (.bool true))) (.t 15)⟩,
    ⟨(some 4), none, .mv (.t 16)⟩])
  .ret))
noncomputable def r242 : RFn := ⟨17, b242, [.tmp 4]⟩
noncomputable def k242 : List (List Nat) := []
theorem t242 : toRFn C k242 242 = some r242 := by kernel_rfl
/-- slices.IndexFunc[[][]linkboy/api.Addr,[]linkboy/api.Addr] -/
noncomputable def m243_0 : RC := (.seq (.reg [] [⟨(some 9), none, .bin .lss (.t 8) (.t 7)⟩])
  (.seq (.cond (.t 9) .skip
  (.exit 0))
  (.seq (.block 1 (.seq (.reg [] [⟨(some 10), none, .mv (.t 8)⟩,
    ⟨(some 5), none, .mv (.t 10)⟩])
  (.seq (.reg [] [⟨(some 11), none, .mv (.t 1)⟩,
    ⟨(some 12), none, .mv (.t 0)⟩,
    ⟨(some 13), none, .mv (.t 5)⟩,
    ⟨(some 14), none, .iaS 1 (.t 12) (.t 13)⟩,
    ⟨(some 15), none, .load none (.t 14)⟩,
    ⟨(some 16), none, .callv (.t 11) [(.t 15)]⟩])
  (.cond (.t 16) (.seq (.reg [] [⟨(some 17), none, .mv (.t 5)⟩,
    ⟨(some 4), none, .mv (.t 17)⟩])
  .ret)
  .skip))))
  (.reg [] [⟨(some 18), none, .bin .add (.t 8) (.c (.v (.int .i64 1)))⟩,
    ⟨(some 8), none, .mv (.t 18)⟩]))))
noncomputable def l243_0 : RC := m243_0
noncomputable def b243 : RC := (.seq (.reg [] [⟨(some 4), none, .mv (.c (.v (.int .i64 0)))⟩])
  (.seq (.seq (.reg [] [⟨(some 6), none, .mv (.t 0)⟩,
    ⟨(some 7), none, .len .sl (.t 6)⟩,
    ⟨(some 8), none, .mv (.c (.v (.int .i64 0)))⟩])
  (.block 0 (.loop [0, 1, 7, 8] [4] l243_0)))
  (.seq (.reg [] [⟨(some 4), none, .mv (.c (.v (.int .i64 (-1))))⟩])
  .ret)))
noncomputable def r243 : RFn := ⟨19, b243, [.tmp 4]⟩
noncomputable def k243 : List (List Nat) := [[0, 1, 7, 8], [4]]
theorem t243 : toRFn C k243 243 = some r243 := by kernel_rfl
/-- slices.IndexFunc[[]linkboy/api.Cidr,linkboy/api.Cidr] -/
noncomputable def m244_0 : RC := (.seq (.reg [] [⟨(some 9), none, .bin .lss (.t 8) (.t 7)⟩])
  (.seq (.cond (.t 9) .skip
  (.exit 0))
  (.seq (.block 1 (.seq (.reg [] [⟨(some 10), none, .mv (.t 8)⟩,
    ⟨(some 5), none, .mv (.t 10)⟩])
  (.seq (.reg [] [⟨(some 11), none, .mv (.t 1)⟩,
    ⟨(some 12), none, .mv (.t 0)⟩,
    ⟨(some 13), none, .mv (.t 5)⟩,
    ⟨(some 14), none, .iaS 18 (.t 12) (.t 13)⟩,
    ⟨(some 15), none, .load (some 18) (.t 14)⟩,
    ⟨(some 16), none, .callv (.t 11) [(.t 15)]⟩])
  (.cond (.t 16) (.seq (.reg [] [⟨(some 17), none, .mv (.t 5)⟩,
    ⟨(some 4), none, .mv (.t 17)⟩])
  .ret)
  .skip))))
  (.reg [] [⟨(some 18), none, .bin .add (.t 8) (.c (.v (.int .i64 1)))⟩,
    ⟨(some 8), none, .mv (.t 18)⟩]))))
noncomputable def l244_0 : RC := m244_0
noncomputable def b244 : RC := (.seq (.reg [] [⟨(some 4), none, .mv (.c (.v (.int .i64 0)))⟩])
  (.seq (.seq (.reg [] [⟨(some 6), none, .mv (.t 0)⟩,
    ⟨(some 7), none, .len .sl (.t 6)⟩,
    ⟨(some 8), none, .mv (.c (.v (.int .i64 0)))⟩])
  (.block 0 (.loop [0, 1, 7, 8] [4] l244_0)))
  (.seq (.reg [] [⟨(some 4), none, .mv (.c (.v (.int .i64 (-1))))⟩])
  .ret)))
noncomputable def r244 : RFn := ⟨19, b244, [.tmp 4]⟩
noncomputable def k244 : List (List Nat) := [[0, 1, 7, 8], [4]]
theorem t244 : toRFn C k244 244 = some r244 := by kernel_rfl
/-- linkboy/addr.Bits -/
noncomputable def b245 : RC := (.seq (.reg [] [⟨(some 1), none, .box (.t 0)⟩,
    ⟨(some 2), none, .mv (.c (.v (.int .i64 0)))⟩])
  (.seq (.reg [] [⟨(some 3), none, .load (some 17) (.t 1)⟩,
    ⟨(some 4), none, .call 219 [(.t 3)]⟩,
    ⟨(some 5), none, .bin .mul (.c (.v (.int .i64 8))) (.t 4)⟩,
    ⟨(some 2), none, .mv (.t 5)⟩])
  .ret))
noncomputable def r245 : RFn := ⟨6, b245, [.tmp 2]⟩
noncomputable def k245 : List (List Nat) := []
theorem t245 : toRFn C k245 245 = some r245 := by kernel_rfl
/-- linkboy/object.outer$1 -/
noncomputable def b246 : RC := (.seq (.reg [] [⟨(some 2), none, .box (.t 0)⟩,
    ⟨(some 3), none, .mv (.c (.v (.bool false)))⟩])
  (.seq (.reg [] [⟨(some 4), none, .fa 3 (.t 2)⟩,
    ⟨(some 5), none, .load none (.t 4)⟩,
    ⟨(some 6), none, .bin .eql (.t 5) (.c (.v (.int .i64 0)))⟩,
    ⟨(some 7), none, .mv (.t 6)⟩,
    ⟨(some 8), (some (7, false)), .fa 2 (.t 1)⟩,
    ⟨(some 9), (some (7, false)), .load none (.t 8)⟩,
    ⟨(some 10), (some (7, false)), .bin .neq (.t 9) (.c (.v (.int .i64 0)))⟩,
    ⟨(some 11), (some (7, false)), .mv (.t 10)⟩,
    ⟨(some 12), (some (11, true)), .fa 3 (.t 2)⟩,
    ⟨(some 13), (some (11, true)), .load none (.t 12)⟩,
    ⟨(some 14), (some (11, true)), .call 193 [(.t 13)]⟩,
    ⟨(some 15), (some (7, false)), .pick (.t 11) (.t 14) (.c (.v (.bool false)))⟩,
    ⟨(some 16), none, .pick (.t 7) (.c (.v (.bool true))) (.t 15)⟩,
    ⟨(some 3), none, .mv (.t 16)⟩])
  .ret))
noncomputable def r246 : RFn := ⟨17, b246, [.tmp 3]⟩
noncomputable def k246 : List (List Nat) := []
theorem t246 : toRFn C k246 246 = some r246 := by kernel_rfl
/-- (*strings.asciiSet).contains -/
noncomputable def b248 : RC := (.seq (.reg [] [⟨(some 4), none, .mv (.c (.v (.bool false)))⟩])
  (.seq (.reg [] [⟨(some 5), none, .mv (.t 0)⟩,
    ⟨(some 6), none, .mv (.t 1)⟩,
    ⟨(some 7), none, .nilc (.t 5)⟩,
    ⟨(some 8), none, .iaA 1 256 (.t 7) (.t 6)⟩,
    ⟨(some 9), none, .load none (.t 8)⟩,
    ⟨(some 4), none, .mv (.t 9)⟩])
  .ret))
noncomputable def r248 : RFn := ⟨10, b248, [.tmp 4]⟩
noncomputable def k248 : List (List Nat) := []
theorem t248 : toRFn C k248 248 = some r248 := by kernel_rfl
/-- unicode/utf8.DecodeRuneInString -/
noncomputable def b249 : RC := (.seq (.reg [] [⟨(some 2), none, .mv (.c (.v (.int .i32 0)))⟩,
    ⟨(some 3), none, .mv (.c (.v (.int .i64 0)))⟩])
  (.seq (.seq (.reg [] [⟨(some 4), none, .mv (.t 0)⟩,
    ⟨(some 5), none, .bin .neq (.t 4) (.c (.v (.string ⟨⟨[]⟩⟩)))⟩,
    ⟨(some 6), none, .mv (.t 5)⟩,
    ⟨(some 7), (some (6, true)), .mv (.t 0)⟩,
    ⟨(some 8), (some (6, true)), .ixS (.t 7) (.c (.v (.int .i64 0)))⟩,
    ⟨(some 9), (some (6, true)), .bin .lss (.t 8) (.c (.v (.int .u8 128)))⟩,
    ⟨(some 10), none, .pick (.t 6) (.t 9) (.c (.v (.bool false)))⟩])
  (.cond (.t 10) (.seq (.reg [] [⟨(some 11), none, .mv (.t 0)⟩,
    ⟨(some 12), none, .ixS (.t 11) (.c (.v (.int .i64 0)))⟩,
    ⟨(some 13), none, .cint .i32 (.t 12)⟩,
    ⟨(some 2), none, .mv (.t 13)⟩,
    ⟨(some 3), none, .mv (.c (.v (.int .i64 1)))⟩])
  .ret)
  (.reg [] [⟨(some 15), none, .mv (.t 0)⟩,
    ⟨(some 16), none, .call 259 [(.t 15)]⟩,
    ⟨(some 14), none, .mv (.t 16)⟩,
    ⟨(some 17), none, .ext (.t 14) 0⟩,
    ⟨(some 18), none, .ext (.t 14) 1⟩,
    ⟨(some 2), none, .mv (.t 17)⟩,
    ⟨(some 3), none, .mv (.t 18)⟩])))
  .ret))
noncomputable def r249 : RFn := ⟨19, b249, [.tmp 2, .tmp 3]⟩
noncomputable def k249 : List (List Nat) := []
theorem t249 : toRFn C k249 249 = some r249 := by kernel_rfl
/-- strings.ContainsRune -/
noncomputable def b250 : RC := (.seq (.reg [] [⟨(some 4), none, .mv (.c (.v (.bool false)))⟩])
  (.seq (.reg [] [⟨(some 5), none, .mv (.t 0)⟩,
    ⟨(some 6), none, .mv (.t 1)⟩,
    ⟨(some 7), none, .call 260 [(.t 5), (.t 6)]⟩,
    ⟨(some 8), none, .bin .geq (.t 7) (.c (.v (.int .i64 0)))⟩,
    ⟨(some 4), none, .mv (.t 8)⟩])
  .ret))
noncomputable def r250 : RFn := ⟨9, b250, [.tmp 4]⟩
noncomputable def k250 : List (List Nat) := []
theorem t250 : toRFn C k250 250 = some r250 := by kernel_rfl
/-- unicode/utf8.DecodeLastRuneInString -/
noncomputable def m251_0 : RC := (.seq (.seq (.reg [] [⟨(some 25), none, .mv (.t 5)⟩,
    ⟨(some 26), none, .mv (.t 6)⟩,
    ⟨(some 27), none, .bin .geq (.t 25) (.t 26)⟩])
  (.cond (.t 27) .skip
  (.exit 0)))
  (.seq (.block 1 (.seq (.reg [] [⟨(some 30), none, .mv (.t 0)⟩,
    ⟨(some 31), none, .mv (.t 5)⟩,
    ⟨(some 32), none, .ixS (.t 30) (.t 31)⟩,
    ⟨(some 33), none, .call 261 [(.t 32)]⟩])
  (.cond (.t 33) (.exit 0)
  .skip)))
  (.reg [] [⟨(some 28), none, .mv (.t 5)⟩,
    ⟨(some 29), none, .bin .sub (.t 28) (.c (.v (.int .i64 1)))⟩,
    ⟨(some 5), none, .mv (.t 29)⟩])))
noncomputable def l251_0 : RC := m251_0
noncomputable def b251 : RC := (.seq (.reg [] [⟨(some 2), none, .mv (.c (.v (.int .i32 0)))⟩,
    ⟨(some 3), none, .mv (.c (.v (.int .i64 0)))⟩])
  (.seq (.reg [] [⟨(some 7), none, .mv (.t 0)⟩,
    ⟨(some 8), none, .len .str (.t 7)⟩,
    ⟨(some 4), none, .mv (.t 8)⟩])
  (.seq (.seq (.reg [] [⟨(some 9), none, .mv (.t 4)⟩,
    ⟨(some 10), none, .bin .eql (.t 9) (.c (.v (.int .i64 0)))⟩])
  (.cond (.t 10) (.seq (.reg [] [⟨(some 2), none, .mv (.c (.v (.int .i32 65533)))⟩,
    ⟨(some 3), none, .mv (.c (.v (.int .i64 0)))⟩])
  .ret)
  .skip))
  (.seq (.reg [] [⟨(some 11), none, .mv (.t 4)⟩,
    ⟨(some 12), none, .bin .sub (.t 11) (.c (.v (.int .i64 1)))⟩,
    ⟨(some 5), none, .mv (.t 12)⟩])
  (.seq (.reg [] [⟨(some 13), none, .mv (.t 0)⟩,
    ⟨(some 14), none, .mv (.t 5)⟩,
    ⟨(some 15), none, .ixS (.t 13) (.t 14)⟩,
    ⟨(some 16), none, .cint .i32 (.t 15)⟩,
    ⟨(some 2), none, .mv (.t 16)⟩])
  (.seq (.seq (.reg [] [⟨(some 17), none, .mv (.t 2)⟩,
    ⟨(some 18), none, .bin .lss (.t 17) (.c (.v (.int .i32 128)))⟩])
  (.cond (.t 18) (.seq (.reg [] [⟨(some 19), none, .mv (.t 2)⟩,
    ⟨(some 2), none, .mv (.t 19)⟩,
    ⟨(some 3), none, .mv (.c (.v (.int .i64 1)))⟩])
  .ret)
  .skip))
  (.seq (.reg [] [⟨(some 20), none, .mv (.t 4)⟩,
    ⟨(some 21), none, .bin .sub (.t 20) (.c (.v (.int .i64 4)))⟩,
    ⟨(some 22), none, .mm true [(.t 21), (.c (.v (.int .i64 0)))]⟩,
    ⟨(some 6), none, .mv (.t 22)⟩])
  (.seq (.seq (.reg [] [⟨(some 23), none, .mv (.t 5)⟩,
    ⟨(some 24), none, .bin .sub (.t 23) (.c (.v (.int .i64 1)))⟩,
    ⟨(some 5), none, .mv (.t 24)⟩])
  (.block 0 (.loop [0, 4, 5, 6] [0, 4, 5] l251_0)))
  (.seq (.seq (.reg [] [⟨(some 34), none, .mv (.t 5)⟩,
    ⟨(some 35), none, .bin .lss (.t 34) (.c (.v (.int .i64 0)))⟩])
  (.cond (.t 35) (.reg [] [⟨(some 5), none, .mv (.c (.v (.int .i64 0)))⟩])
  .skip))
  (.seq (.reg [] [⟨(some 37), none, .mv (.t 0)⟩,
    ⟨(some 38), none, .mv (.t 5)⟩,
    ⟨(some 39), none, .mv (.t 4)⟩,
    ⟨(some 40), none, .slStr (.t 37) (some (.t 38)) (some (.t 39))⟩,
    ⟨(some 41), none, .call 249 [(.t 40)]⟩,
    ⟨(some 36), none, .mv (.t 41)⟩,
    ⟨(some 42), none, .ext (.t 36) 0⟩,
    ⟨(some 43), none, .ext (.t 36) 1⟩,
    ⟨(some 2), none, .mv (.t 42)⟩,
    ⟨(some 3), none, .mv (.t 43)⟩])
  (.seq (.seq (.reg [] [⟨(some 44), none, .mv (.t 5)⟩,
    ⟨(some 45), none, .mv (.t 3)⟩,
    ⟨(some 46), none, .bin .add (.t 44) (.t 45)⟩,
    ⟨(some 47), none, .mv (.t 4)⟩,
    ⟨(some 48), none, .bin .neq (.t 46) (.t 47)⟩])
  (.cond (.t 48) (.seq (.reg [] [⟨(some 2), none, .mv (.c (.v (.int .i32 65533)))⟩,
    ⟨(some 3), none, .mv (.c (.v (.int .i64 1)))⟩])
  .ret)
  .skip))
  (.seq (.reg [] [⟨(some 49), none, .mv (.t 2)⟩,
    ⟨(some 50), none, .mv (.t 3)⟩,
    ⟨(some 2), none, .mv (.t 49)⟩,
    ⟨(some 3), none, .mv (.t 50)⟩])
  .ret))))))))))))
noncomputable def r251 : RFn := ⟨51, b251, [.tmp 2, .tmp 3]⟩
noncomputable def k251 : List (List Nat) := [[0, 4, 5, 6], [0, 4, 5]]
theorem t251 : toRFn C k251 251 = some r251 := by kernel_rfl
/-- slices.IndexFunc[[]linkboy/api.Addr,linkboy/api.Addr] -/
noncomputable def m252_0 : RC := (.seq (.reg [] [⟨(some 9), none, .bin .lss (.t 8) (.t 7)⟩])
  (.seq (.cond (.t 9) .skip
  (.exit 0))
  (.seq (.block 1 (.seq (.reg [] [⟨(some 10), none, .mv (.t 8)⟩,
    ⟨(some 5), none, .mv (.t 10)⟩])
  (.seq (.reg [] [⟨(some 11), none, .mv (.t 1)⟩,
    ⟨(some 12), none, .mv (.t 0)⟩,
    ⟨(some 13), none, .mv (.t 5)⟩,
    ⟨(some 14), none, .iaS 17 (.t 12) (.t 13)⟩,
    ⟨(some 15), none, .load (some 17) (.t 14)⟩,
    ⟨(some 16), none, .callv (.t 11) [(.t 15)]⟩])
  (.cond (.t 16) (.seq (.reg [] [⟨(some 17), none, .mv (.t 5)⟩,
    ⟨(some 4), none, .mv (.t 17)⟩])
  .ret)
  .skip))))
  (.reg [] [⟨(some 18), none, .bin .add (.t 8) (.c (.v (.int .i64 1)))⟩,
    ⟨(some 8), none, .mv (.t 18)⟩]))))
noncomputable def l252_0 : RC := m252_0
noncomputable def b252 : RC := (.seq (.reg [] [⟨(some 4), none, .mv (.c (.v (.int .i64 0)))⟩])
  (.seq (.seq (.reg [] [⟨(some 6), none, .mv (.t 0)⟩,
    ⟨(some 7), none, .len .sl (.t 6)⟩,
    ⟨(some 8), none, .mv (.c (.v (.int .i64 0)))⟩])
  (.block 0 (.loop [0, 1, 7, 8] [4] l252_0)))
  (.seq (.reg [] [⟨(some 4), none, .mv (.c (.v (.int .i64 (-1))))⟩])
  .ret)))
noncomputable def r252 : RFn := ⟨19, b252, [.tmp 4]⟩
noncomputable def k252 : List (List Nat) := [[0, 1, 7, 8], [4]]
theorem t252 : toRFn C k252 252 = some r252 := by kernel_rfl
/-- (*bytes.asciiSet).contains -/
noncomputable def b253 : RC := (.seq (.reg [] [⟨(some 4), none, .mv (.c (.v (.bool false)))⟩])
  (.seq (.reg [] [⟨(some 5), none, .mv (.t 0)⟩,
    ⟨(some 6), none, .mv (.t 1)⟩,
    ⟨(some 7), none, .nilc (.t 5)⟩,
    ⟨(some 8), none, .iaA 1 256 (.t 7) (.t 6)⟩,
    ⟨(some 9), none, .load none (.t 8)⟩,
    ⟨(some 4), none, .mv (.t 9)⟩])
  .ret))
noncomputable def r253 : RFn := ⟨10, b253, [.tmp 4]⟩
noncomputable def k253 : List (List Nat) := []
theorem t253 : toRFn C k253 253 = some r253 := by kernel_rfl
/-- unicode/utf8.DecodeRune -/
noncomputable def m254_0 : RC := (.seq (.reg [] [⟨(some 9), none, .bin .lss (.t 8) (.t 7)⟩])
  (.seq (.cond (.t 9) .skip
  (.exit 0))
  (.seq (.block 1 (.seq (.reg [] [⟨(some 10), none, .iaS 1 (.t 6) (.t 8)⟩,
    ⟨(some 11), none, .load none (.t 10)⟩,
    ⟨(some 5), none, .mv (.t 11)⟩])
  (.seq (.seq (.reg [] [⟨(some 12), none, .mv (.t 5)⟩,
    ⟨(some 13), none, .bin .lss (.t 12) (.c (.v (.int .u8 128)))⟩])
  (.cond (.t 13) (.seq (.reg [] [⟨(some 14), none, .mv (.t 5)⟩,
    ⟨(some 15), none, .cint .i32 (.t 14)⟩,
    ⟨(some 2), none, .mv (.t 15)⟩,
    ⟨(some 3), none, .mv (.c (.v (.int .i64 1)))⟩])
  .ret)
  .skip))
  (.exit 0))))
  (.reg [] [⟨(some 16), none, .bin .add (.t 8) (.c (.v (.int .i64 1)))⟩,
    ⟨(some 8), none, .mv (.t 16)⟩]))))
noncomputable def l254_0 : RC := m254_0
noncomputable def b254 : RC := (.seq (.reg [] [⟨(some 2), none, .mv (.c (.v (.int .i32 0)))⟩,
    ⟨(some 3), none, .mv (.c (.v (.int .i64 0)))⟩])
  (.seq (.seq (.reg [] [⟨(some 6), none, .mv (.t 0)⟩,
    ⟨(some 7), none, .len .sl (.t 6)⟩,
    ⟨(some 8), none, .mv (.c (.v (.int .i64 0)))⟩])
  (.block 0 (.loop [0, 6, 7, 8] [0, 2, 3] l254_0)))
  (.seq (.reg [] [⟨(some 18), none, .mv (.t 0)⟩,
    ⟨(some 19), none, .call 262 [(.t 18)]⟩,
    ⟨(some 17), none, .mv (.t 19)⟩,
    ⟨(some 20), none, .ext (.t 17) 0⟩,
    ⟨(some 21), none, .ext (.t 17) 1⟩,
    ⟨(some 2), none, .mv (.t 20)⟩,
    ⟨(some 3), none, .mv (.t 21)⟩])
  .ret)))
noncomputable def r254 : RFn := ⟨22, b254, [.tmp 2, .tmp 3]⟩
noncomputable def k254 : List (List Nat) := [[0, 6, 7, 8], [0, 2, 3]]
theorem t254 : toRFn C k254 254 = some r254 := by kernel_rfl
/-- bytes.containsRune -/
noncomputable def m255_0 : RC := (.seq (.reg [] [⟨(some 9), none, .bad⟩,
    ⟨(some 10), none, .ext (.t 9) 0⟩])
  (.seq (.cond (.t 10) .skip
  (.exit 0))
  (.block 1 (.seq (.reg [] [⟨(some 11), none, .ext (.t 9) 2⟩,
    ⟨(some 6), none, .mv (.t 11)⟩])
  (.seq (.reg [] [⟨(some 12), none, .mv (.t 6)⟩,
    ⟨(some 13), none, .mv (.t 1)⟩,
    ⟨(some 14), none, .bin .eql (.t 12) (.t 13)⟩])
  (.cond (.t 14) (.seq (.reg [] [⟨(some 4), none, .mv (.c (.v (.bool true)))⟩])
  .ret)
  .skip))))))
noncomputable def l255_0 : RC := m255_0
noncomputable def b255 : RC := (.seq (.reg [] [⟨(some 4), none, .mv (.c (.v (.bool false)))⟩])
  (.seq (.seq (.reg [] [⟨(some 7), none, .mv (.t 0)⟩,
    ⟨(some 8), none, .bad⟩])
  (.block 0 (.loop [1] [4] l255_0)))
  (.seq (.reg [] [⟨(some 4), none, .mv (.c (.v (.bool false)))⟩])
  .ret)))
noncomputable def r255 : RFn := ⟨15, b255, [.tmp 4]⟩
noncomputable def k255 : List (List Nat) := [[1], [4]]
theorem t255 : toRFn C k255 255 = some r255 := by kernel_rfl
/-- unicode/utf8.DecodeLastRune -/
noncomputable def m256_0 : RC := (.seq (.seq (.reg [] [⟨(some 26), none, .mv (.t 5)⟩,
    ⟨(some 27), none, .mv (.t 6)⟩,
    ⟨(some 28), none, .bin .geq (.t 26) (.t 27)⟩])
  (.cond (.t 28) .skip
  (.exit 0)))
  (.seq (.block 1 (.seq (.reg [] [⟨(some 31), none, .mv (.t 0)⟩,
    ⟨(some 32), none, .mv (.t 5)⟩,
    ⟨(some 33), none, .iaS 1 (.t 31) (.t 32)⟩,
    ⟨(some 34), none, .load none (.t 33)⟩,
    ⟨(some 35), none, .call 261 [(.t 34)]⟩])
  (.cond (.t 35) (.exit 0)
  .skip)))
  (.reg [] [⟨(some 29), none, .mv (.t 5)⟩,
    ⟨(some 30), none, .bin .sub (.t 29) (.c (.v (.int .i64 1)))⟩,
    ⟨(some 5), none, .mv (.t 30)⟩])))
noncomputable def l256_0 : RC := m256_0
noncomputable def b256 : RC := (.seq (.reg [] [⟨(some 2), none, .mv (.c (.v (.int .i32 0)))⟩,
    ⟨(some 3), none, .mv (.c (.v (.int .i64 0)))⟩])
  (.seq (.reg [] [⟨(some 7), none, .mv (.t 0)⟩,
    ⟨(some 8), none, .len .sl (.t 7)⟩,
    ⟨(some 4), none, .mv (.t 8)⟩])
  (.seq (.seq (.reg [] [⟨(some 9), none, .mv (.t 4)⟩,
    ⟨(some 10), none, .bin .eql (.t 9) (.c (.v (.int .i64 0)))⟩])
  (.cond (.t 10) (.seq (.reg [] [⟨(some 2), none, .mv (.c (.v (.int .i32 65533)))⟩,
    ⟨(some 3), none, .mv (.c (.v (.int .i64 0)))⟩])
  .ret)
  .skip))
  (.seq (.reg [] [⟨(some 11), none, .mv (.t 4)⟩,
    ⟨(some 12), none, .bin .sub (.t 11) (.c (.v (.int .i64 1)))⟩,
    ⟨(some 5), none, .mv (.t 12)⟩])
  (.seq (.reg [] [⟨(some 13), none, .mv (.t 0)⟩,
    ⟨(some 14), none, .mv (.t 5)⟩,
    ⟨(some 15), none, .iaS 1 (.t 13) (.t 14)⟩,
    ⟨(some 16), none, .load none (.t 15)⟩,
    ⟨(some 17), none, .cint .i32 (.t 16)⟩,
    ⟨(some 2), none, .mv (.t 17)⟩])
  (.seq (.seq (.reg [] [⟨(some 18), none, .mv (.t 2)⟩,
    ⟨(some 19), none, .bin .lss (.t 18) (.c (.v (.int .i32 128)))⟩])
  (.cond (.t 19) (.seq (.reg [] [⟨(some 20), none, .mv (.t 2)⟩,
    ⟨(some 2), none, .mv (.t 20)⟩,
    ⟨(some 3), none, .mv (.c (.v (.int .i64 1)))⟩])
  .ret)
  .skip))
  (.seq (.reg [] [⟨(some 21), none, .mv (.t 4)⟩,
    ⟨(some 22), none, .bin .sub (.t 21) (.c (.v (.int .i64 4)))⟩,
    ⟨(some 23), none, .mm true [(.t 22), (.c (.v (.int .i64 0)))]⟩,
    ⟨(some 6), none, .mv (.t 23)⟩])
  (.seq (.seq (.reg [] [⟨(some 24), none, .mv (.t 5)⟩,
    ⟨(some 25), none, .bin .sub (.t 24) (.c (.v (.int .i64 1)))⟩,
    ⟨(some 5), none, .mv (.t 25)⟩])
  (.block 0 (.loop [0, 4, 5, 6] [0, 4, 5] l256_0)))
  (.seq (.seq (.reg [] [⟨(some 36), none, .mv (.t 5)⟩,
    ⟨(some 37), none, .bin .lss (.t 36) (.c (.v (.int .i64 0)))⟩])
  (.cond (.t 37) (.reg [] [⟨(some 5), none, .mv (.c (.v (.int .i64 0)))⟩])
  .skip))
  (.seq (.reg [] [⟨(some 39), none, .mv (.t 0)⟩,
    ⟨(some 40), none, .mv (.t 5)⟩,
    ⟨(some 41), none, .mv (.t 4)⟩,
    ⟨(some 42), none, .slX 1 (.t 39) (some (.t 40)) (some (.t 41)) none⟩,
    ⟨(some 43), none, .call 254 [(.t 42)]⟩,
    ⟨(some 38), none, .mv (.t 43)⟩,
    ⟨(some 44), none, .ext (.t 38) 0⟩,
    ⟨(some 45), none, .ext (.t 38) 1⟩,
    ⟨(some 2), none, .mv (.t 44)⟩,
    ⟨(some 3), none, .mv (.t 45)⟩])
  (.seq (.seq (.reg [] [⟨(some 46), none, .mv (.t 5)⟩,
    ⟨(some 47), none, .mv (.t 3)⟩,
    ⟨(some 48), none, .bin .add (.t 46) (.t 47)⟩,
    ⟨(some 49), none, .mv (.t 4)⟩,
    ⟨(some 50), none, .bin .neq (.t 48) (.t 49)⟩])
  (.cond (.t 50) (.seq (.reg [] [⟨(some 2), none, .mv (.c (.v (.int .i32 65533)))⟩,
    ⟨(some 3), none, .mv (.c (.v (.int .i64 1)))⟩])
  .ret)
  .skip))
  (.seq (.reg [] [⟨(some 51), none, .mv (.t 2)⟩,
    ⟨(some 52), none, .mv (.t 3)⟩,
    ⟨(some 2), none, .mv (.t 51)⟩,
    ⟨(some 3), none, .mv (.t 52)⟩])
  .ret))))))))))))
noncomputable def r256 : RFn := ⟨53, b256, [.tmp 2, .tmp 3]⟩
noncomputable def k256 : List (List Nat) := [[0, 4, 5, 6], [0, 4, 5]]
theorem t256 : toRFn C k256 256 = some r256 := by kernel_rfl
/-- slices.IndexFunc[[]string,string] -/
noncomputable def m257_0 : RC := (.seq (.reg [] [⟨(some 9), none, .bin .lss (.t 8) (.t 7)⟩])
  (.seq (.cond (.t 9) .skip
  (.exit 0))
  (.seq (.block 1 (.seq (.reg [] [⟨(some 10), none, .mv (.t 8)⟩,
    ⟨(some 5), none, .mv (.t 10)⟩])
  (.seq (.reg [] [⟨(some 11), none, .mv (.t 1)⟩,
    ⟨(some 12), none, .mv (.t 0)⟩,
    ⟨(some 13), none, .mv (.t 5)⟩,
    ⟨(some 14), none, .iaS 1 (.t 12) (.t 13)⟩,
    ⟨(some 15), none, .load none (.t 14)⟩,
    ⟨(some 16), none, .callv (.t 11) [(.t 15)]⟩])
  (.cond (.t 16) (.seq (.reg [] [⟨(some 17), none, .mv (.t 5)⟩,
    ⟨(some 4), none, .mv (.t 17)⟩])
  .ret)
  .skip))))
  (.reg [] [⟨(some 18), none, .bin .add (.t 8) (.c (.v (.int .i64 1)))⟩,
    ⟨(some 8), none, .mv (.t 18)⟩]))))
noncomputable def l257_0 : RC := m257_0
noncomputable def b257 : RC := (.seq (.reg [] [⟨(some 4), none, .mv (.c (.v (.int .i64 0)))⟩])
  (.seq (.seq (.reg [] [⟨(some 6), none, .mv (.t 0)⟩,
    ⟨(some 7), none, .len .sl (.t 6)⟩,
    ⟨(some 8), none, .mv (.c (.v (.int .i64 0)))⟩])
  (.block 0 (.loop [0, 1, 7, 8] [4] l257_0)))
  (.seq (.reg [] [⟨(some 4), none, .mv (.c (.v (.int .i64 (-1))))⟩])
  .ret)))
noncomputable def r257 : RFn := ⟨19, b257, [.tmp 4]⟩
noncomputable def k257 : List (List Nat) := [[0, 1, 7, 8], [4]]
theorem t257 : toRFn C k257 257 = some r257 := by kernel_rfl
/-- cmp.isNaN[string] -/
noncomputable def b258 : RC := (.seq (.reg [] [⟨(some 2), none, .mv (.c (.v (.bool false)))⟩])
  (.seq (.reg [] [⟨(some 3), none, .mv (.t 0)⟩,
    ⟨(some 4), none, .mv (.t 0)⟩,
    ⟨(some 5), none, .bin .neq (.t 3) (.t 4)⟩,
    ⟨(some 2), none, .mv (.t 5)⟩])
  .ret))
noncomputable def r258 : RFn := ⟨6, b258, [.tmp 2]⟩
noncomputable def k258 : List (List Nat) := []
theorem t258 : toRFn C k258 258 = some r258 := by kernel_rfl
/-- unicode/utf8.decodeRuneInStringSlow -/
noncomputable def b259 : RC := (.seq (.reg [] [⟨(some 2), none, .mv (.c (.v (.int .i32 0)))⟩,
    ⟨(some 3), none, .mv (.c (.v (.int .i64 0)))⟩])
  (.seq (.reg [] [⟨(some 13), none, .mv (.t 0)⟩,
    ⟨(some 14), none, .len .str (.t 13)⟩,
    ⟨(some 4), none, .mv (.t 14)⟩])
  (.seq (.seq (.reg [] [⟨(some 15), none, .mv (.t 4)⟩,
    ⟨(some 16), none, .bin .lss (.t 15) (.c (.v (.int .i64 1)))⟩])
  (.cond (.t 16) (.seq (.reg [] [⟨(some 2), none, .mv (.c (.v (.int .i32 65533)))⟩,
    ⟨(some 3), none, .mv (.c (.v (.int .i64 0)))⟩])
  .ret)
  .skip))
  (.seq (.reg [] [⟨(some 17), none, .mv (.t 0)⟩,
    ⟨(some 18), none, .ixS (.t 17) (.c (.v (.int .i64 0)))⟩,
    ⟨(some 5), none, .mv (.t 18)⟩])
  (.seq (.reg [] [⟨(some 19), none, .mv (.t 5)⟩,
    ⟨(some 20), none, .bad⟩,
    ⟨(some 21), none, .load none (.t 20)⟩,
    ⟨(some 6), none, .mv (.t 21)⟩])
  (.seq (.seq (.reg [] [⟨(some 22), none, .mv (.t 6)⟩,
    ⟨(some 23), none, .bin .geq (.t 22) (.c (.v (.int .u8 240)))⟩])
  (.cond (.t 23) (.seq (.reg [] [⟨(some 24), none, .mv (.t 6)⟩,
    ⟨(some 25), none, .cint .i32 (.t 24)⟩,
    ⟨(some 26), none, .bin .shl (.t 25) (.c (.v (.int .u64 31)))⟩,
    ⟨(some 27), none, .bin .shr (.t 26) (.c (.v (.int .u64 31)))⟩,
    ⟨(some 7), none, .mv (.t 27)⟩])
  (.seq (.reg [] [⟨(some 28), none, .mv (.t 0)⟩,
    ⟨(some 29), none, .ixS (.t 28) (.c (.v (.int .i64 0)))⟩,
    ⟨(some 30), none, .cint .i32 (.t 29)⟩,
    ⟨(some 31), none, .mv (.t 7)⟩,
    ⟨(some 32), none, .bin .andNot (.t 30) (.t 31)⟩,
    ⟨(some 33), none, .mv (.t 7)⟩,
    ⟨(some 34), none, .bin .and (.c (.v (.int .i32 65533))) (.t 33)⟩,
    ⟨(some 35), none, .bin .or (.t 32) (.t 34)⟩,
    ⟨(some 2), none, .mv (.t 35)⟩,
    ⟨(some 3), none, .mv (.c (.v (.int .i64 1)))⟩])
  .ret))
  .skip))
  (.seq (.reg [] [⟨(some 36), none, .mv (.t 6)⟩,
    ⟨(some 37), none, .bin .and (.t 36) (.c (.v (.int .u8 7)))⟩,
    ⟨(some 38), none, .cint .i64 (.t 37)⟩,
    ⟨(some 8), none, .mv (.t 38)⟩])
  (.seq (.reg [] [⟨(some 39), none, .mv (.t 6)⟩,
    ⟨(some 40), none, .bin .shr (.t 39) (.c (.v (.int .u64 4)))⟩,
    ⟨(some 41), none, .bad⟩,
    ⟨(some 42), none, .load (some 2) (.t 41)⟩,
    ⟨(some 9), none, .box (.c (.agg [(.v (.int .u8 0)), (.v (.int .u8 0))]))⟩,
    ⟨none, none, .store 2 (.t 9) (.t 42)⟩])
  (.seq (.seq (.reg [] [⟨(some 43), none, .mv (.t 4)⟩,
    ⟨(some 44), none, .mv (.t 8)⟩,
    ⟨(some 45), none, .bin .lss (.t 43) (.t 44)⟩])
  (.cond (.t 45) (.seq (.reg [] [⟨(some 2), none, .mv (.c (.v (.int .i32 65533)))⟩,
    ⟨(some 3), none, .mv (.c (.v (.int .i64 1)))⟩])
  .ret)
  .skip))
  (.seq (.reg [] [⟨(some 46), none, .mv (.t 0)⟩,
    ⟨(some 47), none, .ixS (.t 46) (.c (.v (.int .i64 1)))⟩,
    ⟨(some 10), none, .mv (.t 47)⟩])
  (.seq (.seq (.reg [] [⟨(some 48), none, .mv (.t 10)⟩,
    ⟨(some 49), none, .fa 0 (.t 9)⟩,
    ⟨(some 50), none, .load none (.t 49)⟩,
    ⟨(some 51), none, .bin .lss (.t 48) (.t 50)⟩,
    ⟨(some 52), none, .mv (.t 51)⟩,
    ⟨(some 53), (some (52, false)), .fa 1 (.t 9)⟩,
    ⟨(some 54), (some (52, false)), .load none (.t 53)⟩,
    ⟨(some 55), (some (52, false)), .mv (.t 10)⟩,
    ⟨(some 56), (some (52, false)), .bin .lss (.t 54) (.t 55)⟩,
    ⟨(some 57), none, .pick (.t 52) (.c (.v (.bool true))) (.t 56)⟩])
  (.cond (.t 57) (.seq (.reg [] [⟨(some 2), none, .mv (.c (.v (.int .i32 65533)))⟩,
    ⟨(some 3), none, .mv (.c (.v (.int .i64 1)))⟩])
  .ret)
  .skip))
  (.seq (.seq (.reg [] [⟨(some 58), none, .mv (.t 8)⟩,
    ⟨(some 59), none, .bin .leq (.t 58) (.c (.v (.int .i64 2)))⟩])
  (.cond (.t 59) (.seq (.reg [] [⟨(some 60), none, .mv (.t 5)⟩,
    ⟨(some 61), none, .bin .and (.t 60) (.c (.v (.int .u8 31)))⟩,
    ⟨(some 62), none, .cint .i32 (.t 61)⟩,
    ⟨(some 63), none, .bin .shl (.t 62) (.c (.v (.int .u64 6)))⟩,
    ⟨(some 64), none, .mv (.t 10)⟩,
    ⟨(some 65), none, .bin .and (.t 64) (.c (.v (.int .u8 63)))⟩,
    ⟨(some 66), none, .cint .i32 (.t 65)⟩,
    ⟨(some 67), none, .bin .or (.t 63) (.t 66)⟩,
    ⟨(some 2), none, .mv (.t 67)⟩,
    ⟨(some 3), none, .mv (.c (.v (.int .i64 2)))⟩])
  .ret)
  .skip))
  (.seq (.reg [] [⟨(some 68), none, .mv (.t 0)⟩,
    ⟨(some 69), none, .ixS (.t 68) (.c (.v (.int .i64 2)))⟩,
    ⟨(some 11), none, .mv (.t 69)⟩])
  (.seq (.seq (.reg [] [⟨(some 70), none, .mv (.t 11)⟩,
    ⟨(some 71), none, .bin .lss (.t 70) (.c (.v (.int .u8 128)))⟩,
    ⟨(some 72), none, .mv (.t 71)⟩,
    ⟨(some 73), (some (72, false)), .mv (.t 11)⟩,
    ⟨(some 74), (some (72, false)), .bin .lss (.c (.v (.int .u8 191))) (.t 73)⟩,
    ⟨(some 75), none, .pick (.t 72) (.c (.v (.bool true))) (.t 74)⟩])
  (.cond (.t 75) (.seq (.reg [] [⟨(some 2), none, .mv (.c (.v (.int .i32 65533)))⟩,
    ⟨(some 3), none, .mv (.c (.v (.int .i64 1)))⟩])
  .ret)
  .skip))
  (.seq (.seq (.reg [] [⟨(some 76), none, .mv (.t 8)⟩,
    ⟨(some 77), none, .bin .leq (.t 76) (.c (.v (.int .i64 3)))⟩])
  (.cond (.t 77) (.seq (.reg [] [⟨(some 78), none, .mv (.t 5)⟩,
    ⟨(some 79), none, .bin .and (.t 78) (.c (.v (.int .u8 15)))⟩,
    ⟨(some 80), none, .cint .i32 (.t 79)⟩,
    ⟨(some 81), none, .bin .shl (.t 80) (.c (.v (.int .u64 12)))⟩,
    ⟨(some 82), none, .mv (.t 10)⟩,
    ⟨(some 83), none, .bin .and (.t 82) (.c (.v (.int .u8 63)))⟩,
    ⟨(some 84), none, .cint .i32 (.t 83)⟩,
    ⟨(some 85), none, .bin .shl (.t 84) (.c (.v (.int .u64 6)))⟩,
    ⟨(some 86), none, .bin .or (.t 81) (.t 85)⟩,
    ⟨(some 87), none, .mv (.t 11)⟩,
    ⟨(some 88), none, .bin .and (.t 87) (.c (.v (.int .u8 63)))⟩,
    ⟨(some 89), none, .cint .i32 (.t 88)⟩,
    ⟨(some 90), none, .bin .or (.t 86) (.t 89)⟩,
    ⟨(some 2), none, .mv (.t 90)⟩,
    ⟨(some 3), none, .mv (.c (.v (.int .i64 3)))⟩])
  .ret)
  .skip))
  (.seq (.reg [] [⟨(some 91), none, .mv (.t 0)⟩,
    ⟨(some 92), none, .ixS (.t 91) (.c (.v (.int .i64 3)))⟩,
    ⟨(some 12), none, .mv (.t 92)⟩])
  (.seq (.seq (.reg [] [⟨(some 93), none, .mv (.t 12)⟩,
    ⟨(some 94), none, .bin .lss (.t 93) (.c (.v (.int .u8 128)))⟩,
    ⟨(some 95), none, .mv (.t 94)⟩,
    ⟨(some 96), (some (95, false)), .mv (.t 12)⟩,
    ⟨(some 97), (some (95, false)), .bin .lss (.c (.v (.int .u8 191))) (.t 96)⟩,
    ⟨(some 98), none, .pick (.t 95) (.c (.v (.bool true))) (.t 97)⟩])
  (.cond (.t 98) (.seq (.reg [] [⟨(some 2), none, .mv (.c (.v (.int .i32 65533)))⟩,
    ⟨(some 3), none, .mv (.c (.v (.int .i64 1)))⟩])
  .ret)
  .skip))
  (.seq (.reg [] [⟨(some 99), none, .mv (.t 5)⟩,
    ⟨(some 100), none, .bin .and (.t 99) (.c (.v (.int .u8 7)))⟩,
    ⟨(some 101), none, .cint .i32 (.t 100)⟩,
    ⟨(some 102), none, .bin .shl (.t 101) (.c (.v (.int .u64 18)))⟩,
    ⟨(some 103), none, .mv (.t 10)⟩,
    ⟨(some 104), none, .bin .and (.t 103) (.c (.v (.int .u8 63)))⟩,
    ⟨(some 105), none, .cint .i32 (.t 104)⟩,
    ⟨(some 106), none, .bin .shl (.t 105) (.c (.v (.int .u64 12)))⟩,
    ⟨(some 107), none, .bin .or (.t 102) (.t 106)⟩,
    ⟨(some 108), none, .mv (.t 11)⟩,
    ⟨(some 109), none, .bin .and (.t 108) (.c (.v (.int .u8 63)))⟩,
    ⟨(some 110), none, .cint .i32 (.t 109)⟩,
    ⟨(some 111), none, .bin .shl (.t 110) (.c (.v (.int .u64 6)))⟩,
    ⟨(some 112), none, .bin .or (.t 107) (.t 111)⟩,
    ⟨(some 113), none, .mv (.t 12)⟩,
    ⟨(some 114), none, .bin .and (.t 113) (.c (.v (.int .u8 63)))⟩,
    ⟨(some 115), none, .cint .i32 (.t 114)⟩,
    ⟨(some 116), none, .bin .or (.t 112) (.t 115)⟩,
    ⟨(some 2), none, .mv (.t 116)⟩,
    ⟨(some 3), none, .mv (.c (.v (.int .i64 4)))⟩])
  .ret))))))))))))))))))
noncomputable def r259 : RFn := ⟨117, b259, [.tmp 2, .tmp 3]⟩
noncomputable def k259 : List (List Nat) := []
theorem t259 : toRFn C k259 259 = some r259 := by kernel_rfl
/-- unicode/utf8.RuneStart -/
noncomputable def b261 : RC := (.seq (.reg [] [⟨(some 2), none, .mv (.c (.v (.bool false)))⟩])
  (.seq (.reg [] [⟨(some 3), none, .mv (.t 0)⟩,
    ⟨(some 4), none, .bin .and (.t 3) (.c (.v (.int .u8 192)))⟩,
    ⟨(some 5), none, .bin .neq (.t 4) (.c (.v (.int .u8 128)))⟩,
    ⟨(some 2), none, .mv (.t 5)⟩])
  .ret))
noncomputable def r261 : RFn := ⟨6, b261, [.tmp 2]⟩
noncomputable def k261 : List (List Nat) := []
theorem t261 : toRFn C k261 261 = some r261 := by kernel_rfl
/-- unicode/utf8.decodeRuneSlow -/
noncomputable def b262 : RC := (.seq (.reg [] [⟨(some 2), none, .mv (.c (.v (.int .i32 0)))⟩,
    ⟨(some 3), none, .mv (.c (.v (.int .i64 0)))⟩])
  (.seq (.reg [] [⟨(some 13), none, .mv (.t 0)⟩,
    ⟨(some 14), none, .len .sl (.t 13)⟩,
    ⟨(some 4), none, .mv (.t 14)⟩])
  (.seq (.seq (.reg [] [⟨(some 15), none, .mv (.t 4)⟩,
    ⟨(some 16), none, .bin .lss (.t 15) (.c (.v (.int .i64 1)))⟩])
  (.cond (.t 16) (.seq (.reg [] [⟨(some 2), none, .mv (.c (.v (.int .i32 65533)))⟩,
    ⟨(some 3), none, .mv (.c (.v (.int .i64 0)))⟩])
  .ret)
  .skip))
  (.seq (.reg [] [⟨(some 17), none, .mv (.t 0)⟩,
    ⟨(some 18), none, .iaS 1 (.t 17) (.c (.v (.int .i64 0)))⟩,
    ⟨(some 19), none, .load none (.t 18)⟩,
    ⟨(some 5), none, .mv (.t 19)⟩])
  (.seq (.reg [] [⟨(some 20), none, .mv (.t 5)⟩,
    ⟨(some 21), none, .bad⟩,
    ⟨(some 22), none, .load none (.t 21)⟩,
    ⟨(some 6), none, .mv (.t 22)⟩])
  (.seq (.seq (.reg [] [⟨(some 23), none, .mv (.t 6)⟩,
    ⟨(some 24), none, .bin .geq (.t 23) (.c (.v (.int .u8 240)))⟩])
  (.cond (.t 24) (.seq (.reg [] [⟨(some 25), none, .mv (.t 6)⟩,
    ⟨(some 26), none, .cint .i32 (.t 25)⟩,
    ⟨(some 27), none, .bin .shl (.t 26) (.c (.v (.int .u64 31)))⟩,
    ⟨(some 28), none, .bin .shr (.t 27) (.c (.v (.int .u64 31)))⟩,
    ⟨(some 7), none, .mv (.t 28)⟩])
  (.seq (.reg [] [⟨(some 29), none, .mv (.t 0)⟩,
    ⟨(some 30), none, .iaS 1 (.t 29) (.c (.v (.int .i64 0)))⟩,
    ⟨(some 31), none, .load none (.t 30)⟩,
    ⟨(some 32), none, .cint .i32 (.t 31)⟩,
    ⟨(some 33), none, .mv (.t 7)⟩,
    ⟨(some 34), none, .bin .andNot (.t 32) (.t 33)⟩,
    ⟨(some 35), none, .mv (.t 7)⟩,
    ⟨(some 36), none, .bin .and (.c (.v (.int .i32 65533))) (.t 35)⟩,
    ⟨(some 37), none, .bin .or (.t 34) (.t 36)⟩,
    ⟨(some 2), none, .mv (.t 37)⟩,
    ⟨(some 3), none, .mv (.c (.v (.int .i64 1)))⟩])
  .ret))
  .skip))
  (.seq (.reg [] [⟨(some 38), none, .mv (.t 6)⟩,
    ⟨(some 39), none, .bin .and (.t 38) (.c (.v (.int .u8 7)))⟩,
    ⟨(some 40), none, .cint .i64 (.t 39)⟩,
    ⟨(some 8), none, .mv (.t 40)⟩])
  (.seq (.reg [] [⟨(some 41), none, .mv (.t 6)⟩,
    ⟨(some 42), none, .bin .shr (.t 41) (.c (.v (.int .u64 4)))⟩,
    ⟨(some 43), none, .bad⟩,
    ⟨(some 44), none, .load (some 2) (.t 43)⟩,
    ⟨(some 9), none, .box (.c (.agg [(.v (.int .u8 0)), (.v (.int .u8 0))]))⟩,
    ⟨none, none, .store 2 (.t 9) (.t 44)⟩])
  (.seq (.seq (.reg [] [⟨(some 45), none, .mv (.t 4)⟩,
    ⟨(some 46), none, .mv (.t 8)⟩,
    ⟨(some 47), none, .bin .lss (.t 45) (.t 46)⟩])
  (.cond (.t 47) (.seq (.reg [] [⟨(some 2), none, .mv (.c (.v (.int .i32 65533)))⟩,
    ⟨(some 3), none, .mv (.c (.v (.int .i64 1)))⟩])
  .ret)
  .skip))
  (.seq (.reg [] [⟨(some 48), none, .mv (.t 0)⟩,
    ⟨(some 49), none, .iaS 1 (.t 48) (.c (.v (.int .i64 1)))⟩,
    ⟨(some 50), none, .load none (.t 49)⟩,
    ⟨(some 10), none, .mv (.t 50)⟩])
  (.seq (.seq (.reg [] [⟨(some 51), none, .mv (.t 10)⟩,
    ⟨(some 52), none, .fa 0 (.t 9)⟩,
    ⟨(some 53), none, .load none (.t 52)⟩,
    ⟨(some 54), none, .bin .lss (.t 51) (.t 53)⟩,
    ⟨(some 55), none, .mv (.t 54)⟩,
    ⟨(some 56), (some (55, false)), .fa 1 (.t 9)⟩,
    ⟨(some 57), (some (55, false)), .load none (.t 56)⟩,
    ⟨(some 58), (some (55, false)), .mv (.t 10)⟩,
    ⟨(some 59), (some (55, false)), .bin .lss (.t 57) (.t 58)⟩,
    ⟨(some 60), none, .pick (.t 55) (.c (.v (.bool true))) (.t 59)⟩])
  (.cond (.t 60) (.seq (.reg [] [⟨(some 2), none, .mv (.c (.v (.int .i32 65533)))⟩,
    ⟨(some 3), none, .mv (.c (.v (.int .i64 1)))⟩])
  .ret)
  .skip))
  (.seq (.seq (.reg [] [⟨(some 61), none, .mv (.t 8)⟩,
    ⟨(some 62), none, .bin .leq (.t 61) (.c (.v (.int .i64 2)))⟩])
  (.cond (.t 62) (.seq (.reg [] [⟨(some 63), none, .mv (.t 5)⟩,
    ⟨(some 64), none, .bin .and (.t 63) (.c (.v (.int .u8 31)))⟩,
    ⟨(some 65), none, .cint .i32 (.t 64)⟩,
    ⟨(some 66), none, .bin .shl (.t 65) (.c (.v (.int .u64 6)))⟩,
    ⟨(some 67), none, .mv (.t 10)⟩,
    ⟨(some 68), none, .bin .and (.t 67) (.c (.v (.int .u8 63)))⟩,
    ⟨(some 69), none, .cint .i32 (.t 68)⟩,
    ⟨(some 70), none, .bin .or (.t 66) (.t 69)⟩,
    ⟨(some 2), none, .mv (.t 70)⟩,
    ⟨(some 3), none, .mv (.c (.v (.int .i64 2)))⟩])
  .ret)
  .skip))
  (.seq (.reg [] [⟨(some 71), none, .mv (.t 0)⟩,
    ⟨(some 72), none, .iaS 1 (.t 71) (.c (.v (.int .i64 2)))⟩,
    ⟨(some 73), none, .load none (.t 72)⟩,
    ⟨(some 11), none, .mv (.t 73)⟩])
  (.seq (.seq (.reg [] [⟨(some 74), none, .mv (.t 11)⟩,
    ⟨(some 75), none, .bin .lss (.t 74) (.c (.v (.int .u8 128)))⟩,
    ⟨(some 76), none, .mv (.t 75)⟩,
    ⟨(some 77), (some (76, false)), .mv (.t 11)⟩,
    ⟨(some 78), (some (76, false)), .bin .lss (.c (.v (.int .u8 191))) (.t 77)⟩,
    ⟨(some 79), none, .pick (.t 76) (.c (.v (.bool true))) (.t 78)⟩])
  (.cond (.t 79) (.seq (.reg [] [⟨(some 2), none, .mv (.c (.v (.int .i32 65533)))⟩,
    ⟨(some 3), none, .mv (.c (.v (.int .i64 1)))⟩])
  .ret)
  .skip))
  (.seq (.seq (.reg [] [⟨(some 80), none, .mv (.t 8)⟩,
    ⟨(some 81), none, .bin .leq (.t 80) (.c (.v (.int .i64 3)))⟩])
  (.cond (.t 81) (.seq (.reg [] [⟨(some 82), none, .mv (.t 5)⟩,
    ⟨(some 83), none, .bin .and (.t 82) (.c (.v (.int .u8 15)))⟩,
    ⟨(some 84), none, .cint .i32 (.t 83)⟩,
    ⟨(some 85), none, .bin .shl (.t 84) (.c (.v (.int .u64 12)))⟩,
    ⟨(some 86), none, .mv (.t 10)⟩,
    ⟨(some 87), none, .bin .and (.t 86) (.c (.v (.int .u8 63)))⟩,
    ⟨(some 88), none, .cint .i32 (.t 87)⟩,
    ⟨(some 89), none, .bin .shl (.t 88) (.c (.v (.int .u64 6)))⟩,
    ⟨(some 90), none, .bin .or (.t 85) (.t 89)⟩,
    ⟨(some 91), none, .mv (.t 11)⟩,
    ⟨(some 92), none, .bin .and (.t 91) (.c (.v (.int .u8 63)))⟩,
    ⟨(some 93), none, .cint .i32 (.t 92)⟩,
    ⟨(some 94), none, .bin .or (.t 90) (.t 93)⟩,
    ⟨(some 2), none, .mv (.t 94)⟩,
    ⟨(some 3), none, .mv (.c (.v (.int .i64 3)))⟩])
  .ret)
  .skip))
  (.seq (.reg [] [⟨(some 95), none, .mv (.t 0)⟩,
    ⟨(some 96), none, .iaS 1 (.t 95) (.c (.v (.int .i64 3)))⟩,
    ⟨(some 97), none, .load none (.t 96)⟩,
    ⟨(some 12), none, .mv (.t 97)⟩])
  (.seq (.seq (.reg [] [⟨(some 98), none, .mv (.t 12)⟩,
    ⟨(some 99), none, .bin .lss (.t 98) (.c (.v (.int .u8 128)))⟩,
    ⟨(some 100), none, .mv (.t 99)⟩,
    ⟨(some 101), (some (100, false)), .mv (.t 12)⟩,
    ⟨(some 102), (some (100, false)), .bin .lss (.c (.v (.int .u8 191))) (.t 101)⟩,
    ⟨(some 103), none, .pick (.t 100) (.c (.v (.bool true))) (.t 102)⟩])
  (.cond (.t 103) (.seq (.reg [] [⟨(some 2), none, .mv (.c (.v (.int .i32 65533)))⟩,
    ⟨(some 3), none, .mv (.c (.v (.int .i64 1)))⟩])
  .ret)
  .skip))
  (.seq (.reg [] [⟨(some 104), none, .mv (.t 5)⟩,
    ⟨(some 105), none, .bin .and (.t 104) (.c (.v (.int .u8 7)))⟩,
    ⟨(some 106), none, .cint .i32 (.t 105)⟩,
    ⟨(some 107), none, .bin .shl (.t 106) (.c (.v (.int .u64 18)))⟩,
    ⟨(some 108), none, .mv (.t 10)⟩,
    ⟨(some 109), none, .bin .and (.t 108) (.c (.v (.int .u8 63)))⟩,
    ⟨(some 110), none, .cint .i32 (.t 109)⟩,
    ⟨(some 111), none, .bin .shl (.t 110) (.c (.v (.int .u64 12)))⟩,
    ⟨(some 112), none, .bin .or (.t 107) (.t 111)⟩,
    ⟨(some 113), none, .mv (.t 11)⟩,
    ⟨(some 114), none, .bin .and (.t 113) (.c (.v (.int .u8 63)))⟩,
    ⟨(some 115), none, .cint .i32 (.t 114)⟩,
    ⟨(some 116), none, .bin .shl (.t 115) (.c (.v (.int .u64 6)))⟩,
    ⟨(some 117), none, .bin .or (.t 112) (.t 116)⟩,
    ⟨(some 118), none, .mv (.t 12)⟩,
    ⟨(some 119), none, .bin .and (.t 118) (.c (.v (.int .u8 63)))⟩,
    ⟨(some 120), none, .cint .i32 (.t 119)⟩,
    ⟨(some 121), none, .bin .or (.t 117) (.t 120)⟩,
    ⟨(some 2), none, .mv (.t 121)⟩,
    ⟨(some 3), none, .mv (.c (.v (.int .i64 4)))⟩])
  .ret))))))))))))))))))
noncomputable def r262 : RFn := ⟨122, b262, [.tmp 2, .tmp 3]⟩
noncomputable def k262 : List (List Nat) := []
theorem t262 : toRFn C k262 262 = some r262 := by kernel_rfl
/-- strings.IndexByte -/
noncomputable def b263 : RC := (.seq (.reg [] [⟨(some 4), none, .mv (.c (.v (.int .i64 0)))⟩])
  (.seq (.reg [] [⟨(some 5), none, .mv (.t 0)⟩,
    ⟨(some 6), none, .mv (.t 1)⟩,
    ⟨(some 7), none, .call 267 [(.t 5), (.t 6)]⟩,
    ⟨(some 4), none, .mv (.t 7)⟩])
  .ret))
noncomputable def r263 : RFn := ⟨8, b263, [.tmp 4]⟩
noncomputable def k263 : List (List Nat) := []
theorem t263 : toRFn C k263 263 = some r263 := by kernel_rfl
/-- unicode/utf8.ValidRune -/
noncomputable def b264 : RC := (.seq (.reg [] [⟨(some 2), none, .mv (.c (.v (.bool false)))⟩])
  (.seq (.block 0 (.seq (.reg [] [⟨(some 4), none, .mv (.t 0)⟩,
    ⟨(some 5), none, .bin .leq (.c (.v (.int .i32 0))) (.t 4)⟩,
    ⟨(some 6), none, .mv (.t 5)⟩,
    ⟨(some 7), (some (6, true)), .mv (.t 0)⟩,
    ⟨(some 8), (some (6, true)), .bin .lss (.t 7) (.c (.v (.int .i32 55296)))⟩,
    ⟨(some 9), none, .pick (.t 6) (.t 8) (.c (.v (.bool false)))⟩,
    ⟨(some 3), none, .mv (.t 9)⟩])
  (.cond (.t 3) (.seq (.reg [] [⟨(some 2), none, .mv (.c (.v (.bool true)))⟩])
  .ret)
  (.seq (.reg [] [⟨(some 11), none, .mv (.t 0)⟩,
    ⟨(some 12), none, .bin .lss (.c (.v (.int .i32 57343))) (.t 11)⟩,
    ⟨(some 13), none, .mv (.t 12)⟩,
    ⟨(some 14), (some (13, true)), .mv (.t 0)⟩,
    ⟨(some 15), (some (13, true)), .bin .leq (.t 14) (.c (.v (.int .i32 1114111)))⟩,
    ⟨(some 16), none, .pick (.t 13) (.t 15) (.c (.v (.bool false)))⟩,
    ⟨(some 10), none, .mv (.t 16)⟩])
  (.cond (.t 10) (.seq (.reg [] [⟨(some 2), none, .mv (.c (.v (.bool true)))⟩])
  .ret)
  .skip)))))
  (.seq (.reg [] [⟨(some 2), none, .mv (.c (.v (.bool false)))⟩])
  .ret)))
noncomputable def r264 : RFn := ⟨17, b264, [.tmp 2]⟩
noncomputable def k264 : List (List Nat) := []
theorem t264 : toRFn C k264 264 = some r264 := by kernel_rfl
/-- internal/stringslite.IndexByte -/
noncomputable def b267 : RC := (.seq (.reg [] [⟨(some 4), none, .mv (.c (.v (.int .i64 0)))⟩])
  (.seq (.reg [] [⟨(some 5), none, .mv (.t 0)⟩,
    ⟨(some 6), none, .mv (.t 1)⟩,
    ⟨(some 7), none, .call 268 [(.t 5), (.t 6)]⟩,
    ⟨(some 4), none, .mv (.t 7)⟩])
  .ret))
noncomputable def r267 : RFn := ⟨8, b267, [.tmp 4]⟩
noncomputable def k267 : List (List Nat) := []
theorem t267 : toRFn C k267 267 = some r267 := by kernel_rfl
noncomputable def tb : Tb := (.node (.node (.node (.node (.node (.node (.node .nil 3 r3 .nil) 9 r9 (.node .nil 10 r10 .nil)) 11 r11 (.node (.node .nil 12 r12 .nil) 13 r13 (.node .nil 20 r20 .nil))) 23 r23 (.node (.node (.node .nil 34 r34 .nil) 37 r37 (.node .nil 44 r44 .nil)) 47 r47 (.node (.node .nil 57 r57 .nil) 64 r64 .nil))) 65 r65 (.node (.node (.node (.node .nil 66 r66 .nil) 67 r67 (.node .nil 68 r68 .nil)) 69 r69 (.node (.node .nil 70 r70 .nil) 71 r71 (.node .nil 72 r72 .nil))) 81 r81 (.node (.node (.node .nil 82 r82 .nil) 83 r83 (.node .nil 101 r101 .nil)) 109 r109 (.node (.node .nil 110 r110 .nil) 111 r111 .nil)))) 112 r112 (.node (.node (.node (.node (.node .nil 113 r113 .nil) 114 r114 (.node .nil 115 r115 .nil)) 116 r116 (.node (.node .nil 117 r117 .nil) 145 r145 (.node .nil 146 r146 .nil))) 147 r147 (.node (.node (.node .nil 148 r148 .nil) 149 r149 (.node .nil 160 r160 .nil)) 161 r161 (.node (.node .nil 162 r162 .nil) 172 r172 .nil))) 173 r173 (.node (.node (.node (.node .nil 174 r174 .nil) 175 r175 (.node .nil 181 r181 .nil)) 182 r182 (.node (.node .nil 183 r183 .nil) 184 r184 (.node .nil 190 r190 .nil))) 191 r191 (.node (.node (.node .nil 192 r192 .nil) 193 r193 (.node .nil 194 r194 .nil)) 195 r195 (.node (.node .nil 196 r196 .nil) 197 r197 .nil))))) 198 r198 (.node (.node (.node (.node (.node (.node .nil 199 r199 .nil) 200 r200 (.node .nil 201 r201 .nil)) 202 r202 (.node (.node .nil 206 r206 .nil) 207 r207 (.node .nil 208 r208 .nil))) 209 r209 (.node (.node (.node .nil 210 r210 .nil) 211 r211 (.node .nil 212 r212 .nil)) 213 r213 (.node (.node .nil 214 r214 .nil) 219 r219 .nil))) 220 r220 (.node (.node (.node (.node .nil 221 r221 .nil) 222 r222 (.node .nil 223 r223 .nil)) 224 r224 (.node (.node .nil 225 r225 .nil) 226 r226 (.node .nil 227 r227 .nil))) 228 r228 (.node (.node (.node .nil 229 r229 .nil) 230 r230 (.node .nil 231 r231 .nil)) 232 r232 (.node (.node .nil 233 r233 .nil) 234 r234 .nil)))) 235 r235 (.node (.node (.node (.node (.node .nil 236 r236 .nil) 237 r237 (.node .nil 238 r238 .nil)) 239 r239 (.node (.node .nil 240 r240 .nil) 241 r241 (.node .nil 242 r242 .nil))) 243 r243 (.node (.node (.node .nil 244 r244 .nil) 245 r245 (.node .nil 246 r246 .nil)) 248 r248 (.node (.node .nil 249 r249 .nil) 250 r250 .nil))) 251 r251 (.node (.node (.node (.node .nil 252 r252 .nil) 253 r253 (.node .nil 254 r254 .nil)) 255 r255 (.node (.node .nil 256 r256 .nil) 257 r257 .nil)) 258 r258 (.node (.node (.node .nil 259 r259 .nil) 261 r261 (.node .nil 262 r262 .nil)) 263 r263 (.node (.node .nil 264 r264 .nil) 267 r267 .nil))))))
noncomputable abbrev tab : FuncId → Option RFn := tb.get
theorem tab_ok (hm : C.P.follows .mixedOrders = true) : TabOk C (DrawOk C) tab := tb_ok hm ⟨⟨⟨⟨⟨⟨⟨trivial, ⟨_, t3⟩, trivial⟩, ⟨_, t9⟩, ⟨trivial, ⟨_, t10⟩, trivial⟩⟩, ⟨_, t11⟩, ⟨⟨trivial, ⟨_, t12⟩, trivial⟩, ⟨_, t13⟩, ⟨trivial, ⟨_, t20⟩, trivial⟩⟩⟩, ⟨_, t23⟩, ⟨⟨⟨trivial, ⟨_, t34⟩, trivial⟩, ⟨_, t37⟩, ⟨trivial, ⟨_, t44⟩, trivial⟩⟩, ⟨_, t47⟩, ⟨⟨trivial, ⟨_, t57⟩, trivial⟩, ⟨_, t64⟩, trivial⟩⟩⟩, ⟨_, t65⟩, ⟨⟨⟨⟨trivial, ⟨_, t66⟩, trivial⟩, ⟨_, t67⟩, ⟨trivial, ⟨_, t68⟩, trivial⟩⟩, ⟨_, t69⟩, ⟨⟨trivial, ⟨_, t70⟩, trivial⟩, ⟨_, t71⟩, ⟨trivial, ⟨_, t72⟩, trivial⟩⟩⟩, ⟨_, t81⟩, ⟨⟨⟨trivial, ⟨_, t82⟩, trivial⟩, ⟨_, t83⟩, ⟨trivial, ⟨_, t101⟩, trivial⟩⟩, ⟨_, t109⟩, ⟨⟨trivial, ⟨_, t110⟩, trivial⟩, ⟨_, t111⟩, trivial⟩⟩⟩⟩, ⟨_, t112⟩, ⟨⟨⟨⟨⟨trivial, ⟨_, t113⟩, trivial⟩, ⟨_, t114⟩, ⟨trivial, ⟨_, t115⟩, trivial⟩⟩, ⟨_, t116⟩, ⟨⟨trivial, ⟨_, t117⟩, trivial⟩, ⟨_, t145⟩, ⟨trivial, ⟨_, t146⟩, trivial⟩⟩⟩, ⟨_, t147⟩, ⟨⟨⟨trivial, ⟨_, t148⟩, trivial⟩, ⟨_, t149⟩, ⟨trivial, ⟨_, t160⟩, trivial⟩⟩, ⟨_, t161⟩, ⟨⟨trivial, ⟨_, t162⟩, trivial⟩, ⟨_, t172⟩, trivial⟩⟩⟩, ⟨_, t173⟩, ⟨⟨⟨⟨trivial, ⟨_, t174⟩, trivial⟩, ⟨_, t175⟩, ⟨trivial, ⟨_, t181⟩, trivial⟩⟩, ⟨_, t182⟩, ⟨⟨trivial, ⟨_, t183⟩, trivial⟩, ⟨_, t184⟩, ⟨trivial, ⟨_, t190⟩, trivial⟩⟩⟩, ⟨_, t191⟩, ⟨⟨⟨trivial, ⟨_, t192⟩, trivial⟩, ⟨_, t193⟩, ⟨trivial, ⟨_, t194⟩, trivial⟩⟩, ⟨_, t195⟩, ⟨⟨trivial, ⟨_, t196⟩, trivial⟩, ⟨_, t197⟩, trivial⟩⟩⟩⟩⟩, ⟨_, t198⟩, ⟨⟨⟨⟨⟨⟨trivial, ⟨_, t199⟩, trivial⟩, ⟨_, t200⟩, ⟨trivial, ⟨_, t201⟩, trivial⟩⟩, ⟨_, t202⟩, ⟨⟨trivial, ⟨_, t206⟩, trivial⟩, ⟨_, t207⟩, ⟨trivial, ⟨_, t208⟩, trivial⟩⟩⟩, ⟨_, t209⟩, ⟨⟨⟨trivial, ⟨_, t210⟩, trivial⟩, ⟨_, t211⟩, ⟨trivial, ⟨_, t212⟩, trivial⟩⟩, ⟨_, t213⟩, ⟨⟨trivial, ⟨_, t214⟩, trivial⟩, ⟨_, t219⟩, trivial⟩⟩⟩, ⟨_, t220⟩, ⟨⟨⟨⟨trivial, ⟨_, t221⟩, trivial⟩, ⟨_, t222⟩, ⟨trivial, ⟨_, t223⟩, trivial⟩⟩, ⟨_, t224⟩, ⟨⟨trivial, ⟨_, t225⟩, trivial⟩, ⟨_, t226⟩, ⟨trivial, ⟨_, t227⟩, trivial⟩⟩⟩, ⟨_, t228⟩, ⟨⟨⟨trivial, ⟨_, t229⟩, trivial⟩, ⟨_, t230⟩, ⟨trivial, ⟨_, t231⟩, trivial⟩⟩, ⟨_, t232⟩, ⟨⟨trivial, ⟨_, t233⟩, trivial⟩, ⟨_, t234⟩, trivial⟩⟩⟩⟩, ⟨_, t235⟩, ⟨⟨⟨⟨⟨trivial, ⟨_, t236⟩, trivial⟩, ⟨_, t237⟩, ⟨trivial, ⟨_, t238⟩, trivial⟩⟩, ⟨_, t239⟩, ⟨⟨trivial, ⟨_, t240⟩, trivial⟩, ⟨_, t241⟩, ⟨trivial, ⟨_, t242⟩, trivial⟩⟩⟩, ⟨_, t243⟩, ⟨⟨⟨trivial, ⟨_, t244⟩, trivial⟩, ⟨_, t245⟩, ⟨trivial, ⟨_, t246⟩, trivial⟩⟩, ⟨_, t248⟩, ⟨⟨trivial, ⟨_, t249⟩, trivial⟩, ⟨_, t250⟩, trivial⟩⟩⟩, ⟨_, t251⟩, ⟨⟨⟨⟨trivial, ⟨_, t252⟩, trivial⟩, ⟨_, t253⟩, ⟨trivial, ⟨_, t254⟩, trivial⟩⟩, ⟨_, t255⟩, ⟨⟨trivial, ⟨_, t256⟩, trivial⟩, ⟨_, t257⟩, trivial⟩⟩, ⟨_, t258⟩, ⟨⟨⟨trivial, ⟨_, t259⟩, trivial⟩, ⟨_, t261⟩, ⟨trivial, ⟨_, t262⟩, trivial⟩⟩, ⟨_, t263⟩, ⟨⟨trivial, ⟨_, t264⟩, trivial⟩, ⟨_, t267⟩, trivial⟩⟩⟩⟩⟩⟩
theorem tab3 : tab 3 = some r3 := by kernel_rfl
theorem fn3 {nm : AE.Name} {xs : List T} {h : Heap} : evW C tab 3 nm xs h = fnK [.tmp 2] (evL C tab nm b3 ⟨argF xs 0, [] :: h, [], 0⟩) := ev_fn tab3
theorem u3_0 {p : AE.Name} {f : F} : evL C tab p l3_0 f = evL C tab p m3_0 f := rfl
theorem call3 {call : CallT} {nm : AE.Name} {xs : List T} {h : Heap} {L : List AE.Name} : eCall C call nm 3 xs h L = freeK nm h L (call 3 nm xs []) := call_free (by kernel_rfl) (by kernel_rfl)
theorem tab9 : tab 9 = some r9 := by kernel_rfl
theorem fn9 {nm : AE.Name} {xs : List T} {h : Heap} : evW C tab 9 nm xs h = fnK [.tmp 0] (evL C tab nm b9 ⟨argF xs 0, [] :: h, [], 0⟩) := ev_fn tab9
theorem call9 {call : CallT} {nm : AE.Name} {xs : List T} {h : Heap} {L : List AE.Name} : eCall C call nm 9 xs h L = freeK nm h L (call 9 nm xs []) := call_free (by kernel_rfl) (by kernel_rfl)
theorem tab10 : tab 10 = some r10 := by kernel_rfl
theorem fn10 {nm : AE.Name} {xs : List T} {h : Heap} : evW C tab 10 nm xs h = fnK [.tmp 2] (evL C tab nm b10 ⟨argF xs 0, [] :: h, [], 0⟩) := ev_fn tab10
theorem call10 {call : CallT} {nm : AE.Name} {xs : List T} {h : Heap} {L : List AE.Name} : eCall C call nm 10 xs h L = freeK nm h L (call 10 nm xs []) := call_free (by kernel_rfl) (by kernel_rfl)
theorem tab11 : tab 11 = some r11 := by kernel_rfl
theorem fn11 {nm : AE.Name} {xs : List T} {h : Heap} : evW C tab 11 nm xs h = fnK [.cell 4 (some 4), .tmp 5] (evL C tab nm b11 ⟨argF xs 0, [] :: h, [], 0⟩) := ev_fn tab11
theorem call11 {call : CallT} {nm : AE.Name} {xs : List T} {h : Heap} {L : List AE.Name} : eCall C call nm 11 xs h L = freeK nm h L (call 11 nm xs []) := call_free (by kernel_rfl) (by kernel_rfl)
theorem tab12 : tab 12 = some r12 := by kernel_rfl
theorem fn12 {nm : AE.Name} {xs : List T} {h : Heap} : evW C tab 12 nm xs h = fnK [.tmp 2] (evL C tab nm b12 ⟨argF xs 0, [] :: h, [], 0⟩) := ev_fn tab12
theorem call12 {call : CallT} {nm : AE.Name} {xs : List T} {h : Heap} {L : List AE.Name} : eCall C call nm 12 xs h L = freeK nm h L (call 12 nm xs []) := call_free (by kernel_rfl) (by kernel_rfl)
theorem tab13 : tab 13 = some r13 := by kernel_rfl
theorem fn13 {nm : AE.Name} {xs : List T} {h : Heap} : evW C tab 13 nm xs h = fnK [.cell 4 (some 4), .tmp 5] (evL C tab nm b13 ⟨argF xs 0, [] :: h, [], 0⟩) := ev_fn tab13
theorem call13 {call : CallT} {nm : AE.Name} {xs : List T} {h : Heap} {L : List AE.Name} : eCall C call nm 13 xs h L = freeK nm h L (call 13 nm xs []) := call_free (by kernel_rfl) (by kernel_rfl)
theorem tab20 : tab 20 = some r20 := by kernel_rfl
theorem fn20 {nm : AE.Name} {xs : List T} {h : Heap} : evW C tab 20 nm xs h = fnK [.tmp 2] (evL C tab nm b20 ⟨argF xs 0, [] :: h, [], 0⟩) := ev_fn tab20
theorem call20 {call : CallT} {nm : AE.Name} {xs : List T} {h : Heap} {L : List AE.Name} : eCall C call nm 20 xs h L = freeK nm h L (call 20 nm xs []) := call_free (by kernel_rfl) (by kernel_rfl)
theorem tab23 : tab 23 = some r23 := by kernel_rfl
theorem fn23 {nm : AE.Name} {xs : List T} {h : Heap} : evW C tab 23 nm xs h = fnK [.tmp 2] (evL C tab nm b23 ⟨argF xs 0, [] :: h, [], 0⟩) := ev_fn tab23
theorem call23 {call : CallT} {nm : AE.Name} {xs : List T} {h : Heap} {L : List AE.Name} : eCall C call nm 23 xs h L = freeK nm h L (call 23 nm xs []) := call_free (by kernel_rfl) (by kernel_rfl)
theorem tab34 : tab 34 = some r34 := by kernel_rfl
theorem fn34 {nm : AE.Name} {xs : List T} {h : Heap} : evW C tab 34 nm xs h = fnK [.tmp 2] (evL C tab nm b34 ⟨argF xs 0, [] :: h, [], 0⟩) := ev_fn tab34
theorem u34_0 {p : AE.Name} {f : F} : evL C tab p l34_0 f = evL C tab p m34_0 f := rfl
theorem u34_1 {p : AE.Name} {f : F} : evL C tab p l34_1 f = evL C tab p m34_1 f := rfl
theorem call34 {call : CallT} {nm : AE.Name} {xs : List T} {h : Heap} {L : List AE.Name} : eCall C call nm 34 xs h L = freeK nm h L (call 34 nm xs []) := call_free (by kernel_rfl) (by kernel_rfl)
theorem tab37 : tab 37 = some r37 := by kernel_rfl
theorem fn37 {nm : AE.Name} {xs : List T} {h : Heap} : evW C tab 37 nm xs h = fnK [.tmp 2] (evL C tab nm b37 ⟨argF xs 0, [] :: h, [], 0⟩) := ev_fn tab37
theorem call37 {call : CallT} {nm : AE.Name} {xs : List T} {h : Heap} {L : List AE.Name} : eCall C call nm 37 xs h L = freeK nm h L (call 37 nm xs []) := call_free (by kernel_rfl) (by kernel_rfl)
theorem tab44 : tab 44 = some r44 := by kernel_rfl
theorem fn44 {nm : AE.Name} {xs : List T} {h : Heap} : evW C tab 44 nm xs h = fnK [.tmp 2] (evL C tab nm b44 ⟨argF xs 0, [] :: h, [], 0⟩) := ev_fn tab44
theorem u44_0 {p : AE.Name} {f : F} : evL C tab p l44_0 f = evL C tab p m44_0 f := rfl
theorem call44 {call : CallT} {nm : AE.Name} {xs : List T} {h : Heap} {L : List AE.Name} : eCall C call nm 44 xs h L = freeK nm h L (call 44 nm xs []) := call_free (by kernel_rfl) (by kernel_rfl)
theorem tab47 : tab 47 = some r47 := by kernel_rfl
theorem fn47 {nm : AE.Name} {xs : List T} {h : Heap} : evW C tab 47 nm xs h = fnK [.tmp 2] (evL C tab nm b47 ⟨argF xs 0, [] :: h, [], 0⟩) := ev_fn tab47
theorem call47 {call : CallT} {nm : AE.Name} {xs : List T} {h : Heap} {L : List AE.Name} : eCall C call nm 47 xs h L = freeK nm h L (call 47 nm xs []) := call_free (by kernel_rfl) (by kernel_rfl)
theorem tab57 : tab 57 = some r57 := by kernel_rfl
theorem fn57 {nm : AE.Name} {xs : List T} {h : Heap} : evW C tab 57 nm xs h = fnK [.tmp 2] (evL C tab nm b57 ⟨argF xs 0, [] :: h, [], 0⟩) := ev_fn tab57
theorem call57 {call : CallT} {nm : AE.Name} {xs : List T} {h : Heap} {L : List AE.Name} : eCall C call nm 57 xs h L = freeK nm h L (call 57 nm xs []) := call_free (by kernel_rfl) (by kernel_rfl)
theorem tab64 : tab 64 = some r64 := by kernel_rfl
theorem fn64 {nm : AE.Name} {xs : List T} {h : Heap} : evW C tab 64 nm xs h = fnK [.cell 4 (some 4), .tmp 5] (evL C tab nm b64 ⟨argF xs 0, [] :: h, [], 0⟩) := ev_fn tab64
theorem call64 {call : CallT} {nm : AE.Name} {xs : List T} {h : Heap} {L : List AE.Name} : eCall C call nm 64 xs h L = freeK nm h L (call 64 nm xs []) := call_free (by kernel_rfl) (by kernel_rfl)
theorem tab65 : tab 65 = some r65 := by kernel_rfl
theorem fn65 {nm : AE.Name} {xs : List T} {h : Heap} : evW C tab 65 nm xs h = fnK [.cell 4 (some 4), .tmp 5] (evL C tab nm b65 ⟨argF xs 0, [] :: h, [], 0⟩) := ev_fn tab65
theorem call65 {call : CallT} {nm : AE.Name} {xs : List T} {h : Heap} {L : List AE.Name} : eCall C call nm 65 xs h L = freeK nm h L (call 65 nm xs []) := call_free (by kernel_rfl) (by kernel_rfl)
theorem tab66 : tab 66 = some r66 := by kernel_rfl
theorem fn66 {nm : AE.Name} {xs : List T} {h : Heap} : evW C tab 66 nm xs h = fnK [.tmp 2] (evL C tab nm b66 ⟨argF xs 0, [] :: h, [], 0⟩) := ev_fn tab66
theorem call66 {call : CallT} {nm : AE.Name} {xs : List T} {h : Heap} {L : List AE.Name} : eCall C call nm 66 xs h L = freeK nm h L (call 66 nm xs []) := call_free (by kernel_rfl) (by kernel_rfl)
theorem tab67 : tab 67 = some r67 := by kernel_rfl
theorem fn67 {nm : AE.Name} {xs : List T} {h : Heap} : evW C tab 67 nm xs h = fnK [.cell 6 (some 4), .tmp 7] (evL C tab nm b67 ⟨argF xs 0, [] :: h, [], 0⟩) := ev_fn tab67
theorem call67 {call : CallT} {nm : AE.Name} {xs : List T} {h : Heap} {L : List AE.Name} : eCall C call nm 67 xs h L = freeK nm h L (call 67 nm xs []) := call_free (by kernel_rfl) (by kernel_rfl)
theorem tab68 : tab 68 = some r68 := by kernel_rfl
theorem fn68 {nm : AE.Name} {xs : List T} {h : Heap} : evW C tab 68 nm xs h = fnK [.cell 4 (some 4), .tmp 5] (evL C tab nm b68 ⟨argF xs 0, [] :: h, [], 0⟩) := ev_fn tab68
theorem call68 {call : CallT} {nm : AE.Name} {xs : List T} {h : Heap} {L : List AE.Name} : eCall C call nm 68 xs h L = freeK nm h L (call 68 nm xs []) := call_free (by kernel_rfl) (by kernel_rfl)
theorem tab69 : tab 69 = some r69 := by kernel_rfl
theorem fn69 {nm : AE.Name} {xs : List T} {h : Heap} : evW C tab 69 nm xs h = fnK [.cell 4 (some 4), .tmp 5] (evL C tab nm b69 ⟨argF xs 0, [] :: h, [], 0⟩) := ev_fn tab69
theorem call69 {call : CallT} {nm : AE.Name} {xs : List T} {h : Heap} {L : List AE.Name} : eCall C call nm 69 xs h L = freeK nm h L (call 69 nm xs []) := call_free (by kernel_rfl) (by kernel_rfl)
theorem tab70 : tab 70 = some r70 := by kernel_rfl
theorem fn70 {nm : AE.Name} {xs : List T} {h : Heap} : evW C tab 70 nm xs h = fnK [.tmp 4] (evL C tab nm b70 ⟨argF xs 0, [] :: h, [], 0⟩) := ev_fn tab70
theorem call70 {call : CallT} {nm : AE.Name} {xs : List T} {h : Heap} {L : List AE.Name} : eCall C call nm 70 xs h L = freeK nm h L (call 70 nm xs []) := call_free (by kernel_rfl) (by kernel_rfl)
theorem tab71 : tab 71 = some r71 := by kernel_rfl
theorem fn71 {nm : AE.Name} {xs : List T} {h : Heap} : evW C tab 71 nm xs h = fnK [.tmp 4] (evL C tab nm b71 ⟨argF xs 0, [] :: h, [], 0⟩) := ev_fn tab71
theorem call71 {call : CallT} {nm : AE.Name} {xs : List T} {h : Heap} {L : List AE.Name} : eCall C call nm 71 xs h L = freeK nm h L (call 71 nm xs []) := call_free (by kernel_rfl) (by kernel_rfl)
theorem tab72 : tab 72 = some r72 := by kernel_rfl
theorem fn72 {nm : AE.Name} {xs : List T} {h : Heap} : evW C tab 72 nm xs h = fnK [.cell 6 (some 4), .tmp 7] (evL C tab nm b72 ⟨argF xs 0, [] :: h, [], 0⟩) := ev_fn tab72
theorem call72 {call : CallT} {nm : AE.Name} {xs : List T} {h : Heap} {L : List AE.Name} : eCall C call nm 72 xs h L = freeK nm h L (call 72 nm xs []) := call_free (by kernel_rfl) (by kernel_rfl)
theorem tab81 : tab 81 = some r81 := by kernel_rfl
theorem fn81 {nm : AE.Name} {xs : List T} {h : Heap} : evW C tab 81 nm xs h = fnK [.tmp 2] (evL C tab nm b81 ⟨argF xs 0, [] :: h, [], 0⟩) := ev_fn tab81
theorem call81 {call : CallT} {nm : AE.Name} {xs : List T} {h : Heap} {L : List AE.Name} : eCall C call nm 81 xs h L = freeK nm h L (call 81 nm xs []) := call_free (by kernel_rfl) (by kernel_rfl)
theorem tab82 : tab 82 = some r82 := by kernel_rfl
theorem fn82 {nm : AE.Name} {xs : List T} {h : Heap} : evW C tab 82 nm xs h = fnK [.tmp 2] (evL C tab nm b82 ⟨argF xs 0, [] :: h, [], 0⟩) := ev_fn tab82
theorem call82 {call : CallT} {nm : AE.Name} {xs : List T} {h : Heap} {L : List AE.Name} : eCall C call nm 82 xs h L = freeK nm h L (call 82 nm xs []) := call_free (by kernel_rfl) (by kernel_rfl)
theorem tab83 : tab 83 = some r83 := by kernel_rfl
theorem fn83 {nm : AE.Name} {xs : List T} {h : Heap} : evW C tab 83 nm xs h = fnK [.tmp 2] (evL C tab nm b83 ⟨argF xs 0, [] :: h, [], 0⟩) := ev_fn tab83
theorem call83 {call : CallT} {nm : AE.Name} {xs : List T} {h : Heap} {L : List AE.Name} : eCall C call nm 83 xs h L = freeK nm h L (call 83 nm xs []) := call_free (by kernel_rfl) (by kernel_rfl)
theorem tab101 : tab 101 = some r101 := by kernel_rfl
theorem fn101 {nm : AE.Name} {xs : List T} {h : Heap} : evW C tab 101 nm xs h = fnK [.tmp 4] (evL C tab nm b101 ⟨argF xs 0, [] :: h, [], 0⟩) := ev_fn tab101
theorem u101_0 {p : AE.Name} {f : F} : evL C tab p l101_0 f = evL C tab p m101_0 f := rfl
theorem call101 {call : CallT} {nm : AE.Name} {xs : List T} {h : Heap} {L : List AE.Name} : eCall C call nm 101 xs h L = freeK nm h L (call 101 nm xs []) := call_free (by kernel_rfl) (by kernel_rfl)
theorem tab109 : tab 109 = some r109 := by kernel_rfl
theorem fn109 {nm : AE.Name} {xs : List T} {h : Heap} : evW C tab 109 nm xs h = fnK [.tmp 4] (evL C tab nm b109 ⟨argF xs 0, [] :: h, [], 0⟩) := ev_fn tab109
theorem call109 {call : CallT} {nm : AE.Name} {xs : List T} {h : Heap} {L : List AE.Name} : eCall C call nm 109 xs h L = heapK call nm 109 xs h L (reach h xs) := call_heap (by kernel_rfl) (by rw [show C.mode 109 = 1 by kernel_rfl]; decide)
theorem tab110 : tab 110 = some r110 := by kernel_rfl
theorem fn110 {nm : AE.Name} {xs : List T} {h : Heap} : evW C tab 110 nm xs h = fnK [.tmp 2] (evL C tab nm b110 ⟨argF xs 0, [] :: h, [], 0⟩) := ev_fn tab110
theorem call110 {call : CallT} {nm : AE.Name} {xs : List T} {h : Heap} {L : List AE.Name} : eCall C call nm 110 xs h L = freeK nm h L (call 110 nm xs []) := call_free (by kernel_rfl) (by kernel_rfl)
theorem tab111 : tab 111 = some r111 := by kernel_rfl
theorem fn111 {nm : AE.Name} {xs : List T} {h : Heap} : evW C tab 111 nm xs h = fnK [.tmp 2] (evL C tab nm b111 ⟨argF xs 0, [] :: h, [], 0⟩) := ev_fn tab111
theorem call111 {call : CallT} {nm : AE.Name} {xs : List T} {h : Heap} {L : List AE.Name} : eCall C call nm 111 xs h L = freeK nm h L (call 111 nm xs []) := call_free (by kernel_rfl) (by kernel_rfl)
theorem tab112 : tab 112 = some r112 := by kernel_rfl
theorem fn112 {nm : AE.Name} {xs : List T} {h : Heap} : evW C tab 112 nm xs h = fnK [.tmp 4] (evL C tab nm b112 ⟨argF xs 0, [] :: h, [], 0⟩) := ev_fn tab112
theorem call112 {call : CallT} {nm : AE.Name} {xs : List T} {h : Heap} {L : List AE.Name} : eCall C call nm 112 xs h L = heapK call nm 112 xs h L (reach h xs) := call_heap (by kernel_rfl) (by rw [show C.mode 112 = 1 by kernel_rfl]; decide)
theorem tab113 : tab 113 = some r113 := by kernel_rfl
theorem fn113 {nm : AE.Name} {xs : List T} {h : Heap} : evW C tab 113 nm xs h = fnK [.tmp 3] (evL C tab nm b113 ⟨argF xs 0, [] :: h, [], 0⟩) := ev_fn tab113
theorem call113 {call : CallT} {nm : AE.Name} {xs : List T} {h : Heap} {L : List AE.Name} : eCall C call nm 113 xs h L = heapK call nm 113 xs h L (reach h xs) := call_heap (by kernel_rfl) (by rw [show C.mode 113 = 1 by kernel_rfl]; decide)
theorem tab114 : tab 114 = some r114 := by kernel_rfl
theorem fn114 {nm : AE.Name} {xs : List T} {h : Heap} : evW C tab 114 nm xs h = fnK [.tmp 2] (evL C tab nm b114 ⟨argF xs 0, [] :: h, [], 0⟩) := ev_fn tab114
theorem call114 {call : CallT} {nm : AE.Name} {xs : List T} {h : Heap} {L : List AE.Name} : eCall C call nm 114 xs h L = freeK nm h L (call 114 nm xs []) := call_free (by kernel_rfl) (by kernel_rfl)
theorem tab115 : tab 115 = some r115 := by kernel_rfl
theorem fn115 {nm : AE.Name} {xs : List T} {h : Heap} : evW C tab 115 nm xs h = fnK [.tmp 2] (evL C tab nm b115 ⟨argF xs 0, [] :: h, [], 0⟩) := ev_fn tab115
theorem call115 {call : CallT} {nm : AE.Name} {xs : List T} {h : Heap} {L : List AE.Name} : eCall C call nm 115 xs h L = freeK nm h L (call 115 nm xs []) := call_free (by kernel_rfl) (by kernel_rfl)
theorem tab116 : tab 116 = some r116 := by kernel_rfl
theorem fn116 {nm : AE.Name} {xs : List T} {h : Heap} : evW C tab 116 nm xs h = fnK [.tmp 2] (evL C tab nm b116 ⟨argF xs 0, [] :: h, [], 0⟩) := ev_fn tab116
theorem call116 {call : CallT} {nm : AE.Name} {xs : List T} {h : Heap} {L : List AE.Name} : eCall C call nm 116 xs h L = freeK nm h L (call 116 nm xs []) := call_free (by kernel_rfl) (by kernel_rfl)
theorem tab117 : tab 117 = some r117 := by kernel_rfl
theorem fn117 {nm : AE.Name} {xs : List T} {h : Heap} : evW C tab 117 nm xs h = fnK [.tmp 2] (evL C tab nm b117 ⟨argF xs 0, [] :: h, [], 0⟩) := ev_fn tab117
theorem call117 {call : CallT} {nm : AE.Name} {xs : List T} {h : Heap} {L : List AE.Name} : eCall C call nm 117 xs h L = freeK nm h L (call 117 nm xs []) := call_free (by kernel_rfl) (by kernel_rfl)
theorem tab145 : tab 145 = some r145 := by kernel_rfl
theorem fn145 {nm : AE.Name} {xs : List T} {h : Heap} : evW C tab 145 nm xs h = fnK [.tmp 4] (evL C tab nm b145 ⟨argF xs 0, [] :: h, [], 0⟩) := ev_fn tab145
theorem call145 {call : CallT} {nm : AE.Name} {xs : List T} {h : Heap} {L : List AE.Name} : eCall C call nm 145 xs h L = heapK call nm 145 xs h L (reach h xs) := call_heap (by kernel_rfl) (by rw [show C.mode 145 = 1 by kernel_rfl]; decide)
theorem tab146 : tab 146 = some r146 := by kernel_rfl
theorem fn146 {nm : AE.Name} {xs : List T} {h : Heap} : evW C tab 146 nm xs h = fnK [.tmp 4] (evL C tab nm b146 ⟨argF xs 0, [] :: h, [], 0⟩) := ev_fn tab146
theorem call146 {call : CallT} {nm : AE.Name} {xs : List T} {h : Heap} {L : List AE.Name} : eCall C call nm 146 xs h L = heapK call nm 146 xs h L (reach h xs) := call_heap (by kernel_rfl) (by rw [show C.mode 146 = 1 by kernel_rfl]; decide)
theorem tab147 : tab 147 = some r147 := by kernel_rfl
theorem fn147 {nm : AE.Name} {xs : List T} {h : Heap} : evW C tab 147 nm xs h = fnK [.tmp 2] (evL C tab nm b147 ⟨argF xs 0, [] :: h, [], 0⟩) := ev_fn tab147
theorem call147 {call : CallT} {nm : AE.Name} {xs : List T} {h : Heap} {L : List AE.Name} : eCall C call nm 147 xs h L = freeK nm h L (call 147 nm xs []) := call_free (by kernel_rfl) (by kernel_rfl)
theorem tab148 : tab 148 = some r148 := by kernel_rfl
theorem fn148 {nm : AE.Name} {xs : List T} {h : Heap} : evW C tab 148 nm xs h = fnK [.tmp 2] (evL C tab nm b148 ⟨argF xs 0, [] :: h, [], 0⟩) := ev_fn tab148
theorem call148 {call : CallT} {nm : AE.Name} {xs : List T} {h : Heap} {L : List AE.Name} : eCall C call nm 148 xs h L = freeK nm h L (call 148 nm xs []) := call_free (by kernel_rfl) (by kernel_rfl)
theorem tab149 : tab 149 = some r149 := by kernel_rfl
theorem fn149 {nm : AE.Name} {xs : List T} {h : Heap} : evW C tab 149 nm xs h = fnK [.tmp 2] (evL C tab nm b149 ⟨argF xs 0, [] :: h, [], 0⟩) := ev_fn tab149
theorem call149 {call : CallT} {nm : AE.Name} {xs : List T} {h : Heap} {L : List AE.Name} : eCall C call nm 149 xs h L = freeK nm h L (call 149 nm xs []) := call_free (by kernel_rfl) (by kernel_rfl)
theorem tab160 : tab 160 = some r160 := by kernel_rfl
theorem fn160 {nm : AE.Name} {xs : List T} {h : Heap} : evW C tab 160 nm xs h = fnK [.tmp 2] (evL C tab nm b160 ⟨argF xs 0, [] :: h, [], 0⟩) := ev_fn tab160
theorem call160 {call : CallT} {nm : AE.Name} {xs : List T} {h : Heap} {L : List AE.Name} : eCall C call nm 160 xs h L = freeK nm h L (call 160 nm xs []) := call_free (by kernel_rfl) (by kernel_rfl)
theorem tab161 : tab 161 = some r161 := by kernel_rfl
theorem fn161 {nm : AE.Name} {xs : List T} {h : Heap} : evW C tab 161 nm xs h = fnK [.tmp 2] (evL C tab nm b161 ⟨argF xs 0, [] :: h, [], 0⟩) := ev_fn tab161
theorem call161 {call : CallT} {nm : AE.Name} {xs : List T} {h : Heap} {L : List AE.Name} : eCall C call nm 161 xs h L = freeK nm h L (call 161 nm xs []) := call_free (by kernel_rfl) (by kernel_rfl)
theorem tab162 : tab 162 = some r162 := by kernel_rfl
theorem fn162 {nm : AE.Name} {xs : List T} {h : Heap} : evW C tab 162 nm xs h = fnK [.tmp 2] (evL C tab nm b162 ⟨argF xs 0, [] :: h, [], 0⟩) := ev_fn tab162
theorem call162 {call : CallT} {nm : AE.Name} {xs : List T} {h : Heap} {L : List AE.Name} : eCall C call nm 162 xs h L = freeK nm h L (call 162 nm xs []) := call_free (by kernel_rfl) (by kernel_rfl)
theorem tab172 : tab 172 = some r172 := by kernel_rfl
theorem fn172 {nm : AE.Name} {xs : List T} {h : Heap} : evW C tab 172 nm xs h = fnK [.tmp 8] (evL C tab nm b172 ⟨argF xs 0, [] :: h, [], 0⟩) := ev_fn tab172
theorem call172 {call : CallT} {nm : AE.Name} {xs : List T} {h : Heap} {L : List AE.Name} : eCall C call nm 172 xs h L = freeK nm h L (call 172 nm xs []) := call_free (by kernel_rfl) (by kernel_rfl)
theorem tab173 : tab 173 = some r173 := by kernel_rfl
theorem fn173 {nm : AE.Name} {xs : List T} {h : Heap} : evW C tab 173 nm xs h = fnK [.tmp 2] (evL C tab nm b173 ⟨argF xs 0, [] :: h, [], 0⟩) := ev_fn tab173
theorem call173 {call : CallT} {nm : AE.Name} {xs : List T} {h : Heap} {L : List AE.Name} : eCall C call nm 173 xs h L = freeK nm h L (call 173 nm xs []) := call_free (by kernel_rfl) (by kernel_rfl)
theorem tab174 : tab 174 = some r174 := by kernel_rfl
theorem fn174 {nm : AE.Name} {xs : List T} {h : Heap} : evW C tab 174 nm xs h = fnK [.cell 4 (some 4), .tmp 5] (evL C tab nm b174 ⟨argF xs 0, [] :: h, [], 0⟩) := ev_fn tab174
theorem call174 {call : CallT} {nm : AE.Name} {xs : List T} {h : Heap} {L : List AE.Name} : eCall C call nm 174 xs h L = freeK nm h L (call 174 nm xs []) := call_free (by kernel_rfl) (by kernel_rfl)
theorem tab175 : tab 175 = some r175 := by kernel_rfl
theorem fn175 {nm : AE.Name} {xs : List T} {h : Heap} : evW C tab 175 nm xs h = fnK [.cell 4 (some 4), .tmp 5] (evL C tab nm b175 ⟨argF xs 0, [] :: h, [], 0⟩) := ev_fn tab175
theorem call175 {call : CallT} {nm : AE.Name} {xs : List T} {h : Heap} {L : List AE.Name} : eCall C call nm 175 xs h L = freeK nm h L (call 175 nm xs []) := call_free (by kernel_rfl) (by kernel_rfl)
theorem tab181 : tab 181 = some r181 := by kernel_rfl
theorem fn181 {nm : AE.Name} {xs : List T} {h : Heap} : evW C tab 181 nm xs h = fnK [.tmp 4] (evL C tab nm b181 ⟨argF xs 0, [] :: h, [], 0⟩) := ev_fn tab181
theorem call181 {call : CallT} {nm : AE.Name} {xs : List T} {h : Heap} {L : List AE.Name} : eCall C call nm 181 xs h L = freeK nm h L (call 181 nm xs []) := call_free (by kernel_rfl) (by kernel_rfl)
theorem tab182 : tab 182 = some r182 := by kernel_rfl
theorem fn182 {nm : AE.Name} {xs : List T} {h : Heap} : evW C tab 182 nm xs h = fnK [.tmp 4] (evL C tab nm b182 ⟨argF xs 0, [] :: h, [], 0⟩) := ev_fn tab182
theorem call182 {call : CallT} {nm : AE.Name} {xs : List T} {h : Heap} {L : List AE.Name} : eCall C call nm 182 xs h L = freeK nm h L (call 182 nm xs []) := call_free (by kernel_rfl) (by kernel_rfl)
theorem tab183 : tab 183 = some r183 := by kernel_rfl
theorem fn183 {nm : AE.Name} {xs : List T} {h : Heap} : evW C tab 183 nm xs h = fnK [.tmp 4] (evL C tab nm b183 ⟨argF xs 0, [] :: h, [], 0⟩) := ev_fn tab183
theorem call183 {call : CallT} {nm : AE.Name} {xs : List T} {h : Heap} {L : List AE.Name} : eCall C call nm 183 xs h L = freeK nm h L (call 183 nm xs []) := call_free (by kernel_rfl) (by kernel_rfl)
theorem tab184 : tab 184 = some r184 := by kernel_rfl
theorem fn184 {nm : AE.Name} {xs : List T} {h : Heap} : evW C tab 184 nm xs h = fnK [.tmp 4] (evL C tab nm b184 ⟨argF xs 0, [] :: h, [], 0⟩) := ev_fn tab184
theorem call184 {call : CallT} {nm : AE.Name} {xs : List T} {h : Heap} {L : List AE.Name} : eCall C call nm 184 xs h L = heapK call nm 184 xs h L (reach h xs) := call_heap (by kernel_rfl) (by rw [show C.mode 184 = 1 by kernel_rfl]; decide)
theorem tab190 : tab 190 = some r190 := by kernel_rfl
theorem fn190 {nm : AE.Name} {xs : List T} {h : Heap} : evW C tab 190 nm xs h = fnK [.tmp 4] (evL C tab nm b190 ⟨argF xs 0, [] :: h, [], 0⟩) := ev_fn tab190
theorem call190 {call : CallT} {nm : AE.Name} {xs : List T} {h : Heap} {L : List AE.Name} : eCall C call nm 190 xs h L = heapK call nm 190 xs h L (reach h xs) := call_heap (by kernel_rfl) (by rw [show C.mode 190 = 1 by kernel_rfl]; decide)
theorem tab191 : tab 191 = some r191 := by kernel_rfl
theorem fn191 {nm : AE.Name} {xs : List T} {h : Heap} : evW C tab 191 nm xs h = fnK [.tmp 3] (evL C tab nm b191 ⟨argF xs 0, [] :: h, [], 0⟩) := ev_fn tab191
theorem call191 {call : CallT} {nm : AE.Name} {xs : List T} {h : Heap} {L : List AE.Name} : eCall C call nm 191 xs h L = heapK call nm 191 xs h L (reach h xs) := call_heap (by kernel_rfl) (by rw [show C.mode 191 = 1 by kernel_rfl]; decide)
theorem tab192 : tab 192 = some r192 := by kernel_rfl
theorem fn192 {nm : AE.Name} {xs : List T} {h : Heap} : evW C tab 192 nm xs h = fnK [.tmp 2] (evL C tab nm b192 ⟨argF xs 0, [] :: h, [], 0⟩) := ev_fn tab192
theorem call192 {call : CallT} {nm : AE.Name} {xs : List T} {h : Heap} {L : List AE.Name} : eCall C call nm 192 xs h L = freeK nm h L (call 192 nm xs []) := call_free (by kernel_rfl) (by kernel_rfl)
theorem tab193 : tab 193 = some r193 := by kernel_rfl
theorem fn193 {nm : AE.Name} {xs : List T} {h : Heap} : evW C tab 193 nm xs h = fnK [.tmp 2] (evL C tab nm b193 ⟨argF xs 0, [] :: h, [], 0⟩) := ev_fn tab193
theorem call193 {call : CallT} {nm : AE.Name} {xs : List T} {h : Heap} {L : List AE.Name} : eCall C call nm 193 xs h L = freeK nm h L (call 193 nm xs []) := call_free (by kernel_rfl) (by kernel_rfl)
theorem tab194 : tab 194 = some r194 := by kernel_rfl
theorem fn194 {nm : AE.Name} {xs : List T} {h : Heap} : evW C tab 194 nm xs h = fnK [.tmp 4] (evL C tab nm b194 ⟨argF xs 0, [] :: h, [], 0⟩) := ev_fn tab194
theorem call194 {call : CallT} {nm : AE.Name} {xs : List T} {h : Heap} {L : List AE.Name} : eCall C call nm 194 xs h L = heapK call nm 194 xs h L (reach h xs) := call_heap (by kernel_rfl) (by rw [show C.mode 194 = 1 by kernel_rfl]; decide)
theorem tab195 : tab 195 = some r195 := by kernel_rfl
theorem fn195 {nm : AE.Name} {xs : List T} {h : Heap} : evW C tab 195 nm xs h = fnK [.tmp 3] (evL C tab nm b195 ⟨argF xs 0, [] :: h, [], 0⟩) := ev_fn tab195
theorem call195 {call : CallT} {nm : AE.Name} {xs : List T} {h : Heap} {L : List AE.Name} : eCall C call nm 195 xs h L = heapK call nm 195 xs h L (reach h xs) := call_heap (by kernel_rfl) (by rw [show C.mode 195 = 1 by kernel_rfl]; decide)
theorem tab196 : tab 196 = some r196 := by kernel_rfl
theorem fn196 {nm : AE.Name} {xs : List T} {h : Heap} : evW C tab 196 nm xs h = fnK [.tmp 4] (evL C tab nm b196 ⟨argF xs 0, [] :: h, [], 0⟩) := ev_fn tab196
theorem call196 {call : CallT} {nm : AE.Name} {xs : List T} {h : Heap} {L : List AE.Name} : eCall C call nm 196 xs h L = heapK call nm 196 xs h L (reach h xs) := call_heap (by kernel_rfl) (by rw [show C.mode 196 = 1 by kernel_rfl]; decide)
theorem tab197 : tab 197 = some r197 := by kernel_rfl
theorem fn197 {nm : AE.Name} {xs : List T} {h : Heap} : evW C tab 197 nm xs h = fnK [.tmp 4] (evL C tab nm b197 ⟨argF xs 0, [] :: h, [], 0⟩) := ev_fn tab197
theorem call197 {call : CallT} {nm : AE.Name} {xs : List T} {h : Heap} {L : List AE.Name} : eCall C call nm 197 xs h L = heapK call nm 197 xs h L (reach h xs) := call_heap (by kernel_rfl) (by rw [show C.mode 197 = 1 by kernel_rfl]; decide)
theorem tab198 : tab 198 = some r198 := by kernel_rfl
theorem fn198 {nm : AE.Name} {xs : List T} {h : Heap} : evW C tab 198 nm xs h = fnK [.tmp 2] (evL C tab nm b198 ⟨argF xs 0, [] :: h, [], 0⟩) := ev_fn tab198
theorem u198_0 {p : AE.Name} {f : F} : evL C tab p l198_0 f = evL C tab p m198_0 f := rfl
theorem call198 {call : CallT} {nm : AE.Name} {xs : List T} {h : Heap} {L : List AE.Name} : eCall C call nm 198 xs h L = freeK nm h L (call 198 nm xs []) := call_free (by kernel_rfl) (by kernel_rfl)
theorem tab199 : tab 199 = some r199 := by kernel_rfl
theorem fn199 {nm : AE.Name} {xs : List T} {h : Heap} : evW C tab 199 nm xs h = fnK [.tmp 4] (evL C tab nm b199 ⟨argF xs 0, [] :: h, [], 0⟩) := ev_fn tab199
theorem u199_0 {p : AE.Name} {f : F} : evL C tab p l199_0 f = evL C tab p m199_0 f := rfl
theorem call199 {call : CallT} {nm : AE.Name} {xs : List T} {h : Heap} {L : List AE.Name} : eCall C call nm 199 xs h L = heapK call nm 199 xs h L (reach h xs) := call_heap (by kernel_rfl) (by rw [show C.mode 199 = 1 by kernel_rfl]; decide)
theorem tab200 : tab 200 = some r200 := by kernel_rfl
theorem fn200 {nm : AE.Name} {xs : List T} {h : Heap} : evW C tab 200 nm xs h = fnK [.tmp 2] (evL C tab nm b200 ⟨argF xs 0, [] :: h, [], 0⟩) := ev_fn tab200
theorem call200 {call : CallT} {nm : AE.Name} {xs : List T} {h : Heap} {L : List AE.Name} : eCall C call nm 200 xs h L = freeK nm h L (call 200 nm xs []) := call_free (by kernel_rfl) (by kernel_rfl)
theorem tab201 : tab 201 = some r201 := by kernel_rfl
theorem fn201 {nm : AE.Name} {xs : List T} {h : Heap} : evW C tab 201 nm xs h = fnK [.tmp 4] (evL C tab nm b201 ⟨argF xs 0, [] :: h, [], 0⟩) := ev_fn tab201
theorem u201_0 {p : AE.Name} {f : F} : evL C tab p l201_0 f = evL C tab p m201_0 f := rfl
theorem call201 {call : CallT} {nm : AE.Name} {xs : List T} {h : Heap} {L : List AE.Name} : eCall C call nm 201 xs h L = heapK call nm 201 xs h L (reach h xs) := call_heap (by kernel_rfl) (by rw [show C.mode 201 = 1 by kernel_rfl]; decide)
theorem tab202 : tab 202 = some r202 := by kernel_rfl
theorem fn202 {nm : AE.Name} {xs : List T} {h : Heap} : evW C tab 202 nm xs h = fnK [.tmp 2] (evL C tab nm b202 ⟨argF xs 0, [] :: h, [], 0⟩) := ev_fn tab202
theorem call202 {call : CallT} {nm : AE.Name} {xs : List T} {h : Heap} {L : List AE.Name} : eCall C call nm 202 xs h L = freeK nm h L (call 202 nm xs []) := call_free (by kernel_rfl) (by kernel_rfl)
theorem tab206 : tab 206 = some r206 := by kernel_rfl
theorem fn206 {nm : AE.Name} {xs : List T} {h : Heap} : evW C tab 206 nm xs h = fnK [.tmp 4] (evL C tab nm b206 ⟨argF xs 0, [] :: h, [], 0⟩) := ev_fn tab206
theorem call206 {call : CallT} {nm : AE.Name} {xs : List T} {h : Heap} {L : List AE.Name} : eCall C call nm 206 xs h L = heapK call nm 206 xs h L (reach h xs) := call_heap (by kernel_rfl) (by rw [show C.mode 206 = 1 by kernel_rfl]; decide)
theorem tab207 : tab 207 = some r207 := by kernel_rfl
theorem fn207 {nm : AE.Name} {xs : List T} {h : Heap} : evW C tab 207 nm xs h = fnK [.tmp 3] (evL C tab nm b207 ⟨argF xs 0, [] :: h, [], 0⟩) := ev_fn tab207
theorem call207 {call : CallT} {nm : AE.Name} {xs : List T} {h : Heap} {L : List AE.Name} : eCall C call nm 207 xs h L = heapK call nm 207 xs h L (reach h xs) := call_heap (by kernel_rfl) (by rw [show C.mode 207 = 1 by kernel_rfl]; decide)
theorem tab208 : tab 208 = some r208 := by kernel_rfl
theorem fn208 {nm : AE.Name} {xs : List T} {h : Heap} : evW C tab 208 nm xs h = fnK [.tmp 4] (evL C tab nm b208 ⟨argF xs 0, [] :: h, [], 0⟩) := ev_fn tab208
theorem call208 {call : CallT} {nm : AE.Name} {xs : List T} {h : Heap} {L : List AE.Name} : eCall C call nm 208 xs h L = heapK call nm 208 xs h L (reach h xs) := call_heap (by kernel_rfl) (by rw [show C.mode 208 = 1 by kernel_rfl]; decide)
theorem tab209 : tab 209 = some r209 := by kernel_rfl
theorem fn209 {nm : AE.Name} {xs : List T} {h : Heap} : evW C tab 209 nm xs h = fnK [.tmp 3] (evL C tab nm b209 ⟨argF xs 0, [] :: h, [], 0⟩) := ev_fn tab209
theorem call209 {call : CallT} {nm : AE.Name} {xs : List T} {h : Heap} {L : List AE.Name} : eCall C call nm 209 xs h L = heapK call nm 209 xs h L (reach h xs) := call_heap (by kernel_rfl) (by rw [show C.mode 209 = 1 by kernel_rfl]; decide)
theorem tab210 : tab 210 = some r210 := by kernel_rfl
theorem fn210 {nm : AE.Name} {xs : List T} {h : Heap} : evW C tab 210 nm xs h = fnK [.tmp 4] (evL C tab nm b210 ⟨argF xs 0, [] :: h, [], 0⟩) := ev_fn tab210
theorem call210 {call : CallT} {nm : AE.Name} {xs : List T} {h : Heap} {L : List AE.Name} : eCall C call nm 210 xs h L = freeK nm h L (call 210 nm xs []) := call_free (by kernel_rfl) (by kernel_rfl)
theorem tab211 : tab 211 = some r211 := by kernel_rfl
theorem fn211 {nm : AE.Name} {xs : List T} {h : Heap} : evW C tab 211 nm xs h = fnK [.cell 4 (some 17)] (evL C tab nm b211 ⟨argF xs 0, [] :: h, [], 0⟩) := ev_fn tab211
theorem u211_0 {p : AE.Name} {f : F} : evL C tab p l211_0 f = evL C tab p m211_0 f := rfl
theorem call211 {call : CallT} {nm : AE.Name} {xs : List T} {h : Heap} {L : List AE.Name} : eCall C call nm 211 xs h L = freeK nm h L (call 211 nm xs []) := call_free (by kernel_rfl) (by kernel_rfl)
theorem tab212 : tab 212 = some r212 := by kernel_rfl
theorem fn212 {nm : AE.Name} {xs : List T} {h : Heap} : evW C tab 212 nm xs h = fnK [.tmp 4] (evL C tab nm b212 ⟨argF xs 0, [] :: h, [], 0⟩) := ev_fn tab212
theorem u212_0 {p : AE.Name} {f : F} : evL C tab p l212_0 f = evL C tab p m212_0 f := rfl
theorem call212 {call : CallT} {nm : AE.Name} {xs : List T} {h : Heap} {L : List AE.Name} : eCall C call nm 212 xs h L = heapK call nm 212 xs h L (reach h xs) := call_heap (by kernel_rfl) (by rw [show C.mode 212 = 1 by kernel_rfl]; decide)
theorem tab213 : tab 213 = some r213 := by kernel_rfl
theorem fn213 {nm : AE.Name} {xs : List T} {h : Heap} : evW C tab 213 nm xs h = fnK [.cell 2 (some 2)] (evL C tab nm b213 ⟨argF xs 0, [] :: h, [], 0⟩) := ev_fn tab213
theorem call213 {call : CallT} {nm : AE.Name} {xs : List T} {h : Heap} {L : List AE.Name} : eCall C call nm 213 xs h L = freeK nm h L (call 213 nm xs []) := call_free (by kernel_rfl) (by kernel_rfl)
theorem tab214 : tab 214 = some r214 := by kernel_rfl
theorem fn214 {nm : AE.Name} {xs : List T} {h : Heap} : evW C tab 214 nm xs h = fnK [.tmp 2] (evL C tab nm b214 ⟨argF xs 0, [] :: h, [], 0⟩) := ev_fn tab214
theorem call214 {call : CallT} {nm : AE.Name} {xs : List T} {h : Heap} {L : List AE.Name} : eCall C call nm 214 xs h L = freeK nm h L (call 214 nm xs []) := call_free (by kernel_rfl) (by kernel_rfl)
theorem tab219 : tab 219 = some r219 := by kernel_rfl
theorem fn219 {nm : AE.Name} {xs : List T} {h : Heap} : evW C tab 219 nm xs h = fnK [.tmp 2] (evL C tab nm b219 ⟨argF xs 0, [] :: h, [], 0⟩) := ev_fn tab219
theorem call219 {call : CallT} {nm : AE.Name} {xs : List T} {h : Heap} {L : List AE.Name} : eCall C call nm 219 xs h L = freeK nm h L (call 219 nm xs []) := call_free (by kernel_rfl) (by kernel_rfl)
theorem tab220 : tab 220 = some r220 := by kernel_rfl
theorem fn220 {nm : AE.Name} {xs : List T} {h : Heap} : evW C tab 220 nm xs h = fnK [.tmp 4] (evL C tab nm b220 ⟨argF xs 0, [] :: h, [], 0⟩) := ev_fn tab220
theorem u220_0 {p : AE.Name} {f : F} : evL C tab p l220_0 f = evL C tab p m220_0 f := rfl
theorem call220 {call : CallT} {nm : AE.Name} {xs : List T} {h : Heap} {L : List AE.Name} : eCall C call nm 220 xs h L = freeK nm h L (call 220 nm xs []) := call_free (by kernel_rfl) (by kernel_rfl)
theorem tab221 : tab 221 = some r221 := by kernel_rfl
theorem fn221 {nm : AE.Name} {xs : List T} {h : Heap} : evW C tab 221 nm xs h = fnK [.tmp 4] (evL C tab nm b221 ⟨argF xs 0, [] :: h, [], 0⟩) := ev_fn tab221
theorem u221_0 {p : AE.Name} {f : F} : evL C tab p l221_0 f = evL C tab p m221_0 f := rfl
theorem call221 {call : CallT} {nm : AE.Name} {xs : List T} {h : Heap} {L : List AE.Name} : eCall C call nm 221 xs h L = freeK nm h L (call 221 nm xs []) := call_free (by kernel_rfl) (by kernel_rfl)
theorem tab222 : tab 222 = some r222 := by kernel_rfl
theorem fn222 {nm : AE.Name} {xs : List T} {h : Heap} : evW C tab 222 nm xs h = fnK [.cell 2 (some 256), .tmp 3] (evL C tab nm b222 ⟨argF xs 0, [] :: h, [], 0⟩) := ev_fn tab222
theorem u222_0 {p : AE.Name} {f : F} : evL C tab p l222_0 f = evL C tab p m222_0 f := rfl
theorem call222 {call : CallT} {nm : AE.Name} {xs : List T} {h : Heap} {L : List AE.Name} : eCall C call nm 222 xs h L = freeK nm h L (call 222 nm xs []) := call_free (by kernel_rfl) (by kernel_rfl)
theorem tab223 : tab 223 = some r223 := by kernel_rfl
theorem fn223 {nm : AE.Name} {xs : List T} {h : Heap} : evW C tab 223 nm xs h = fnK [.tmp 4] (evL C tab nm b223 ⟨argF xs 0, [] :: h, [], 0⟩) := ev_fn tab223
theorem u223_0 {p : AE.Name} {f : F} : evL C tab p l223_0 f = evL C tab p m223_0 f := rfl
theorem call223 {call : CallT} {nm : AE.Name} {xs : List T} {h : Heap} {L : List AE.Name} : eCall C call nm 223 xs h L = heapK call nm 223 xs h L (reach h xs) := call_heap (by kernel_rfl) (by rw [show C.mode 223 = 1 by kernel_rfl]; decide)
theorem tab224 : tab 224 = some r224 := by kernel_rfl
theorem fn224 {nm : AE.Name} {xs : List T} {h : Heap} : evW C tab 224 nm xs h = fnK [.tmp 4] (evL C tab nm b224 ⟨argF xs 0, [] :: h, [], 0⟩) := ev_fn tab224
theorem u224_0 {p : AE.Name} {f : F} : evL C tab p l224_0 f = evL C tab p m224_0 f := rfl
theorem call224 {call : CallT} {nm : AE.Name} {xs : List T} {h : Heap} {L : List AE.Name} : eCall C call nm 224 xs h L = heapK call nm 224 xs h L (reach h xs) := call_heap (by kernel_rfl) (by rw [show C.mode 224 = 1 by kernel_rfl]; decide)
theorem tab225 : tab 225 = some r225 := by kernel_rfl
theorem fn225 {nm : AE.Name} {xs : List T} {h : Heap} : evW C tab 225 nm xs h = fnK [.tmp 4] (evL C tab nm b225 ⟨argF xs 0, [] :: h, [], 0⟩) := ev_fn tab225
theorem u225_0 {p : AE.Name} {f : F} : evL C tab p l225_0 f = evL C tab p m225_0 f := rfl
theorem call225 {call : CallT} {nm : AE.Name} {xs : List T} {h : Heap} {L : List AE.Name} : eCall C call nm 225 xs h L = freeK nm h L (call 225 nm xs []) := call_free (by kernel_rfl) (by kernel_rfl)
theorem tab226 : tab 226 = some r226 := by kernel_rfl
theorem fn226 {nm : AE.Name} {xs : List T} {h : Heap} : evW C tab 226 nm xs h = fnK [.tmp 4] (evL C tab nm b226 ⟨argF xs 0, [] :: h, [], 0⟩) := ev_fn tab226
theorem u226_0 {p : AE.Name} {f : F} : evL C tab p l226_0 f = evL C tab p m226_0 f := rfl
theorem call226 {call : CallT} {nm : AE.Name} {xs : List T} {h : Heap} {L : List AE.Name} : eCall C call nm 226 xs h L = freeK nm h L (call 226 nm xs []) := call_free (by kernel_rfl) (by kernel_rfl)
theorem tab227 : tab 227 = some r227 := by kernel_rfl
theorem fn227 {nm : AE.Name} {xs : List T} {h : Heap} : evW C tab 227 nm xs h = fnK [.tmp 4] (evL C tab nm b227 ⟨argF xs 0, [] :: h, [], 0⟩) := ev_fn tab227
theorem call227 {call : CallT} {nm : AE.Name} {xs : List T} {h : Heap} {L : List AE.Name} : eCall C call nm 227 xs h L = freeK nm h L (call 227 nm xs []) := call_free (by kernel_rfl) (by kernel_rfl)
theorem tab228 : tab 228 = some r228 := by kernel_rfl
theorem fn228 {nm : AE.Name} {xs : List T} {h : Heap} : evW C tab 228 nm xs h = fnK [.tmp 4] (evL C tab nm b228 ⟨argF xs 0, [] :: h, [], 0⟩) := ev_fn tab228
theorem call228 {call : CallT} {nm : AE.Name} {xs : List T} {h : Heap} {L : List AE.Name} : eCall C call nm 228 xs h L = freeK nm h L (call 228 nm xs []) := call_free (by kernel_rfl) (by kernel_rfl)
theorem tab229 : tab 229 = some r229 := by kernel_rfl
theorem fn229 {nm : AE.Name} {xs : List T} {h : Heap} : evW C tab 229 nm xs h = fnK [.tmp 4] (evL C tab nm b229 ⟨argF xs 0, [] :: h, [], 0⟩) := ev_fn tab229
theorem call229 {call : CallT} {nm : AE.Name} {xs : List T} {h : Heap} {L : List AE.Name} : eCall C call nm 229 xs h L = heapK call nm 229 xs h L (reach h xs) := call_heap (by kernel_rfl) (by rw [show C.mode 229 = 1 by kernel_rfl]; decide)
theorem tab230 : tab 230 = some r230 := by kernel_rfl
theorem fn230 {nm : AE.Name} {xs : List T} {h : Heap} : evW C tab 230 nm xs h = fnK [.tmp 3] (evL C tab nm b230 ⟨argF xs 0, [] :: h, [], 0⟩) := ev_fn tab230
theorem call230 {call : CallT} {nm : AE.Name} {xs : List T} {h : Heap} {L : List AE.Name} : eCall C call nm 230 xs h L = heapK call nm 230 xs h L (reach h xs) := call_heap (by kernel_rfl) (by rw [show C.mode 230 = 1 by kernel_rfl]; decide)
theorem tab231 : tab 231 = some r231 := by kernel_rfl
theorem fn231 {nm : AE.Name} {xs : List T} {h : Heap} : evW C tab 231 nm xs h = fnK [.tmp 4] (evL C tab nm b231 ⟨argF xs 0, [] :: h, [], 0⟩) := ev_fn tab231
theorem u231_0 {p : AE.Name} {f : F} : evL C tab p l231_0 f = evL C tab p m231_0 f := rfl
theorem call231 {call : CallT} {nm : AE.Name} {xs : List T} {h : Heap} {L : List AE.Name} : eCall C call nm 231 xs h L = heapK call nm 231 xs h L (reach h xs) := call_heap (by kernel_rfl) (by rw [show C.mode 231 = 1 by kernel_rfl]; decide)
theorem tab232 : tab 232 = some r232 := by kernel_rfl
theorem fn232 {nm : AE.Name} {xs : List T} {h : Heap} : evW C tab 232 nm xs h = fnK [.tmp 4] (evL C tab nm b232 ⟨argF xs 0, [] :: h, [], 0⟩) := ev_fn tab232
theorem u232_0 {p : AE.Name} {f : F} : evL C tab p l232_0 f = evL C tab p m232_0 f := rfl
theorem call232 {call : CallT} {nm : AE.Name} {xs : List T} {h : Heap} {L : List AE.Name} : eCall C call nm 232 xs h L = heapK call nm 232 xs h L (reach h xs) := call_heap (by kernel_rfl) (by rw [show C.mode 232 = 1 by kernel_rfl]; decide)
theorem tab233 : tab 233 = some r233 := by kernel_rfl
theorem fn233 {nm : AE.Name} {xs : List T} {h : Heap} : evW C tab 233 nm xs h = fnK [.tmp 4] (evL C tab nm b233 ⟨argF xs 0, [] :: h, [], 0⟩) := ev_fn tab233
theorem u233_0 {p : AE.Name} {f : F} : evL C tab p l233_0 f = evL C tab p m233_0 f := rfl
theorem call233 {call : CallT} {nm : AE.Name} {xs : List T} {h : Heap} {L : List AE.Name} : eCall C call nm 233 xs h L = heapK call nm 233 xs h L (reach h xs) := call_heap (by kernel_rfl) (by rw [show C.mode 233 = 1 by kernel_rfl]; decide)
theorem tab234 : tab 234 = some r234 := by kernel_rfl
theorem fn234 {nm : AE.Name} {xs : List T} {h : Heap} : evW C tab 234 nm xs h = fnK [.tmp 4] (evL C tab nm b234 ⟨argF xs 0, [] :: h, [], 0⟩) := ev_fn tab234
theorem u234_0 {p : AE.Name} {f : F} : evL C tab p l234_0 f = evL C tab p m234_0 f := rfl
theorem call234 {call : CallT} {nm : AE.Name} {xs : List T} {h : Heap} {L : List AE.Name} : eCall C call nm 234 xs h L = heapK call nm 234 xs h L (reach h xs) := call_heap (by kernel_rfl) (by rw [show C.mode 234 = 1 by kernel_rfl]; decide)
theorem tab235 : tab 235 = some r235 := by kernel_rfl
theorem fn235 {nm : AE.Name} {xs : List T} {h : Heap} : evW C tab 235 nm xs h = fnK [.cell 2 (some 256), .tmp 3] (evL C tab nm b235 ⟨argF xs 0, [] :: h, [], 0⟩) := ev_fn tab235
theorem u235_0 {p : AE.Name} {f : F} : evL C tab p l235_0 f = evL C tab p m235_0 f := rfl
theorem call235 {call : CallT} {nm : AE.Name} {xs : List T} {h : Heap} {L : List AE.Name} : eCall C call nm 235 xs h L = heapK call nm 235 xs h L (reach h xs) := call_heap (by kernel_rfl) (by rw [show C.mode 235 = 1 by kernel_rfl]; decide)
theorem tab236 : tab 236 = some r236 := by kernel_rfl
theorem fn236 {nm : AE.Name} {xs : List T} {h : Heap} : evW C tab 236 nm xs h = fnK [.tmp 4] (evL C tab nm b236 ⟨argF xs 0, [] :: h, [], 0⟩) := ev_fn tab236
theorem u236_0 {p : AE.Name} {f : F} : evL C tab p l236_0 f = evL C tab p m236_0 f := rfl
theorem call236 {call : CallT} {nm : AE.Name} {xs : List T} {h : Heap} {L : List AE.Name} : eCall C call nm 236 xs h L = heapK call nm 236 xs h L (reach h xs) := call_heap (by kernel_rfl) (by rw [show C.mode 236 = 1 by kernel_rfl]; decide)
theorem tab237 : tab 237 = some r237 := by kernel_rfl
theorem fn237 {nm : AE.Name} {xs : List T} {h : Heap} : evW C tab 237 nm xs h = fnK [.tmp 4] (evL C tab nm b237 ⟨argF xs 0, [] :: h, [], 0⟩) := ev_fn tab237
theorem u237_0 {p : AE.Name} {f : F} : evL C tab p l237_0 f = evL C tab p m237_0 f := rfl
theorem call237 {call : CallT} {nm : AE.Name} {xs : List T} {h : Heap} {L : List AE.Name} : eCall C call nm 237 xs h L = heapK call nm 237 xs h L (reach h xs) := call_heap (by kernel_rfl) (by rw [show C.mode 237 = 1 by kernel_rfl]; decide)
theorem tab238 : tab 238 = some r238 := by kernel_rfl
theorem fn238 {nm : AE.Name} {xs : List T} {h : Heap} : evW C tab 238 nm xs h = fnK [.tmp 4] (evL C tab nm b238 ⟨argF xs 0, [] :: h, [], 0⟩) := ev_fn tab238
theorem u238_0 {p : AE.Name} {f : F} : evL C tab p l238_0 f = evL C tab p m238_0 f := rfl
theorem call238 {call : CallT} {nm : AE.Name} {xs : List T} {h : Heap} {L : List AE.Name} : eCall C call nm 238 xs h L = heapK call nm 238 xs h L (reach h xs) := call_heap (by kernel_rfl) (by rw [show C.mode 238 = 1 by kernel_rfl]; decide)
theorem tab239 : tab 239 = some r239 := by kernel_rfl
theorem fn239 {nm : AE.Name} {xs : List T} {h : Heap} : evW C tab 239 nm xs h = fnK [.tmp 4] (evL C tab nm b239 ⟨argF xs 0, [] :: h, [], 0⟩) := ev_fn tab239
theorem u239_0 {p : AE.Name} {f : F} : evL C tab p l239_0 f = evL C tab p m239_0 f := rfl
theorem call239 {call : CallT} {nm : AE.Name} {xs : List T} {h : Heap} {L : List AE.Name} : eCall C call nm 239 xs h L = heapK call nm 239 xs h L (reach h xs) := call_heap (by kernel_rfl) (by rw [show C.mode 239 = 1 by kernel_rfl]; decide)
theorem tab240 : tab 240 = some r240 := by kernel_rfl
theorem fn240 {nm : AE.Name} {xs : List T} {h : Heap} : evW C tab 240 nm xs h = fnK [.tmp 4] (evL C tab nm b240 ⟨argF xs 0, [] :: h, [], 0⟩) := ev_fn tab240
theorem call240 {call : CallT} {nm : AE.Name} {xs : List T} {h : Heap} {L : List AE.Name} : eCall C call nm 240 xs h L = heapK call nm 240 xs h L (reach h xs) := call_heap (by kernel_rfl) (by rw [show C.mode 240 = 1 by kernel_rfl]; decide)
theorem tab241 : tab 241 = some r241 := by kernel_rfl
theorem fn241 {nm : AE.Name} {xs : List T} {h : Heap} : evW C tab 241 nm xs h = fnK [.tmp 3] (evL C tab nm b241 ⟨argF xs 0, [] :: h, [], 0⟩) := ev_fn tab241
theorem call241 {call : CallT} {nm : AE.Name} {xs : List T} {h : Heap} {L : List AE.Name} : eCall C call nm 241 xs h L = heapK call nm 241 xs h L (reach h xs) := call_heap (by kernel_rfl) (by rw [show C.mode 241 = 1 by kernel_rfl]; decide)
theorem tab242 : tab 242 = some r242 := by kernel_rfl
theorem fn242 {nm : AE.Name} {xs : List T} {h : Heap} : evW C tab 242 nm xs h = fnK [.tmp 4] (evL C tab nm b242 ⟨argF xs 0, [] :: h, [], 0⟩) := ev_fn tab242
theorem call242 {call : CallT} {nm : AE.Name} {xs : List T} {h : Heap} {L : List AE.Name} : eCall C call nm 242 xs h L = freeK nm h L (call 242 nm xs []) := call_free (by kernel_rfl) (by kernel_rfl)
theorem tab243 : tab 243 = some r243 := by kernel_rfl
theorem fn243 {nm : AE.Name} {xs : List T} {h : Heap} : evW C tab 243 nm xs h = fnK [.tmp 4] (evL C tab nm b243 ⟨argF xs 0, [] :: h, [], 0⟩) := ev_fn tab243
theorem u243_0 {p : AE.Name} {f : F} : evL C tab p l243_0 f = evL C tab p m243_0 f := rfl
theorem call243 {call : CallT} {nm : AE.Name} {xs : List T} {h : Heap} {L : List AE.Name} : eCall C call nm 243 xs h L = heapK call nm 243 xs h L (reach h xs) := call_heap (by kernel_rfl) (by rw [show C.mode 243 = 1 by kernel_rfl]; decide)
theorem tab244 : tab 244 = some r244 := by kernel_rfl
theorem fn244 {nm : AE.Name} {xs : List T} {h : Heap} : evW C tab 244 nm xs h = fnK [.tmp 4] (evL C tab nm b244 ⟨argF xs 0, [] :: h, [], 0⟩) := ev_fn tab244
theorem u244_0 {p : AE.Name} {f : F} : evL C tab p l244_0 f = evL C tab p m244_0 f := rfl
theorem call244 {call : CallT} {nm : AE.Name} {xs : List T} {h : Heap} {L : List AE.Name} : eCall C call nm 244 xs h L = heapK call nm 244 xs h L (reach h xs) := call_heap (by kernel_rfl) (by rw [show C.mode 244 = 1 by kernel_rfl]; decide)
theorem tab245 : tab 245 = some r245 := by kernel_rfl
theorem fn245 {nm : AE.Name} {xs : List T} {h : Heap} : evW C tab 245 nm xs h = fnK [.tmp 2] (evL C tab nm b245 ⟨argF xs 0, [] :: h, [], 0⟩) := ev_fn tab245
theorem call245 {call : CallT} {nm : AE.Name} {xs : List T} {h : Heap} {L : List AE.Name} : eCall C call nm 245 xs h L = freeK nm h L (call 245 nm xs []) := call_free (by kernel_rfl) (by kernel_rfl)
theorem tab246 : tab 246 = some r246 := by kernel_rfl
theorem fn246 {nm : AE.Name} {xs : List T} {h : Heap} : evW C tab 246 nm xs h = fnK [.tmp 3] (evL C tab nm b246 ⟨argF xs 0, [] :: h, [], 0⟩) := ev_fn tab246
theorem call246 {call : CallT} {nm : AE.Name} {xs : List T} {h : Heap} {L : List AE.Name} : eCall C call nm 246 xs h L = heapK call nm 246 xs h L (reach h xs) := call_heap (by kernel_rfl) (by rw [show C.mode 246 = 1 by kernel_rfl]; decide)
theorem tab248 : tab 248 = some r248 := by kernel_rfl
theorem fn248 {nm : AE.Name} {xs : List T} {h : Heap} : evW C tab 248 nm xs h = fnK [.tmp 4] (evL C tab nm b248 ⟨argF xs 0, [] :: h, [], 0⟩) := ev_fn tab248
theorem call248 {call : CallT} {nm : AE.Name} {xs : List T} {h : Heap} {L : List AE.Name} : eCall C call nm 248 xs h L = heapK call nm 248 xs h L (reach h xs) := call_heap (by kernel_rfl) (by rw [show C.mode 248 = 1 by kernel_rfl]; decide)
theorem tab249 : tab 249 = some r249 := by kernel_rfl
theorem fn249 {nm : AE.Name} {xs : List T} {h : Heap} : evW C tab 249 nm xs h = fnK [.tmp 2, .tmp 3] (evL C tab nm b249 ⟨argF xs 0, [] :: h, [], 0⟩) := ev_fn tab249
theorem call249 {call : CallT} {nm : AE.Name} {xs : List T} {h : Heap} {L : List AE.Name} : eCall C call nm 249 xs h L = freeK nm h L (call 249 nm xs []) := call_free (by kernel_rfl) (by kernel_rfl)
theorem tab250 : tab 250 = some r250 := by kernel_rfl
theorem fn250 {nm : AE.Name} {xs : List T} {h : Heap} : evW C tab 250 nm xs h = fnK [.tmp 4] (evL C tab nm b250 ⟨argF xs 0, [] :: h, [], 0⟩) := ev_fn tab250
theorem call250 {call : CallT} {nm : AE.Name} {xs : List T} {h : Heap} {L : List AE.Name} : eCall C call nm 250 xs h L = freeK nm h L (call 250 nm xs []) := call_free (by kernel_rfl) (by kernel_rfl)
theorem tab251 : tab 251 = some r251 := by kernel_rfl
theorem fn251 {nm : AE.Name} {xs : List T} {h : Heap} : evW C tab 251 nm xs h = fnK [.tmp 2, .tmp 3] (evL C tab nm b251 ⟨argF xs 0, [] :: h, [], 0⟩) := ev_fn tab251
theorem u251_0 {p : AE.Name} {f : F} : evL C tab p l251_0 f = evL C tab p m251_0 f := rfl
theorem call251 {call : CallT} {nm : AE.Name} {xs : List T} {h : Heap} {L : List AE.Name} : eCall C call nm 251 xs h L = freeK nm h L (call 251 nm xs []) := call_free (by kernel_rfl) (by kernel_rfl)
theorem tab252 : tab 252 = some r252 := by kernel_rfl
theorem fn252 {nm : AE.Name} {xs : List T} {h : Heap} : evW C tab 252 nm xs h = fnK [.tmp 4] (evL C tab nm b252 ⟨argF xs 0, [] :: h, [], 0⟩) := ev_fn tab252
theorem u252_0 {p : AE.Name} {f : F} : evL C tab p l252_0 f = evL C tab p m252_0 f := rfl
theorem call252 {call : CallT} {nm : AE.Name} {xs : List T} {h : Heap} {L : List AE.Name} : eCall C call nm 252 xs h L = heapK call nm 252 xs h L (reach h xs) := call_heap (by kernel_rfl) (by rw [show C.mode 252 = 1 by kernel_rfl]; decide)
theorem tab253 : tab 253 = some r253 := by kernel_rfl
theorem fn253 {nm : AE.Name} {xs : List T} {h : Heap} : evW C tab 253 nm xs h = fnK [.tmp 4] (evL C tab nm b253 ⟨argF xs 0, [] :: h, [], 0⟩) := ev_fn tab253
theorem call253 {call : CallT} {nm : AE.Name} {xs : List T} {h : Heap} {L : List AE.Name} : eCall C call nm 253 xs h L = heapK call nm 253 xs h L (reach h xs) := call_heap (by kernel_rfl) (by rw [show C.mode 253 = 1 by kernel_rfl]; decide)
theorem tab254 : tab 254 = some r254 := by kernel_rfl
theorem fn254 {nm : AE.Name} {xs : List T} {h : Heap} : evW C tab 254 nm xs h = fnK [.tmp 2, .tmp 3] (evL C tab nm b254 ⟨argF xs 0, [] :: h, [], 0⟩) := ev_fn tab254
theorem u254_0 {p : AE.Name} {f : F} : evL C tab p l254_0 f = evL C tab p m254_0 f := rfl
theorem call254 {call : CallT} {nm : AE.Name} {xs : List T} {h : Heap} {L : List AE.Name} : eCall C call nm 254 xs h L = freeK nm h L (call 254 nm xs []) := call_free (by kernel_rfl) (by kernel_rfl)
theorem tab255 : tab 255 = some r255 := by kernel_rfl
theorem fn255 {nm : AE.Name} {xs : List T} {h : Heap} : evW C tab 255 nm xs h = fnK [.tmp 4] (evL C tab nm b255 ⟨argF xs 0, [] :: h, [], 0⟩) := ev_fn tab255
theorem u255_0 {p : AE.Name} {f : F} : evL C tab p l255_0 f = evL C tab p m255_0 f := rfl
theorem call255 {call : CallT} {nm : AE.Name} {xs : List T} {h : Heap} {L : List AE.Name} : eCall C call nm 255 xs h L = heapK call nm 255 xs h L (reach h xs) := call_heap (by kernel_rfl) (by rw [show C.mode 255 = 1 by kernel_rfl]; decide)
theorem tab256 : tab 256 = some r256 := by kernel_rfl
theorem fn256 {nm : AE.Name} {xs : List T} {h : Heap} : evW C tab 256 nm xs h = fnK [.tmp 2, .tmp 3] (evL C tab nm b256 ⟨argF xs 0, [] :: h, [], 0⟩) := ev_fn tab256
theorem u256_0 {p : AE.Name} {f : F} : evL C tab p l256_0 f = evL C tab p m256_0 f := rfl
theorem call256 {call : CallT} {nm : AE.Name} {xs : List T} {h : Heap} {L : List AE.Name} : eCall C call nm 256 xs h L = freeK nm h L (call 256 nm xs []) := call_free (by kernel_rfl) (by kernel_rfl)
theorem tab257 : tab 257 = some r257 := by kernel_rfl
theorem fn257 {nm : AE.Name} {xs : List T} {h : Heap} : evW C tab 257 nm xs h = fnK [.tmp 4] (evL C tab nm b257 ⟨argF xs 0, [] :: h, [], 0⟩) := ev_fn tab257
theorem u257_0 {p : AE.Name} {f : F} : evL C tab p l257_0 f = evL C tab p m257_0 f := rfl
theorem call257 {call : CallT} {nm : AE.Name} {xs : List T} {h : Heap} {L : List AE.Name} : eCall C call nm 257 xs h L = heapK call nm 257 xs h L (reach h xs) := call_heap (by kernel_rfl) (by rw [show C.mode 257 = 1 by kernel_rfl]; decide)
theorem tab258 : tab 258 = some r258 := by kernel_rfl
theorem fn258 {nm : AE.Name} {xs : List T} {h : Heap} : evW C tab 258 nm xs h = fnK [.tmp 2] (evL C tab nm b258 ⟨argF xs 0, [] :: h, [], 0⟩) := ev_fn tab258
theorem call258 {call : CallT} {nm : AE.Name} {xs : List T} {h : Heap} {L : List AE.Name} : eCall C call nm 258 xs h L = freeK nm h L (call 258 nm xs []) := call_free (by kernel_rfl) (by kernel_rfl)
theorem tab259 : tab 259 = some r259 := by kernel_rfl
theorem fn259 {nm : AE.Name} {xs : List T} {h : Heap} : evW C tab 259 nm xs h = fnK [.tmp 2, .tmp 3] (evL C tab nm b259 ⟨argF xs 0, [] :: h, [], 0⟩) := ev_fn tab259
theorem call259 {call : CallT} {nm : AE.Name} {xs : List T} {h : Heap} {L : List AE.Name} : eCall C call nm 259 xs h L = freeK nm h L (call 259 nm xs []) := call_free (by kernel_rfl) (by kernel_rfl)
theorem tab261 : tab 261 = some r261 := by kernel_rfl
theorem fn261 {nm : AE.Name} {xs : List T} {h : Heap} : evW C tab 261 nm xs h = fnK [.tmp 2] (evL C tab nm b261 ⟨argF xs 0, [] :: h, [], 0⟩) := ev_fn tab261
theorem call261 {call : CallT} {nm : AE.Name} {xs : List T} {h : Heap} {L : List AE.Name} : eCall C call nm 261 xs h L = freeK nm h L (call 261 nm xs []) := call_free (by kernel_rfl) (by kernel_rfl)
theorem tab262 : tab 262 = some r262 := by kernel_rfl
theorem fn262 {nm : AE.Name} {xs : List T} {h : Heap} : evW C tab 262 nm xs h = fnK [.tmp 2, .tmp 3] (evL C tab nm b262 ⟨argF xs 0, [] :: h, [], 0⟩) := ev_fn tab262
theorem call262 {call : CallT} {nm : AE.Name} {xs : List T} {h : Heap} {L : List AE.Name} : eCall C call nm 262 xs h L = freeK nm h L (call 262 nm xs []) := call_free (by kernel_rfl) (by kernel_rfl)
theorem tab263 : tab 263 = some r263 := by kernel_rfl
theorem fn263 {nm : AE.Name} {xs : List T} {h : Heap} : evW C tab 263 nm xs h = fnK [.tmp 4] (evL C tab nm b263 ⟨argF xs 0, [] :: h, [], 0⟩) := ev_fn tab263
theorem call263 {call : CallT} {nm : AE.Name} {xs : List T} {h : Heap} {L : List AE.Name} : eCall C call nm 263 xs h L = freeK nm h L (call 263 nm xs []) := call_free (by kernel_rfl) (by kernel_rfl)
theorem tab264 : tab 264 = some r264 := by kernel_rfl
theorem fn264 {nm : AE.Name} {xs : List T} {h : Heap} : evW C tab 264 nm xs h = fnK [.tmp 2] (evL C tab nm b264 ⟨argF xs 0, [] :: h, [], 0⟩) := ev_fn tab264
theorem call264 {call : CallT} {nm : AE.Name} {xs : List T} {h : Heap} {L : List AE.Name} : eCall C call nm 264 xs h L = freeK nm h L (call 264 nm xs []) := call_free (by kernel_rfl) (by kernel_rfl)
theorem tab267 : tab 267 = some r267 := by kernel_rfl
theorem fn267 {nm : AE.Name} {xs : List T} {h : Heap} : evW C tab 267 nm xs h = fnK [.tmp 4] (evL C tab nm b267 ⟨argF xs 0, [] :: h, [], 0⟩) := ev_fn tab267
theorem call267 {call : CallT} {nm : AE.Name} {xs : List T} {h : Heap} {L : List AE.Name} : eCall C call nm 267 xs h L = freeK nm h L (call 267 nm xs []) := call_free (by kernel_rfl) (by kernel_rfl)
end Go.AE.W
