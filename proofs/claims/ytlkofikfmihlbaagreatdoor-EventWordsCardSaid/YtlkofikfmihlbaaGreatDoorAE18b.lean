import Derived.Test.YtlkofikfmihlbaaGreatDoorAE18
/-! AE18b: what an operation reads and touches. -/
set_option linter.unusedVariables false
set_option linter.unusedSimpArgs false
namespace Go.AE
open Go.RowKit Go.LB

def rO : O → List Nat
  | .t n => [n]
  | .c _ => []
def rOs (l : List O) : List Nat := l.flatMap rO
def rOo : Option O → List Nat
  | none => []
  | some x => rO x
/-- The slots that it reads. -/
def rds : R → List Nat
  | .mv x | .box x | .load _ x | .nilc x | .isn _ _ x | .un _ x | .cint _ x | .cid x | .cstr x | .cbytes x | .ifc _ x | .fa _ x | .fd _ _ x | .asrt _ _ _ x | .ext x _ | .len _ x => rO x
  | .pick c a b => rO c ++ (rO a ++ rO b)
  | .build _ ps => ps.flatMap fun p => rO p.2.2
  | .bsl _ _ _ ps => ps.flatMap fun p => rO p.2
  | .store _ a b | .bin _ a b | .binB _ a b | .eqA _ _ a b | .eqP _ a b | .eqI _ _ a b | .mksl _ _ _ a b | .iaA _ _ a b | .iaS _ a b | .ixV _ _ _ a b | .ixS a b | .look _ _ _ _ a b | .ment _ _ _ a b | .mdel _ _ a b | .app _ _ a b | .apps _ a b | .copy _ a b => rO a ++ rO b
  | .fn _ a b => rOs a ++ rOs b
  | .mkmap | .bad => []
  | .slStr x lo hi => rO x ++ (rOo lo ++ rOo hi)
  | .slX _ x lo hi mx | .slA _ _ x lo hi mx => rO x ++ (rOo lo ++ (rOo hi ++ rOo mx))
  | .mset _ _ a b c | .mst a b c => rO a ++ (rO b ++ rO c)
  | .mm _ xs => rOs xs
  | .call _ xs => rOs xs
  | .callv g xs => rO g ++ rOs xs
/-- The heap: 0 not touched, 1 read, 2 a block of its own, 3 anything. -/
def hcl (C : Cfg) : R → Nat
  | .load _ (.c (.ro _ _)) => 0
  | .load _ _ | .cstr _ | .look .. | .app .. => 1
  | .len .map _ => 1
  | .box _ | .mkmap => 2
  | .store .. | .mset .. | .ment .. | .mst .. | .mdel .. | .copy .. | .mksl .. | .callv .. => 3
  | .call f _ => if (C.ora f).isSome || C.mode f == 0 then 0 else 3
  | _ => 0
/-- The tokens: 0 not touched, 2 some laid, 3 taken. -/
def tcl : R → Nat
  | .bsl .. | .call .. | .callv .. | .mksl .. => 2
  | .app .. | .apps .. => 3
  | _ => 0
def nP : Option T → List Name
  | some (.ptr m _) => [m]
  | _ => []
def nM : Option T → List Name
  | some (.map m) => [m]
  | _ => []
def nS : Option T → List Name
  | some (.msl m _ _) => [m]
  | _ => []
/-- The blocks that it touches. -/
def fpn (C : Cfg) (fr : Fr) (h : Heap) : R → List Name
  | .load _ a | .store _ a _ => nP (eO fr a)
  | .cstr x | .copy _ x _ => nS (eO fr x)
  | .app _ _ _ y => nS (eO fr y)
  | .len .map x | .look _ _ _ _ x _ | .mset _ _ x _ _ | .ment _ _ _ x _ | .mst x _ _ | .mdel _ _ x _ => nM (eO fr x)
  | .call f xs => if (C.ora f).isSome || C.mode f == 0 then [] else match eOs fr xs with | some ys => (reach h (ys.map strip)).getD [] | none => []
  | .callv g xs => match eO fr g, eOs fr xs with
    | some (.fn (.func f) a b), some ys => if (C.ora f).isSome || C.mode f == 0 then [] else (reach h ((a ++ ys ++ b).map strip)).getD []
    | _, _ => []
  | _ => []
/-- The tokens that it takes. -/
def fpc (fr : Fr) : R → List Name
  | .app _ _ x _ | .apps _ x _ => match eO fr x with | some (.sl _ (.own n _)) => [n] | _ => []
  | _ => []
end Go.AE
