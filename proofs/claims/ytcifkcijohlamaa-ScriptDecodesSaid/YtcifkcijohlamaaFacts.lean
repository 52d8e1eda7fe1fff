import Derived.Test.YtcifkcijohlamaaProg
import Derived.Test.YtcifkcijohlamaaBase
namespace Go.Proofs.Ytcifkcijohlamaa
open Go.RowKit Go.LB
theorem E22 : ElemT Try.prog UInt8 22 5 1 := ElemT.of 1 rfl Try.underlying22 (by kernel_rfl) (by decide)
@[go_sem] theorem nil22 (w : World) (a : Option Addr) (n c : Nat) : (binOp .eql 22 (.slice a n c) (.slice none 0 0)).run Try.prog w = .ok (.bool a.isNone) w := Lib.run_eql_slice_nil w 22 5 a n c 0 0 Try.underlying22
end Go.Proofs.Ytcifkcijohlamaa
