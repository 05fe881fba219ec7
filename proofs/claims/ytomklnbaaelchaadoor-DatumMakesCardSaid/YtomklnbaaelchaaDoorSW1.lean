/- W1: law 02: the search for a byte, as a callee. -/
import Derived.Test.YtomklnbaaelchaaDoorSKtS02
import Derived.Test.YtomklnbaaelchaaDoorSE29
import Derived.Lib.Bytealg
import Derived.Test.YtomklnbaaelchaaDoorIndexByte
set_option maxRecDepth 100000
set_option linter.unusedVariables false
namespace Go.Sc2
open Go.ScE Go.Proofs
noncomputable def extI : Go.ScE.Callee := fun f args frames => Bool.rec (motive := fun _ => R0) fail0
  (match args, frames with
    | [.c (.p (.lit (.string s))), .c (.p (.lit (.int .u8 c)))], [] => (.c (.p (.lit (.int .i64 (Lib.indexByte s.data.toList c.toNat.toUInt8)))), [], true)
    | _, _ => fail0) (Nat.beq f 35)
end Go.Sc2
