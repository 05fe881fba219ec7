/- F3: the parts of SegmentErrors. -/
import Derived.Test.YtgngceifpdjbiaaSF2
set_option maxRecDepth 100000
namespace Go.ScX
open Go.ScE
noncomputable def C23 : Go.ScE.Callee := evKF ktbl1 ext1 3000
def cA : XCode := match x5.body with
  | .seq _ (.seq _ (.seq _ (.seq r3 (.seq (.seq r4 c2) _)))) => .seq r3 (.seq r4 c2)
  | _ => .skip
def cB : XCode := match x5.body with
  | .seq _ (.seq _ (.seq _ (.seq _ (.seq _ (.seq _ r))))) => r
  | _ => .skip
noncomputable def kA : KX := fun x e fr up => match x with
  | .normal => (match e with
    | [(p, v), (_, _)] => (match fr with
      | [(s, .box c)] => (match up with
        | [] => (match Nat.beq p 1 && Nat.beq s 0 with
          | true => (v, [[(s, .box c)]], true)
          | false => fail0)
        | _ => fail0)
      | _ => fail0)
    | _ => fail0)
  | _ => fail0
noncomputable def kB : KX := fun x e fr up => match x with
  | .exit _ => fail0
  | _ => finF x5 e fr up
noncomputable def chk : R0 → Option AV
  | (v, _, true) => some v
  | _ => none
noncomputable def runA (k : Int) (b : Int) : R0 := evK C23 3000 cA [(1, .c (.p (.lit (.int .i64 b)))), (5, .c (.p (.lit (.int .i64 k))))] [] [] kA
noncomputable def runB (n : Int) (c : List CV) : R0 := evK C23 3000 cB [(8, .c (.p (.lit (.int .i64 n))))] [(0, .box c)] [] kB
end Go.ScX
