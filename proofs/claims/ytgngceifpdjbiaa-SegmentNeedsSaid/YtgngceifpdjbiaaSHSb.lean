/- The small code laid out, with variables for slots. -/
import Derived.Test.YtgngceifpdjbiaaSX23
import Derived.Test.YtgngceifpdjbiaaSS5
set_option maxRecDepth 100000
set_option linter.unusedVariables false
namespace Go.ScX
open Go.ScE
noncomputable def q40_0 (B : Sy) (C : Go.ScE.Callee) : Env → Fram → List Fram → KX → R0 := fun e fr up k =>
  hCall C 27 [(demK (demK (look' 0 e))), (.c (.p (pI 1003)))] fr up (fun r1 f1 u1 =>
  headK (look' 0 e) (fun v0 => k .normal [(0, v0)] f1 u1))

noncomputable def q40_1 (B : Sy) (C : Go.ScE.Callee) : Env → Fram → List Fram → KX → R0 := fun e fr up k =>
  hCall C 35 [(demK (demK (look' 0 e))), (.c (.p (pI 27))), (.c (.p (pI 3))), (.c (.p (pI 4))), (.c (.p (pI 1005)))] fr up (fun r1 f1 u1 =>
  headK (look' 0 e) (fun v0 => k .normal [(0, v0)] f1 u1))

noncomputable def q40_2 (B : Sy) (C : Go.ScE.Callee) : Env → Fram → List Fram → KX → R0 := fun e fr up k =>
  hCall C 31 [(demK (demK (look' 0 e))), (.c (.p (pI 6))), (.c (.p (pI 3))), (.c (.p (pI 0)))] fr up (fun r1 f1 u1 =>
  headK (look' 0 e) (fun v0 => k .normal [(0, v0)] f1 u1))

noncomputable def q40_3 (B : Sy) (C : Go.ScE.Callee) : Env → Fram → List Fram → KX → R0 := fun e fr up k =>
  hCall C 51 [(demK (demK (look' 0 e))), (.c (.p (pI 16))), (.c (.p (pI 7))), (.c (.p (pI 6))), (.c (.p (pI 7)))] fr up (fun r1 f1 u1 =>
  headK (look' 0 e) (fun v0 => k .normal [(0, v0)] f1 u1))

noncomputable def q40_4 (B : Sy) (C : Go.ScE.Callee) : Env → Fram → List Fram → KX → R0 := fun e fr up k =>
  hCall C 33 [(demK (demK (look' 0 e))), (.c (.p (pI 8))), (.c (.p (pI 1)))] fr up (fun r1 f1 u1 =>
  headK (look' 0 e) (fun v0 => k .normal [(0, v0)] f1 u1))

noncomputable def q40_5 (B : Sy) (C : Go.ScE.Callee) : Env → Fram → List Fram → KX → R0 := fun e fr up k =>
  hCall C 35 [(demK (demK (look' 0 e))), (.c (.p (pI 25))), (.c (.p (pI 7))), (.c (.p (pI 8))), (.c (.p (pI 1004)))] fr up (fun r1 f1 u1 =>
  headK (look' 0 e) (fun v0 => k .normal [(0, v0)] f1 u1))

noncomputable def q40_6 (B : Sy) (C : Go.ScE.Callee) : Env → Fram → List Fram → KX → R0 := fun e fr up k =>
  hCall C 51 [(demK (demK (look' 0 e))), (.c (.p (pI 19))), (.c (.p (pI 7))), (.c (.p (pI 6))), (.c (.p (pI 3)))] fr up (fun r1 f1 u1 =>
  headK (look' 0 e) (fun v0 => k .normal [(0, v0)] f1 u1))

noncomputable def q40_7 (B : Sy) (C : Go.ScE.Callee) : Env → Fram → List Fram → KX → R0 := fun e fr up k =>
  hCall C 31 [(demK (demK (look' 0 e))), (.c (.p (pI 9))), (.c (.p (pI 7))), (.c (.p (pI 0)))] fr up (fun r1 f1 u1 =>
  headK (look' 0 e) (fun v0 => k .normal [(0, v0)] f1 u1))

noncomputable def q40_8 (B : Sy) (C : Go.ScE.Callee) : Env → Fram → List Fram → KX → R0 := fun e fr up k =>
  hCall C 51 [(demK (demK (look' 0 e))), (.c (.p (pI 16))), (.c (.p (pI 10))), (.c (.p (pI 9))), (.c (.p (pI 7)))] fr up (fun r1 f1 u1 =>
  headK (look' 0 e) (fun v0 => k .normal [(0, v0)] f1 u1))

noncomputable def q40_9 (B : Sy) (C : Go.ScE.Callee) : Env → Fram → List Fram → KX → R0 := fun e fr up k =>
  hCall C 35 [(demK (demK (look' 0 e))), (.c (.p (pI 24))), (.c (.p (pI 10))), (.c (.p (pI 8))), (.c (.p (pI 1007)))] fr up (fun r1 f1 u1 =>
  headK (look' 0 e) (fun v0 => k .normal [(0, v0)] f1 u1))

noncomputable def q40_10 (B : Sy) (C : Go.ScE.Callee) : Env → Fram → List Fram → KX → R0 := fun e fr up k =>
  hCall C 51 [(demK (demK (look' 0 e))), (.c (.p (pI 19))), (.c (.p (pI 10))), (.c (.p (pI 9))), (.c (.p (pI 6)))] fr up (fun r1 f1 u1 =>
  headK (look' 0 e) (fun v0 => k .normal [(0, v0)] f1 u1))

noncomputable def q40_11 (B : Sy) (C : Go.ScE.Callee) : Env → Fram → List Fram → KX → R0 := fun e fr up k =>
  hCall C 51 [(demK (demK (look' 0 e))), (.c (.p (pI 18))), (.c (.p (pI 6))), (.c (.p (pI 1))), (.c (.p (pI 3)))] fr up (fun r1 f1 u1 =>
  headK (look' 0 e) (fun v0 => k .normal [(0, v0)] f1 u1))

noncomputable def q40_12 (B : Sy) (C : Go.ScE.Callee) : Env → Fram → List Fram → KX → R0 := fun e fr up k =>
  hCall C 51 [(demK (demK (look' 0 e))), (.c (.p (pI 17))), (.c (.p (pI 6))), (.c (.p (pI 6))), (.c (.p (pI 1)))] fr up (fun r1 f1 u1 =>
  headK (look' 0 e) (fun v0 => k .normal [(0, v0)] f1 u1))

noncomputable def q40_13 (B : Sy) (C : Go.ScE.Callee) : Env → Fram → List Fram → KX → R0 := fun e fr up k =>
  hCall C 30 [(demK (demK (look' 0 e))), (.c (.p (pI 9))), (.c (.p (pI 1))), (.c (.p (pI 0)))] fr up (fun r1 f1 u1 =>
  headK (look' 0 e) (fun v0 => k .normal [(0, v0)] f1 u1))

noncomputable def q40_14 (B : Sy) (C : Go.ScE.Callee) : Env → Fram → List Fram → KX → R0 := fun e fr up k =>
  hCall C 30 [(demK (demK (look' 0 e))), (.c (.p (pI 6))), (.c (.p (pI 7))), (.c (.p (pI 0)))] fr up (fun r1 f1 u1 =>
  headK (look' 0 e) (fun v0 => k .normal [(0, v0)] f1 u1))

noncomputable def q40_15 (B : Sy) (C : Go.ScE.Callee) : Env → Fram → List Fram → KX → R0 := fun e fr up k =>
  hCall C 30 [(demK (demK (look' 0 e))), (.c (.p (pI 6))), (.c (.p (pI 3))), (.c (.p (pI 0)))] fr up (fun r1 f1 u1 =>
  headK (look' 0 e) (fun v0 => k .normal [(0, v0)] f1 u1))

noncomputable def q40_16 (B : Sy) (C : Go.ScE.Callee) : Env → Fram → List Fram → KX → R0 := fun e fr up k =>
  hCall C 51 [(demK (demK (look' 0 e))), (.c (.p (pI 15))), (.c (.p (pI 1))), (.c (.p (pI 1))), (.c (.p (pI 1)))] fr up (fun r1 f1 u1 =>
  headK (look' 0 e) (fun v0 => k .normal [(0, v0)] f1 u1))

noncomputable def q40_17 (B : Sy) (C : Go.ScE.Callee) : Env → Fram → List Fram → KX → R0 := fun e fr up k =>
  hCall C 27 [(demK (demK (look' 0 e))), (.c (.p (pI 1006)))] fr up (fun r1 f1 u1 =>
  headK (look' 0 e) (fun v0 => k .normal [(0, v0)] f1 u1))

noncomputable def q40_18 (B : Sy) (C : Go.ScE.Callee) : Env → Fram → List Fram → KX → R0 := fun e fr up k =>
  hCall C 35 [(demK (demK (look' 0 e))), (.c (.p (pI 24))), (.c (.p (pI 10))), (.c (.p (pI 0))), (.c (.p (pI 1004)))] fr up (fun r1 f1 u1 =>
  headK (look' 0 e) (fun v0 => k .normal [(0, v0)] f1 u1))

noncomputable def q40_19 (B : Sy) (C : Go.ScE.Callee) : Env → Fram → List Fram → KX → R0 := fun e fr up k =>
  hCall C 51 [(demK (demK (look' 0 e))), (.c (.p (pI 15))), (.c (.p (pI 7))), (.c (.p (pI 7))), (.c (.p (pI 1)))] fr up (fun r1 f1 u1 =>
  headK (look' 0 e) (fun v0 => k .normal [(0, v0)] f1 u1))

noncomputable def q40_20 (B : Sy) (C : Go.ScE.Callee) : Env → Fram → List Fram → KX → R0 := fun e fr up k =>
  hCall C 31 [(demK (demK (look' 0 e))), (.c (.p (pI 9))), (.c (.p (pI 7))), (.c (.p (pI 0)))] fr up (fun r1 f1 u1 =>
  headK (look' 0 e) (fun v0 => k .normal [(0, v0)] f1 u1))

noncomputable def q40_21 (B : Sy) (C : Go.ScE.Callee) : Env → Fram → List Fram → KX → R0 := fun e fr up k =>
  hCall C 30 [(demK (demK (look' 0 e))), (.c (.p (pI 9))), (.c (.p (pI 1))), (.c (.p (pI 0)))] fr up (fun r1 f1 u1 =>
  headK (look' 0 e) (fun v0 => k .normal [(0, v0)] f1 u1))

noncomputable def q40_22 (B : Sy) (C : Go.ScE.Callee) : Env → Fram → List Fram → KX → R0 := fun e fr up k =>
  hCall C 51 [(demK (demK (look' 0 e))), (.c (.p (pI 15))), (.c (.p (pI 1))), (.c (.p (pI 1))), (.c (.p (pI 1)))] fr up (fun r1 f1 u1 =>
  headK (look' 0 e) (fun v0 => k .normal [(0, v0)] f1 u1))

noncomputable def q40_23 (B : Sy) (C : Go.ScE.Callee) : Env → Fram → List Fram → KX → R0 := fun e fr up k =>
  hCall C 51 [(demK (demK (look' 0 e))), (.c (.p (pI 15))), (.c (.p (pI 10))), (.c (.p (pI 10))), (.c (.p (pI (-1))))] fr up (fun r1 f1 u1 =>
  headK (look' 0 e) (fun v0 => k .normal [(0, v0)] f1 u1))

noncomputable def q40_24 (B : Sy) (C : Go.ScE.Callee) : Env → Fram → List Fram → KX → R0 := fun e fr up k =>
  hCall C 36 [(demK (demK (look' 0 e))), (.c (.p (pI 1006)))] fr up (fun r1 f1 u1 =>
  headK (look' 0 e) (fun v0 => k .normal [(0, v0)] f1 u1))

noncomputable def q40_25 (B : Sy) (C : Go.ScE.Callee) : Env → Fram → List Fram → KX → R0 := fun e fr up k =>
  hCall C 27 [(demK (demK (look' 0 e))), (.c (.p (pI 1007)))] fr up (fun r1 f1 u1 =>
  headK (look' 0 e) (fun v0 => k .normal [(0, v0)] f1 u1))

noncomputable def q40_26 (B : Sy) (C : Go.ScE.Callee) : Env → Fram → List Fram → KX → R0 := fun e fr up k =>
  hCall C 30 [(demK (demK (look' 0 e))), (.c (.p (pI 9))), (.c (.p (pI 3))), (.c (.p (pI 0)))] fr up (fun r1 f1 u1 =>
  headK (look' 0 e) (fun v0 => k .normal [(0, v0)] f1 u1))

noncomputable def q40_27 (B : Sy) (C : Go.ScE.Callee) : Env → Fram → List Fram → KX → R0 := fun e fr up k =>
  hCall C 27 [(demK (demK (look' 0 e))), (.c (.p (pI 1004)))] fr up (fun r1 f1 u1 =>
  headK (look' 0 e) (fun v0 => k .normal [(0, v0)] f1 u1))

noncomputable def q40_28 (B : Sy) (C : Go.ScE.Callee) : Env → Fram → List Fram → KX → R0 := fun e fr up k =>
  hCall C 51 [(demK (demK (look' 0 e))), (.c (.p (pI 15))), (.c (.p (pI 3))), (.c (.p (pI 3))), (.c (.p (pI 1)))] fr up (fun r1 f1 u1 =>
  headK (look' 0 e) (fun v0 => k .normal [(0, v0)] f1 u1))

noncomputable def q40_29 (B : Sy) (C : Go.ScE.Callee) : Env → Fram → List Fram → KX → R0 := fun e fr up k =>
  hCall C 36 [(demK (demK (look' 0 e))), (.c (.p (pI 1003)))] fr up (fun r1 f1 u1 =>
  headK (look' 0 e) (fun v0 => k .normal [(0, v0)] f1 u1))

noncomputable def q40_30 (B : Sy) (C : Go.ScE.Callee) : Env → Fram → List Fram → KX → R0 := fun e fr up k =>
  hCall C 27 [(demK (demK (look' 0 e))), (.c (.p (pI 1005)))] fr up (fun r1 f1 u1 =>
  headK (look' 0 e) (fun v0 => k .normal [(0, v0)] f1 u1))

noncomputable def q40_31 (B : Sy) (C : Go.ScE.Callee) : Env → Fram → List Fram → KX → R0 := fun e fr up k =>
  hCall C 39 [(demK (demK (look' 0 e))), (.c (.p (pI 5)))] fr up (fun r1 f1 u1 =>
  k .normal [] f1 u1)

noncomputable def s40 : KS := fun B C n => seqK (q40_0 B C) (seqK (q40_1 B C) (seqK (q40_2 B C) (seqK (q40_3 B C) (seqK (q40_4 B C) (seqK (q40_5 B C) (seqK (q40_6 B C) (seqK (q40_7 B C) (seqK (q40_8 B C) (seqK (q40_9 B C) (seqK (q40_10 B C) (seqK (q40_11 B C) (seqK (q40_12 B C) (seqK (q40_13 B C) (seqK (q40_14 B C) (seqK (q40_15 B C) (seqK (q40_16 B C) (seqK (q40_17 B C) (seqK (q40_18 B C) (seqK (q40_19 B C) (seqK (q40_20 B C) (seqK (q40_21 B C) (seqK (q40_22 B C) (seqK (q40_23 B C) (seqK (q40_24 B C) (seqK (q40_25 B C) (seqK (q40_26 B C) (seqK (q40_27 B C) (seqK (q40_28 B C) (seqK (q40_29 B C) (seqK (q40_30 B C) (q40_31 B C)))))))))))))))))))))))))))))))
theorem s40_eq (B : Sy) (C : Go.ScE.Callee) (n : Nat) : s40 B C n = evS B C n x40.body := by kernel_rfl

noncomputable def q41_0 (B : Sy) (C : Go.ScE.Callee) : Env → Fram → List Fram → KX → R0 := fun e fr up k =>
  headK (look' 0 e) (fun v0 => headK (look' 1 e) (fun v1 => headK (look' 2 e) (fun v2 => k .normal [(0, v0), (1, v1), (2, v2)] fr up)))

noncomputable def q41_1 (B : Sy) (C : Go.ScE.Callee) : Env → Fram → List Fram → KX → R0 := fun e fr up k =>
  hBlds 8 [(pI 0), (pI 0), (pI 0), (pI 0), (pI 0), (pI 0), (pI 0), (pI 0)] 0 [] [] fr up (fun r0 f0 u0 =>
  headK (look' 0 e) (fun v0 => headK (look' 1 e) (fun v1 => headK (look' 2 e) (fun v2 => headK r0 (fun v7 => k .normal [(0, v0), (1, v1), (2, v2), (7, v7)] f0 u0)))))

noncomputable def q41_2 (B : Sy) (C : Go.ScE.Callee) : Env → Fram → List Fram → KX → R0 := fun e fr up k =>
  headK (look' 0 e) (fun v0 => headK (look' 1 e) (fun v1 => headK (look' 2 e) (fun v2 => headK (look' 7 e) (fun v7 => headK (.c (.p (pI 0))) (fun v8 => k .normal [(0, v0), (1, v1), (2, v2), (7, v7), (8, v8)] fr up)))))

noncomputable def q41_3 (B : Sy) (C : Go.ScE.Callee) : Env → Fram → List Fram → KX → R0 := fun e fr up k =>
  hBinS B .lss false (demK (demK (look' 8 e))) (demK (demK (look' 0 e))) fr up (fun r2 f2 u2 =>
  headK (look' 0 e) (fun v0 => headK (look' 1 e) (fun v1 => headK (look' 2 e) (fun v2 => headK (look' 7 e) (fun v7 => headK (look' 8 e) (fun v8 => headK r2 (fun v12 => k .normal [(0, v0), (1, v1), (2, v2), (7, v7), (8, v8), (12, v12)] f2 u2)))))))

noncomputable def q41_4 (B : Sy) (C : Go.ScE.Callee) : Env → Fram → List Fram → KX → R0 := fun e fr up k =>
  hBinS B .add false (demK (demK (look' 1 e))) (demK (demK (look' 8 e))) fr up (fun r3 f3 u3 =>
  hBinS B .mul false (.c (.p (pI 8))) (demK r3) f3 u3 (fun r4 f4 u4 =>
  hCall C 17 [(.c (.p (pI 26))), (demK r4)] f4 u4 (fun r5 f5 u5 =>
  hCall C 14 [(.c (.p (pI 23))), (.c (.p (pI 26))), (.c (.p (pI 30))), (demK (demK (look' 8 e)))] f5 u5 (fun r7 f7 u7 =>
  hBlds 8 [(pI 0), (pI 0), (pI 0), (pI 0), (pI 0), (pI 0), (pI 0), (pI 0)] 2 [0, 1] [(demK r5), (demK r7)] f7 u7 (fun r8 f8 u8 =>
  hApp 8 64 (look' 7 e) (demK r8) f8 u8 (fun r9 f9 u9 =>
  headK (look' 0 e) (fun v0 => headK (look' 1 e) (fun v1 => headK (look' 2 e) (fun v2 => headK r9 (fun v7 => headK (look' 8 e) (fun v8 => k .normal [(0, v0), (1, v1), (2, v2), (7, v7), (8, v8)] f9 u9)))))))))))

noncomputable def q41_5 (B : Sy) (C : Go.ScE.Callee) : Env → Fram → List Fram → KX → R0 := fun e fr up k =>
  hBinS B .add false (demK (demK (look' 8 e))) (.c (.p (pI 1))) fr up (fun r1 f1 u1 =>
  headK (look' 0 e) (fun v0 => headK (look' 1 e) (fun v1 => headK (look' 2 e) (fun v2 => headK (look' 7 e) (fun v7 => headK (demK r1) (fun v8 => k .normal [(0, v0), (1, v1), (2, v2), (7, v7), (8, v8)] f1 u1))))))

noncomputable def q41_6 (B : Sy) (C : Go.ScE.Callee) : Env → Fram → List Fram → KX → R0 := fun e fr up k =>
  hCall C 16 [(.c (.p (pI 26))), (demK (demK (look' 2 e)))] fr up (fun r2 f2 u2 =>
  hCall C 14 [(.c (.p (pI 18))), (.c (.p (pI 26))), (.c (.p (pI 26))), (.c (.p (pI 15)))] f2 u2 (fun r3 f3 u3 =>
  hBinS B .mul false (.c (.p (pI 8))) (demK (demK (look' 0 e))) f3 u3 (fun r5 f5 u5 =>
  hCall C 14 [(.c (.p (pI 15))), (.c (.p (pI 26))), (.c (.p (pI 26))), (demK r5)] f5 u5 (fun r6 f6 u6 =>
  hCall C 14 [(.c (.p (pI 23))), (.c (.p (pI 26))), (.c (.p (pI 30))), (demK (demK (look' 0 e)))] f6 u6 (fun r8 f8 u8 =>
  hBinS B .add false (demK (demK (look' 0 e))) (.c (.p (pI 1))) f8 u8 (fun r10 f10 u10 =>
  hCall C 14 [(.c (.p (pI 15))), (.c (.p (pI 30))), (.c (.p (pI 30))), (demK r10)] f10 u10 (fun r11 f11 u11 =>
  hBlds 8 [(pI 0), (pI 0), (pI 0), (pI 0), (pI 0), (pI 0), (pI 0), (pI 0)] 5 [0, 1, 2, 3, 4] [(demK r2), (demK r3), (demK r6), (demK r8), (demK r11)] f11 u11 (fun r12 f12 u12 =>
  hApp 8 64 (look' 7 e) (demK r12) f12 u12 (fun r13 f13 u13 =>
  headK r13 (fun v6 => k .normal [(6, v6)] f13 u13))))))))))

noncomputable def s41 : KS := fun B C n => seqK (q41_0 B C) (seqK (q41_1 B C) (seqK (seqK (q41_2 B C) (blockK 0 (loopsK [0, 1, 2, 7, 8] [] (seqK (seqK (q41_3 B C) (condK (.t 12) (skipK) (exitK 0))) (seqK (blockK 1 (q41_4 B C)) (q41_5 B C))) n))) (seqK (q41_6 B C) (retK))))
theorem s41_eq (B : Sy) (C : Go.ScE.Callee) (n : Nat) : s41 B C n = evS B C n x41.body := by kernel_rfl

noncomputable def q42_0 (B : Sy) (C : Go.ScE.Callee) : Env → Fram → List Fram → KX → R0 := fun e fr up k =>
  hGen C (.alloc 0 true [(pI 0), (pI 0), (pI 0), (pI 0), (pI 0), (pI 0), (pI 0), (pI 0)]) [] fr up (fun r0 f0 u0 =>
  headK (look' 0 e) (fun v0 => headK (look' 1 e) (fun v1 => headK (look' 2 e) (fun v2 => headK (look' 3 e) (fun v3 => headK r0 (fun v8 => k .normal [(0, v0), (1, v1), (2, v2), (3, v3), (8, v8)] f0 u0))))))

noncomputable def q42_1 (B : Sy) (C : Go.ScE.Callee) : Env → Fram → List Fram → KX → R0 := fun e fr up k =>
  hBld [(pI 0), (pI 0), (pI 0), (pI 0), (pI 0)] [(0, 1), (1, 1), (2, 1)] [(demK (demK (look' 0 e))), (demK (demK (look' 1 e))), (demK (demK (look' 2 e)))] fr up (fun r3 f3 u3 =>
  hBld [(pI 0), (pI 0), (pI 0), (pI 0), (pI 0), (pI 0), (pI 0), (pI 0)] [(0, 1), (1, 5), (6, 1)] [(.c (.p (pI 2))), (demK r3), (demK (demK (look' 3 e)))] f3 u3 (fun r5 f5 u5 =>
  hStS B 8 (demK (look' 8 e)) (demK r5) f5 u5 (fun r6 f6 u6 =>
  headK (look' 8 e) (fun v8 => k .normal [(8, v8)] f6 u6))))

noncomputable def s42 : KS := fun B C n => seqK (q42_0 B C) (seqK (q42_1 B C) (retK))
theorem s42_eq (B : Sy) (C : Go.ScE.Callee) (n : Nat) : s42 B C n = evS B C n x42.body := by kernel_rfl

noncomputable def q43_0 (B : Sy) (C : Go.ScE.Callee) : Env → Fram → List Fram → KX → R0 := fun e fr up k =>
  hGen C (.box 0) [(demK (look' 0 e))] fr up (fun r0 f0 u0 =>
  headK r0 (fun v1 => k .normal [(1, v1)] f0 u0))

noncomputable def q43_1 (B : Sy) (C : Go.ScE.Callee) : Env → Fram → List Fram → KX → R0 := fun e fr up k =>
  hFa 0 (demK (look' 1 e)) fr up (fun r0 f0 u0 =>
  hLdS B false 1 false (demK r0) f0 u0 (fun r1 f1 u1 =>
  hBinS B .eql false (demK r1) (.c (.p (pI 2))) f1 u1 (fun r2 f2 u2 =>
  guardK false (demK r2) (fun K => hFa 0 (demK (look' 1 e)) f2 u2 K) f2 u2 (fun r4 f4 u4 =>
  guardK false (demK r2) (fun K => hLdS B false 1 false (demK r4) f4 u4 K) f4 u4 (fun r5 f5 u5 =>
  guardK false (demK r2) (fun K => hBinS B .eql false (demK r5) (.c (.p (pI 3))) f5 u5 K) f5 u5 (fun r6 f6 u6 =>
  hPick  (demK (demK r2)) (.c (.p (pB true))) (demK r6) f6 u6 (fun r7 f7 u7 =>
  guardK false (demK r7) (fun K => hFa 0 (demK (look' 1 e)) f7 u7 K) f7 u7 (fun r9 f9 u9 =>
  guardK false (demK r7) (fun K => hLdS B false 1 false (demK r9) f9 u9 K) f9 u9 (fun r10 f10 u10 =>
  guardK false (demK r7) (fun K => hBinS B .eql false (demK r10) (.c (.p (pI 5))) f10 u10 K) f10 u10 (fun r11 f11 u11 =>
  hPick  (demK (demK r7)) (.c (.p (pB true))) (demK r11) f11 u11 (fun r12 f12 u12 =>
  headK (demK r12) (fun v2 => k .normal [(2, v2)] f12 u12))))))))))))

noncomputable def s43 : KS := fun B C n => seqK (q43_0 B C) (seqK (q43_1 B C) (retK))
theorem s43_eq (B : Sy) (C : Go.ScE.Callee) (n : Nat) : s43 B C n = evS B C n x43.body := by kernel_rfl

noncomputable def q44_0 (B : Sy) (C : Go.ScE.Callee) : Env → Fram → List Fram → KX → R0 := fun e fr up k =>
  headK (look' 0 e) (fun v0 => k .normal [(0, v0)] fr up)

noncomputable def q44_1 (B : Sy) (C : Go.ScE.Callee) : Env → Fram → List Fram → KX → R0 := fun e fr up k =>
  hLenLS B  (demK (demK (look' 0 e))) fr up (fun r1 f1 u1 =>
  hBinS B .gtr false (demK r1) (.c (.p (pI 65536))) f1 u1 (fun r2 f2 u2 =>
  headK (look' 0 e) (fun v0 => headK r2 (fun v18 => k .normal [(0, v0), (18, v18)] f2 u2))))

noncomputable def q44_2 (B : Sy) (C : Go.ScE.Callee) : Env → Fram → List Fram → KX → R0 := fun e fr up k =>
  headK (.c (.own 1 [])) (fun v2 => headK (.c (.own 1 [])) (fun v3 => headK (.c (.p (pI 213))) (fun v4 => k .normal [(2, v2), (3, v3), (4, v4)] fr up)))

noncomputable def q44_3 (B : Sy) (C : Go.ScE.Callee) : Env → Fram → List Fram → KX → R0 := fun e fr up k =>
  headK (look' 0 e) (fun v0 => headK (.c (.p (pI 0))) (fun v5 => k .normal [(0, v0), (5, v5)] fr up))

noncomputable def q44_4 (B : Sy) (C : Go.ScE.Callee) : Env → Fram → List Fram → KX → R0 := fun e fr up k =>
  hLenLS B  (demK (demK (look' 0 e))) fr up (fun r2 f2 u2 =>
  hBinS B .lss false (demK (demK (look' 5 e))) (demK r2) f2 u2 (fun r3 f3 u3 =>
  headK (look' 0 e) (fun v0 => headK (look' 5 e) (fun v5 => headK r3 (fun v22 => k .normal [(0, v0), (5, v5), (22, v22)] f3 u3)))))

noncomputable def q44_5 (B : Sy) (C : Go.ScE.Callee) : Env → Fram → List Fram → KX → R0 := fun e fr up k =>
  hIaS B 8 (demK (demK (look' 0 e))) (demK (demK (look' 5 e))) fr up (fun r2 f2 u2 =>
  hLdS B true 8 false (demK r2) f2 u2 (fun r3 f3 u3 =>
  hCall C 54 [(demK r3)] f3 u3 (fun r4 f4 u4 =>
  hGen C (.un .not) [(demK r4)] f4 u4 (fun r5 f5 u5 =>
  headK (look' 0 e) (fun v0 => headK (look' 5 e) (fun v5 => headK r5 (fun v30 => k .normal [(0, v0), (5, v5), (30, v30)] f5 u5)))))))

noncomputable def q44_6 (B : Sy) (C : Go.ScE.Callee) : Env → Fram → List Fram → KX → R0 := fun e fr up k =>
  headK (.c (.own 1 [])) (fun v2 => headK (.c (.own 1 [])) (fun v3 => headK (.c (.p (pI 210))) (fun v4 => k .normal [(2, v2), (3, v3), (4, v4)] fr up)))

noncomputable def q44_7 (B : Sy) (C : Go.ScE.Callee) : Env → Fram → List Fram → KX → R0 := fun e fr up k =>
  hIaS B 8 (demK (demK (look' 0 e))) (demK (demK (look' 5 e))) fr up (fun r2 f2 u2 =>
  hFa 0 (demK r2) f2 u2 (fun r3 f3 u3 =>
  hLdS B false 1 false (demK r3) f3 u3 (fun r4 f4 u4 =>
  hBinS B .eql false (demK r4) (.c (.p (pI 1))) f4 u4 (fun r5 f5 u5 =>
  guardK true (demK r5) (fun K => K (demK (look' 0 e)) f5 u5) f5 u5 (fun r7 f7 u7 =>
  guardK true (demK r5) (fun K => K (demK (look' 5 e)) f7 u7) f7 u7 (fun r8 f8 u8 =>
  guardK true (demK r5) (fun K => hGen C (.slL 8 false true) [(demK r7), (demK r8)] f8 u8 K) f8 u8 (fun r9 f9 u9 =>
  guardK true (demK r5) (fun K => K (demK (look' 0 e)) f9 u9) f9 u9 (fun r10 f10 u10 =>
  guardK true (demK r5) (fun K => K (demK (look' 5 e)) f10 u10) f10 u10 (fun r11 f11 u11 =>
  guardK true (demK r5) (fun K => hIaS B 8 (demK r10) (demK r11) f11 u11 K) f11 u11 (fun r12 f12 u12 =>
  guardK true (demK r5) (fun K => hFa 6 (demK r12) f12 u12 K) f12 u12 (fun r13 f13 u13 =>
  guardK true (demK r5) (fun K => hLdS B false 1 false (demK r13) f13 u13 K) f13 u13 (fun r14 f14 u14 =>
  guardK true (demK r5) (fun K => Bool.rec (motive := fun _ => R0) fail0 (hCall C 55 [(demK r9), (demK r14)] f14 u14 K) (chkD (.call 55) false [] [(demK r9), (demK r14)])) f14 u14 (fun r15 f15 u15 =>
  guardK true (demK r5) (fun K => hBinS B .geq false (demK r15) (.c (.p (pI 0))) f15 u15 K) f15 u15 (fun r16 f16 u16 =>
  hPick  (demK (demK r5)) (demK r16) (.c (.p (pB false))) f16 u16 (fun r17 f17 u17 =>
  headK (look' 0 e) (fun v0 => headK (look' 5 e) (fun v5 => headK r17 (fun v48 => k .normal [(0, v0), (5, v5), (48, v48)] f17 u17))))))))))))))))))

noncomputable def q44_8 (B : Sy) (C : Go.ScE.Callee) : Env → Fram → List Fram → KX → R0 := fun e fr up k =>
  headK (.c (.own 1 [])) (fun v2 => headK (.c (.own 1 [])) (fun v3 => headK (.c (.p (pI 211))) (fun v4 => k .normal [(2, v2), (3, v3), (4, v4)] fr up)))

noncomputable def q44_9 (B : Sy) (C : Go.ScE.Callee) : Env → Fram → List Fram → KX → R0 := fun e fr up k =>
  hBinS B .add false (demK (demK (look' 5 e))) (.c (.p (pI 1))) fr up (fun r1 f1 u1 =>
  headK (look' 0 e) (fun v0 => headK (demK r1) (fun v5 => k .normal [(0, v0), (5, v5)] f1 u1)))

noncomputable def q44_10 (B : Sy) (C : Go.ScE.Callee) : Env → Fram → List Fram → KX → R0 := fun e fr up k =>
  headK (look' 0 e) (fun v0 => headK (.c (.p (pI 0))) (fun v6 => k .normal [(0, v0), (6, v6)] fr up))

noncomputable def q44_11 (B : Sy) (C : Go.ScE.Callee) : Env → Fram → List Fram → KX → R0 := fun e fr up k =>
  hLenLS B  (demK (demK (look' 0 e))) fr up (fun r2 f2 u2 =>
  hBinS B .lss false (demK (demK (look' 6 e))) (demK r2) f2 u2 (fun r3 f3 u3 =>
  headK (look' 0 e) (fun v0 => headK (look' 6 e) (fun v6 => headK r3 (fun v52 => k .normal [(0, v0), (6, v6), (52, v52)] f3 u3)))))

noncomputable def q44_12 (B : Sy) (C : Go.ScE.Callee) : Env → Fram → List Fram → KX → R0 := fun e fr up k =>
  hIaS B 8 (demK (demK (look' 0 e))) (demK (demK (look' 6 e))) fr up (fun r2 f2 u2 =>
  hLdS B true 8 false (demK r2) f2 u2 (fun r3 f3 u3 =>
  hCall C 43 [(demK r3)] f3 u3 (fun r4 f4 u4 =>
  guardK true (demK r4) (fun K => K (demK (look' 0 e)) f4 u4) f4 u4 (fun r6 f6 u6 =>
  guardK true (demK r4) (fun K => K (demK (look' 0 e)) f6 u6) f6 u6 (fun r7 f7 u7 =>
  guardK true (demK r4) (fun K => K (demK (look' 6 e)) f7 u7) f7 u7 (fun r8 f8 u8 =>
  guardK true (demK r4) (fun K => hIaS B 8 (demK r7) (demK r8) f8 u8 K) f8 u8 (fun r9 f9 u9 =>
  guardK true (demK r4) (fun K => hFa 6 (demK r9) f9 u9 K) f9 u9 (fun r10 f10 u10 =>
  guardK true (demK r4) (fun K => hLdS B false 1 false (demK r10) f10 u10 K) f10 u10 (fun r11 f11 u11 =>
  guardK true (demK r4) (fun K => hCall C 55 [(demK r6), (demK r11)] f11 u11 K) f11 u11 (fun r12 f12 u12 =>
  guardK true (demK r4) (fun K => hBinS B .lss false (demK r12) (.c (.p (pI 0))) f12 u12 K) f12 u12 (fun r13 f13 u13 =>
  hPick  (demK (demK r4)) (demK r13) (.c (.p (pB false))) f13 u13 (fun r14 f14 u14 =>
  headK (look' 0 e) (fun v0 => headK (look' 6 e) (fun v6 => headK r14 (fun v69 => k .normal [(0, v0), (6, v6), (69, v69)] f14 u14)))))))))))))))

noncomputable def q44_13 (B : Sy) (C : Go.ScE.Callee) : Env → Fram → List Fram → KX → R0 := fun e fr up k =>
  headK (.c (.own 1 [])) (fun v2 => headK (.c (.own 1 [])) (fun v3 => headK (.c (.p (pI 212))) (fun v4 => k .normal [(2, v2), (3, v3), (4, v4)] fr up)))

noncomputable def q44_14 (B : Sy) (C : Go.ScE.Callee) : Env → Fram → List Fram → KX → R0 := fun e fr up k =>
  hBinS B .add false (demK (demK (look' 6 e))) (.c (.p (pI 1))) fr up (fun r1 f1 u1 =>
  headK (look' 0 e) (fun v0 => headK (demK r1) (fun v6 => k .normal [(0, v0), (6, v6)] f1 u1)))

noncomputable def q44_15 (B : Sy) (C : Go.ScE.Callee) : Env → Fram → List Fram → KX → R0 := fun e fr up k =>
  hCall C 56 [(demK (look' 0 e))] fr up (fun r1 f1 u1 =>
  hGen C (.ext 0) [(demK r1)] f1 u1 (fun r3 f3 u3 =>
  hGen C (.ext 1) [r1] f3 u3 (fun r4 f4 u4 =>
  headK (look' 0 e) (fun v0 => headK r3 (fun v7 => headK r4 (fun v8 => k .normal [(0, v0), (7, v7), (8, v8)] f4 u4))))))

noncomputable def q44_16 (B : Sy) (C : Go.ScE.Callee) : Env → Fram → List Fram → KX → R0 := fun e fr up k =>
  hBlds 1 [(pK .u32 0)] 0 [] [] fr up (fun r0 f0 u0 =>
  headK (look' 0 e) (fun v0 => headK (look' 7 e) (fun v7 => headK (look' 8 e) (fun v8 => headK r0 (fun v9 => k .normal [(0, v0), (7, v7), (8, v8), (9, v9)] f0 u0)))))

noncomputable def q44_17 (B : Sy) (C : Go.ScE.Callee) : Env → Fram → List Fram → KX → R0 := fun e fr up k =>
  headK (look' 0 e) (fun v0 => headK (look' 7 e) (fun v7 => headK (look' 8 e) (fun v8 => headK (look' 9 e) (fun v9 => headK (.c (.p (pI 0))) (fun v10 => k .normal [(0, v0), (7, v7), (8, v8), (9, v9), (10, v10)] fr up)))))

noncomputable def q44_18 (B : Sy) (C : Go.ScE.Callee) : Env → Fram → List Fram → KX → R0 := fun e fr up k =>
  hLenLS B  (demK (demK (look' 0 e))) fr up (fun r2 f2 u2 =>
  hBinS B .lss false (demK (demK (look' 10 e))) (demK r2) f2 u2 (fun r3 f3 u3 =>
  headK (look' 0 e) (fun v0 => headK (look' 7 e) (fun v7 => headK (look' 8 e) (fun v8 => headK (look' 9 e) (fun v9 => headK (look' 10 e) (fun v10 => headK r3 (fun v79 => k .normal [(0, v0), (7, v7), (8, v8), (9, v9), (10, v10), (79, v79)] f3 u3))))))))

noncomputable def q44_19 (B : Sy) (C : Go.ScE.Callee) : Env → Fram → List Fram → KX → R0 := fun e fr up k =>
  headK (look' 0 e) (fun v0 => headK (look' 7 e) (fun v7 => headK (look' 8 e) (fun v8 => headK (look' 9 e) (fun v9 => headK (look' 10 e) (fun v10 => headK (.c (.p (pI 0))) (fun v11 => k .normal [(0, v0), (7, v7), (8, v8), (9, v9), (10, v10), (11, v11)] fr up))))))

noncomputable def q44_20 (B : Sy) (C : Go.ScE.Callee) : Env → Fram → List Fram → KX → R0 := fun e fr up k =>
  hIaS B 8 (demK (demK (look' 0 e))) (demK (demK (look' 10 e))) fr up (fun r2 f2 u2 =>
  hLdS B true 8 false (demK r2) f2 u2 (fun r3 f3 u3 =>
  hCall C 43 [(demK r3)] f3 u3 (fun r4 f4 u4 =>
  headK (look' 0 e) (fun v0 => headK (look' 7 e) (fun v7 => headK (look' 8 e) (fun v8 => headK (look' 9 e) (fun v9 => headK (look' 10 e) (fun v10 => headK (look' 11 e) (fun v11 => headK r4 (fun v86 => k .normal [(0, v0), (7, v7), (8, v8), (9, v9), (10, v10), (11, v11), (86, v86)] f4 u4))))))))))

noncomputable def q44_21 (B : Sy) (C : Go.ScE.Callee) : Env → Fram → List Fram → KX → R0 := fun e fr up k =>
  hIaS B 8 (demK (demK (look' 0 e))) (demK (demK (look' 10 e))) fr up (fun r4 f4 u4 =>
  hFa 6 (demK r4) f4 u4 (fun r5 f5 u5 =>
  hLdS B false 1 false (demK r5) f5 u5 (fun r6 f6 u6 =>
  hCall C 55 [(demK (look' 0 e)), (demK r6)] f6 u6 (fun r7 f7 u7 =>
  hIaS B 1 (demK (demK (look' 8 e))) (demK r7) f7 u7 (fun r8 f8 u8 =>
  hLdS B false 1 false (demK r8) f8 u8 (fun r9 f9 u9 =>
  headK (look' 0 e) (fun v0 => headK (look' 7 e) (fun v7 => headK (look' 8 e) (fun v8 => headK (look' 9 e) (fun v9 => headK (look' 10 e) (fun v10 => headK (demK r9) (fun v11 => k .normal [(0, v0), (7, v7), (8, v8), (9, v9), (10, v10), (11, v11)] f9 u9))))))))))))

noncomputable def q44_22 (B : Sy) (C : Go.ScE.Callee) : Env → Fram → List Fram → KX → R0 := fun e fr up k =>
  hIaS B 8 (demK (demK (look' 0 e))) (demK (demK (look' 10 e))) fr up (fun r2 f2 u2 =>
  hLdS B true 8 false (demK r2) f2 u2 (fun r3 f3 u3 =>
  hIaS B 1 (demK (demK (look' 7 e))) (demK (demK (look' 10 e))) f3 u3 (fun r6 f6 u6 =>
  hLdS B false 1 false (demK r6) f6 u6 (fun r7 f7 u7 =>
  hIaS B 1 (demK (demK (look' 8 e))) (demK (demK (look' 10 e))) f7 u7 (fun r10 f10 u10 =>
  hLdS B false 1 false (demK r10) f10 u10 (fun r11 f11 u11 =>
  Bool.rec (motive := fun _ => R0) fail0 (hCall C 57 [(demK r3), (demK r7), (demK r11), (demK (demK (look' 11 e)))] f11 u11 (fun r13 f13 u13 =>
  headK (look' 0 e) (fun v0 => headK (look' 7 e) (fun v7 => headK (look' 8 e) (fun v8 => headK (look' 9 e) (fun v9 => headK (look' 10 e) (fun v10 => headK r13 (fun v12 => k .normal [(0, v0), (7, v7), (8, v8), (9, v9), (10, v10), (12, v12)] f13 u13)))))))) (chkD (.call 57) false [] [(demK r3), (demK r7), (demK r11), (demK (demK (look' 11 e)))])))))))

noncomputable def q44_23 (B : Sy) (C : Go.ScE.Callee) : Env → Fram → List Fram → KX → R0 := fun e fr up k =>
  headK (look' 0 e) (fun v0 => headK (look' 7 e) (fun v7 => headK (look' 8 e) (fun v8 => headK (look' 9 e) (fun v9 => headK (look' 10 e) (fun v10 => headK (look' 12 e) (fun v12 => headK (.c (.p (pI 0))) (fun v13 => k .normal [(0, v0), (7, v7), (8, v8), (9, v9), (10, v10), (12, v12), (13, v13)] fr up)))))))

noncomputable def q44_24 (B : Sy) (C : Go.ScE.Callee) : Env → Fram → List Fram → KX → R0 := fun e fr up k =>
  hLenLS B  (demK (demK (look' 12 e))) fr up (fun r2 f2 u2 =>
  hBinS B .lss false (demK (demK (look' 13 e))) (demK r2) f2 u2 (fun r3 f3 u3 =>
  headK (look' 0 e) (fun v0 => headK (look' 7 e) (fun v7 => headK (look' 8 e) (fun v8 => headK (look' 9 e) (fun v9 => headK (look' 10 e) (fun v10 => headK (look' 12 e) (fun v12 => headK (look' 13 e) (fun v13 => headK r3 (fun v114 => k .normal [(0, v0), (7, v7), (8, v8), (9, v9), (10, v10), (12, v12), (13, v13), (114, v114)] f3 u3))))))))))

noncomputable def q44_25 (B : Sy) (C : Go.ScE.Callee) : Env → Fram → List Fram → KX → R0 := fun e fr up k =>
  hIaS B 5 (demK (demK (look' 12 e))) (demK (demK (look' 13 e))) fr up (fun r2 f2 u2 =>
  hLdS B true 5 false (demK r2) f2 u2 (fun r3 f3 u3 =>
  hCall C 58 [(demK r3)] f3 u3 (fun r4 f4 u4 =>
  hGen C (.ext 0) [(demK (demK r4))] f4 u4 (fun r6 f6 u6 =>
  hGen C (.ext 1) [(demK (demK r4))] f6 u6 (fun r7 f7 u7 =>
  headK (look' 0 e) (fun v0 => headK (look' 7 e) (fun v7 => headK (look' 8 e) (fun v8 => headK (look' 9 e) (fun v9 => headK (look' 10 e) (fun v10 => headK (look' 12 e) (fun v12 => headK (look' 13 e) (fun v13 => headK (demK r6) (fun v14 => k .normal [(0, v0), (7, v7), (8, v8), (9, v9), (10, v10), (12, v12), (13, v13), (14, v14)] f7 u7)))))))))))))

noncomputable def q44_26 (B : Sy) (C : Go.ScE.Callee) : Env → Fram → List Fram → KX → R0 := fun e fr up k =>
  hBlds 1 [(pK .u32 0)] 1 [0] [(demK (demK (look' 14 e)))] fr up (fun r2 f2 u2 =>
  hApp 1 4 (look' 9 e) (demK r2) f2 u2 (fun r3 f3 u3 =>
  headK (look' 0 e) (fun v0 => headK (look' 7 e) (fun v7 => headK (look' 8 e) (fun v8 => headK r3 (fun v9 => headK (look' 10 e) (fun v10 => headK (look' 12 e) (fun v12 => headK (look' 13 e) (fun v13 => k .normal [(0, v0), (7, v7), (8, v8), (9, v9), (10, v10), (12, v12), (13, v13)] f3 u3)))))))))

noncomputable def q44_27 (B : Sy) (C : Go.ScE.Callee) : Env → Fram → List Fram → KX → R0 := fun e fr up k =>
  hBinS B .add false (demK (demK (look' 13 e))) (.c (.p (pI 1))) fr up (fun r1 f1 u1 =>
  headK (look' 0 e) (fun v0 => headK (look' 7 e) (fun v7 => headK (look' 8 e) (fun v8 => headK (look' 9 e) (fun v9 => headK (look' 10 e) (fun v10 => headK (look' 12 e) (fun v12 => headK (demK r1) (fun v13 => k .normal [(0, v0), (7, v7), (8, v8), (9, v9), (10, v10), (12, v12), (13, v13)] f1 u1))))))))

noncomputable def q44_28 (B : Sy) (C : Go.ScE.Callee) : Env → Fram → List Fram → KX → R0 := fun e fr up k =>
  hBinS B .add false (demK (demK (look' 10 e))) (.c (.p (pI 1))) fr up (fun r1 f1 u1 =>
  headK (look' 0 e) (fun v0 => headK (look' 7 e) (fun v7 => headK (look' 8 e) (fun v8 => headK (look' 9 e) (fun v9 => headK (demK r1) (fun v10 => k .normal [(0, v0), (7, v7), (8, v8), (9, v9), (10, v10)] f1 u1))))))

noncomputable def q44_29 (B : Sy) (C : Go.ScE.Callee) : Env → Fram → List Fram → KX → R0 := fun e fr up k =>
  hLenLS B  (demK (look' 0 e)) fr up (fun r3 f3 u3 =>
  hGen C (.slL 1 false true) [(demK (look' 8 e)), (demK r3)] f3 u3 (fun r4 f4 u4 =>
  headK (look' 9 e) (fun v2 => headK r4 (fun v3 => headK (.c (.p (pI 0))) (fun v4 => k .normal [(2, v2), (3, v3), (4, v4)] f4 u4)))))

noncomputable def s44 : KS := fun B C n => seqK (q44_0 B C) (seqK (seqK (q44_1 B C) (condK (.t 18) (seqK (q44_2 B C) (retK)) (skipK))) (seqK (seqK (q44_3 B C) (blockK 0 (loopsK [0, 5] [] (seqK (seqK (q44_4 B C) (condK (.t 22) (skipK) (exitK 0))) (seqK (blockK 1 (seqK (seqK (q44_5 B C) (condK (.t 30) (seqK (q44_6 B C) (retK)) (skipK))) (seqK (q44_7 B C) (condK (.t 48) (seqK (q44_8 B C) (retK)) (skipK))))) (q44_9 B C))) n))) (seqK (seqK (q44_10 B C) (blockK 2 (loopsK [0, 6] [] (seqK (seqK (q44_11 B C) (condK (.t 52) (skipK) (exitK 2))) (seqK (blockK 3 (seqK (q44_12 B C) (condK (.t 69) (seqK (q44_13 B C) (retK)) (skipK)))) (q44_14 B C))) n))) (seqK (q44_15 B C) (seqK (q44_16 B C) (seqK (seqK (q44_17 B C) (blockK 4 (loopsK [0, 7, 8, 9, 10] [] (seqK (seqK (q44_18 B C) (condK (.t 79) (skipK) (exitK 4))) (seqK (blockK 5 (seqK (q44_19 B C) (seqK (seqK (q44_20 B C) (condK (.t 86) (q44_21 B C) (skipK))) (seqK (q44_22 B C) (seqK (q44_23 B C) (blockK 6 (loopsK [0, 7, 8, 9, 10, 12, 13] [] (seqK (seqK (q44_24 B C) (condK (.t 114) (skipK) (exitK 6))) (seqK (blockK 7 (seqK (q44_25 B C) (q44_26 B C))) (q44_27 B C))) n))))))) (q44_28 B C))) n))) (seqK (q44_29 B C) (retK))))))))
theorem s44_eq (B : Sy) (C : Go.ScE.Callee) (n : Nat) : s44 B C n = evS B C n x44.body := by kernel_rfl

noncomputable def q45_0 (B : Sy) (C : Go.ScE.Callee) : Env → Fram → List Fram → KX → R0 := fun e fr up k =>
  hGen C (.alloc 0 true [(pI 0), (pI 0), (pI 0), (pI 0), (pI 0)]) [] fr up (fun r0 f0 u0 =>
  headK (look' 0 e) (fun v0 => headK r0 (fun v2 => k .normal [(0, v0), (2, v2)] f0 u0)))

noncomputable def q45_1 (B : Sy) (C : Go.ScE.Callee) : Env → Fram → List Fram → KX → R0 := fun e fr up k =>
  hCviS B .i64 (demK (demK (look' 0 e))) fr up (fun r1 f1 u1 =>
  headK (look' 0 e) (fun v0 => headK (look' 2 e) (fun v2 => headK (demK r1) (fun v4 => k .normal [(0, v0), (2, v2), (4, v4)] f1 u1))))

noncomputable def q45_2 (B : Sy) (C : Go.ScE.Callee) : Env → Fram → List Fram → KX → R0 := fun e fr up k =>
  hCall C 59 [] fr up (fun r0 f0 u0 =>
  headK (look' 0 e) (fun v0 => headK (look' 2 e) (fun v2 => headK (look' 4 e) (fun v4 => headK r0 (fun v5 => k .normal [(0, v0), (2, v2), (4, v4), (5, v5)] f0 u0)))))

noncomputable def q45_3 (B : Sy) (C : Go.ScE.Callee) : Env → Fram → List Fram → KX → R0 := fun e fr up k =>
  hBinS B .quo false (demK (demK (look' 4 e))) (.c (.p (pI 67108864))) fr up (fun r1 f1 u1 =>
  hBld [(pI 0), (pI 0), (pI 0), (pI 0), (pI 0)] [(0, 1)] [(demK r1)] f1 u1 (fun r2 f2 u2 =>
  hGen C (.alloc 1 true [(pI 0), (pI 0), (pI 0), (pI 0), (pI 0)]) [] f2 u2 (fun r3 f3 u3 =>
  hStS B 5 (demK r3) (demK r2) f3 u3 (fun r4 f4 u4 =>
  headK (look' 0 e) (fun v0 => headK (look' 2 e) (fun v2 => headK (look' 4 e) (fun v4 => headK (look' 5 e) (fun v5 => headK r3 (fun v6 => k .normal [(0, v0), (2, v2), (4, v4), (5, v5), (6, v6)] f4 u4)))))))))

noncomputable def q45_4 (B : Sy) (C : Go.ScE.Callee) : Env → Fram → List Fram → KX → R0 := fun e fr up k =>
  hFa 0 (demK (look' 6 e)) fr up (fun r0 f0 u0 =>
  hLdS B false 1 false (demK r0) f0 u0 (fun r1 f1 u1 =>
  hLenLS B  (demK (demK (look' 5 e))) f1 u1 (fun r3 f3 u3 =>
  hBinS B .geq false (demK r1) (demK r3) f3 u3 (fun r4 f4 u4 =>
  headK (look' 0 e) (fun v0 => headK (look' 2 e) (fun v2 => headK (look' 4 e) (fun v4 => headK (look' 5 e) (fun v5 => headK (look' 6 e) (fun v6 => headK r4 (fun v20 => k .normal [(0, v0), (2, v2), (4, v4), (5, v5), (6, v6), (20, v20)] f4 u4))))))))))

noncomputable def q45_5 (B : Sy) (C : Go.ScE.Callee) : Env → Fram → List Fram → KX → R0 := fun e fr up k =>
  hBld [(pI 0), (pI 0), (pI 0), (pI 0), (pI 0)] [] [] fr up (fun r0 f0 u0 =>
  hStS B 5 (demK (look' 2 e)) (demK r0) f0 u0 (fun r1 f1 u1 =>
  headK (look' 2 e) (fun v2 => headK (.c (.p (pB false))) (fun v3 => k .normal [(2, v2), (3, v3)] f1 u1))))

noncomputable def q45_6 (B : Sy) (C : Go.ScE.Callee) : Env → Fram → List Fram → KX → R0 := fun e fr up k =>
  hFa 0 (demK (look' 6 e)) fr up (fun r1 f1 u1 =>
  hLdS B false 1 false (demK r1) f1 u1 (fun r2 f2 u2 =>
  hIaS B 6 (demK (look' 5 e)) (demK r2) f2 u2 (fun r3 f3 u3 =>
  hLdS B true 6 false (demK r3) f3 u3 (fun r4 f4 u4 =>
  hGen C (.alloc 2 true [(pB false), (pB false), (pB false), (pK .u64 0), (pI 0), (pI 0)]) [] f4 u4 (fun r5 f5 u5 =>
  hStS B 6 (demK r5) (demK r4) f5 u5 (fun r6 f6 u6 =>
  headK (look' 0 e) (fun v0 => headK (look' 2 e) (fun v2 => headK (look' 4 e) (fun v4 => headK (look' 6 e) (fun v6 => headK r5 (fun v7 => k .normal [(0, v0), (2, v2), (4, v4), (6, v6), (7, v7)] f6 u6)))))))))))

noncomputable def q45_7 (B : Sy) (C : Go.ScE.Callee) : Env → Fram → List Fram → KX → R0 := fun e fr up k =>
  hBinS B .quo false (demK (demK (look' 4 e))) (.c (.p (pI 2097152))) fr up (fun r1 f1 u1 =>
  hBinS B .rem false (demK r1) (.c (.p (pI 32))) f1 u1 (fun r2 f2 u2 =>
  hFa 1 (demK (look' 6 e)) f2 u2 (fun r3 f3 u3 =>
  hStS B 1 (demK r3) (demK r2) f3 u3 (fun r4 f4 u4 =>
  headK (look' 0 e) (fun v0 => headK (look' 2 e) (fun v2 => headK (look' 4 e) (fun v4 => headK (look' 6 e) (fun v6 => headK (look' 7 e) (fun v7 => k .normal [(0, v0), (2, v2), (4, v4), (6, v6), (7, v7)] f4 u4)))))))))

noncomputable def q45_8 (B : Sy) (C : Go.ScE.Callee) : Env → Fram → List Fram → KX → R0 := fun e fr up k =>
  hFa 1 (demK (look' 7 e)) fr up (fun r0 f0 u0 =>
  hLdS B false 1 false (demK r0) f0 u0 (fun r1 f1 u1 =>
  headK (look' 0 e) (fun v0 => headK (look' 2 e) (fun v2 => headK (look' 4 e) (fun v4 => headK (look' 6 e) (fun v6 => headK (look' 7 e) (fun v7 => headK r1 (fun v32 => k .normal [(0, v0), (2, v2), (4, v4), (6, v6), (7, v7), (32, v32)] f1 u1))))))))

noncomputable def q45_9 (B : Sy) (C : Go.ScE.Callee) : Env → Fram → List Fram → KX → R0 := fun e fr up k =>
  hBinS B .quo false (demK (demK (look' 4 e))) (.c (.p (pI 65536))) fr up (fun r1 f1 u1 =>
  hBinS B .rem false (demK r1) (.c (.p (pI 32))) f1 u1 (fun r2 f2 u2 =>
  hFa 2 (demK (look' 6 e)) f2 u2 (fun r3 f3 u3 =>
  hStS B 1 (demK r3) (demK r2) f3 u3 (fun r4 f4 u4 =>
  headK (look' 0 e) (fun v0 => headK (look' 2 e) (fun v2 => headK (look' 4 e) (fun v4 => headK (look' 6 e) (fun v6 => headK (look' 7 e) (fun v7 => k .normal [(0, v0), (2, v2), (4, v4), (6, v6), (7, v7)] f4 u4)))))))))

noncomputable def q45_10 (B : Sy) (C : Go.ScE.Callee) : Env → Fram → List Fram → KX → R0 := fun e fr up k =>
  hFa 2 (demK (look' 7 e)) fr up (fun r0 f0 u0 =>
  hLdS B false 1 false (demK r0) f0 u0 (fun r1 f1 u1 =>
  headK (look' 0 e) (fun v0 => headK (look' 2 e) (fun v2 => headK (look' 4 e) (fun v4 => headK (look' 6 e) (fun v6 => headK (look' 7 e) (fun v7 => headK r1 (fun v38 => k .normal [(0, v0), (2, v2), (4, v4), (6, v6), (7, v7), (38, v38)] f1 u1))))))))

noncomputable def q45_11 (B : Sy) (C : Go.ScE.Callee) : Env → Fram → List Fram → KX → R0 := fun e fr up k =>
  hBinS B .quo false (demK (demK (look' 4 e))) (.c (.p (pI 2048))) fr up (fun r1 f1 u1 =>
  hBinS B .rem false (demK r1) (.c (.p (pI 32))) f1 u1 (fun r2 f2 u2 =>
  hFa 3 (demK (look' 6 e)) f2 u2 (fun r3 f3 u3 =>
  hStS B 1 (demK r3) (demK r2) f3 u3 (fun r4 f4 u4 =>
  headK (look' 0 e) (fun v0 => headK (look' 2 e) (fun v2 => headK (look' 4 e) (fun v4 => headK (look' 6 e) (fun v6 => headK (look' 7 e) (fun v7 => k .normal [(0, v0), (2, v2), (4, v4), (6, v6), (7, v7)] f4 u4)))))))))

noncomputable def q45_12 (B : Sy) (C : Go.ScE.Callee) : Env → Fram → List Fram → KX → R0 := fun e fr up k =>
  hFa 3 (demK (look' 7 e)) fr up (fun r0 f0 u0 =>
  hLdS B false 1 false (demK r0) f0 u0 (fun r1 f1 u1 =>
  hBinS B .gtr false (demK r1) (.c (.p (pK .u64 0))) f1 u1 (fun r2 f2 u2 =>
  headK (look' 0 e) (fun v0 => headK (look' 2 e) (fun v2 => headK (look' 4 e) (fun v4 => headK (look' 6 e) (fun v6 => headK (look' 7 e) (fun v7 => headK r2 (fun v45 => k .normal [(0, v0), (2, v2), (4, v4), (6, v6), (7, v7), (45, v45)] f2 u2)))))))))

noncomputable def q45_13 (B : Sy) (C : Go.ScE.Callee) : Env → Fram → List Fram → KX → R0 := fun e fr up k =>
  hFa 3 (demK (look' 7 e)) fr up (fun r1 f1 u1 =>
  hLdS B false 1 false (demK r1) f1 u1 (fun r2 f2 u2 =>
  hBinS B .shl false (.c (.p (pI 1))) (demK r2) f2 u2 (fun r3 f3 u3 =>
  hBinS B .rem false (demK (demK (look' 4 e))) (demK r3) f3 u3 (fun r4 f4 u4 =>
  hFa 4 (demK (look' 6 e)) f4 u4 (fun r5 f5 u5 =>
  hStS B 1 (demK r5) (demK r4) f5 u5 (fun r6 f6 u6 =>
  headK (look' 0 e) (fun v0 => headK (look' 2 e) (fun v2 => headK (look' 6 e) (fun v6 => headK (look' 7 e) (fun v7 => k .normal [(0, v0), (2, v2), (6, v6), (7, v7)] f6 u6))))))))))

noncomputable def q45_14 (B : Sy) (C : Go.ScE.Callee) : Env → Fram → List Fram → KX → R0 := fun e fr up k =>
  hFa 4 (demK (look' 6 e)) fr up (fun r0 f0 u0 =>
  hLdS B false 1 false (demK r0) f0 u0 (fun r1 f1 u1 =>
  hFa 5 (demK (look' 7 e)) f1 u1 (fun r2 f2 u2 =>
  hLdS B false 1 false (demK r2) f2 u2 (fun r3 f3 u3 =>
  hBinS B .gtr false (demK r1) (demK r3) f3 u3 (fun r4 f4 u4 =>
  guardK true (demK r4) (fun K => hFa 4 (demK (look' 7 e)) f4 u4 K) f4 u4 (fun r6 f6 u6 =>
  guardK true (demK r4) (fun K => hLdS B false 1 false (demK r6) f6 u6 K) f6 u6 (fun r7 f7 u7 =>
  guardK true (demK r4) (fun K => hBinS B .lss false (demK r7) (.c (.p (pI 0))) f7 u7 K) f7 u7 (fun r8 f8 u8 =>
  hPick  (demK (demK r4)) (demK r8) (.c (.p (pB false))) f8 u8 (fun r9 f9 u9 =>
  headK (look' 0 e) (fun v0 => headK (look' 2 e) (fun v2 => headK (look' 6 e) (fun v6 => headK (look' 7 e) (fun v7 => headK r9 (fun v61 => k .normal [(0, v0), (2, v2), (6, v6), (7, v7), (61, v61)] f9 u9))))))))))))))

noncomputable def q45_15 (B : Sy) (C : Go.ScE.Callee) : Env → Fram → List Fram → KX → R0 := fun e fr up k =>
  hFa 4 (demK (look' 6 e)) fr up (fun r0 f0 u0 =>
  hLdS B false 1 false (demK r0) f0 u0 (fun r1 f1 u1 =>
  hFa 3 (demK (look' 7 e)) f1 u1 (fun r2 f2 u2 =>
  hLdS B false 1 false (demK r2) f2 u2 (fun r3 f3 u3 =>
  hBinS B .shl false (.c (.p (pI 1))) (demK r3) f3 u3 (fun r4 f4 u4 =>
  hBinS B .sub false (demK r1) (demK r4) f4 u4 (fun r5 f5 u5 =>
  hFa 4 (demK (look' 6 e)) f5 u5 (fun r6 f6 u6 =>
  hStS B 1 (demK r6) (demK r5) f6 u6 (fun r7 f7 u7 =>
  headK (look' 0 e) (fun v0 => headK (look' 2 e) (fun v2 => headK (look' 6 e) (fun v6 => k .normal [(0, v0), (2, v2), (6, v6)] f7 u7)))))))))))

noncomputable def q45_16 (B : Sy) (C : Go.ScE.Callee) : Env → Fram → List Fram → KX → R0 := fun e fr up k =>
  hLdS B true 5 false (demK (look' 6 e)) fr up (fun r0 f0 u0 =>
  hCall C 58 [(demK r0)] f0 u0 (fun r1 f1 u1 =>
  hGen C (.ext 0) [(demK (demK r1))] f1 u1 (fun r3 f3 u3 =>
  hGen C (.ext 1) [(demK (demK r1))] f3 u3 (fun r4 f4 u4 =>
  headK (look' 0 e) (fun v0 => headK (look' 2 e) (fun v2 => headK (look' 6 e) (fun v6 => headK (demK r3) (fun v8 => headK (demK r4) (fun v9 => k .normal [(0, v0), (2, v2), (6, v6), (8, v8), (9, v9)] f4 u4)))))))))

noncomputable def q45_17 (B : Sy) (C : Go.ScE.Callee) : Env → Fram → List Fram → KX → R0 := fun e fr up k =>
  hBinS B .neq false (demK (demK (look' 9 e))) (.c (.p (pI 0))) fr up (fun r1 f1 u1 =>
  guardK false (demK r1) (fun K => K (demK (look' 8 e)) f1 u1) f1 u1 (fun r3 f3 u3 =>
  guardK false (demK r1) (fun K => K (demK (look' 0 e)) f3 u3) f3 u3 (fun r4 f4 u4 =>
  guardK false (demK r1) (fun K => hBinS B .neq false (demK r3) (demK r4) f4 u4 K) f4 u4 (fun r5 f5 u5 =>
  hPick  (demK (demK r1)) (.c (.p (pB true))) (demK r5) f5 u5 (fun r6 f6 u6 =>
  headK (look' 2 e) (fun v2 => headK (look' 6 e) (fun v6 => headK r6 (fun v80 => k .normal [(2, v2), (6, v6), (80, v80)] f6 u6))))))))

noncomputable def q45_18 (B : Sy) (C : Go.ScE.Callee) : Env → Fram → List Fram → KX → R0 := fun e fr up k =>
  hBld [(pI 0), (pI 0), (pI 0), (pI 0), (pI 0)] [] [] fr up (fun r0 f0 u0 =>
  hStS B 5 (demK (look' 2 e)) (demK r0) f0 u0 (fun r1 f1 u1 =>
  headK (look' 2 e) (fun v2 => headK (.c (.p (pB false))) (fun v3 => k .normal [(2, v2), (3, v3)] f1 u1))))

noncomputable def q45_19 (B : Sy) (C : Go.ScE.Callee) : Env → Fram → List Fram → KX → R0 := fun e fr up k =>
  hLdS B true 5 false (demK (look' 6 e)) fr up (fun r0 f0 u0 =>
  hStS B 5 (demK (look' 2 e)) (demK r0) f0 u0 (fun r1 f1 u1 =>
  headK (look' 2 e) (fun v2 => headK (.c (.p (pB true))) (fun v3 => k .normal [(2, v2), (3, v3)] f1 u1))))

noncomputable def s45 : KS := fun B C n => seqK (q45_0 B C) (seqK (q45_1 B C) (seqK (q45_2 B C) (seqK (q45_3 B C) (seqK (seqK (q45_4 B C) (condK (.t 20) (seqK (q45_5 B C) (retK)) (skipK))) (seqK (q45_6 B C) (seqK (q45_7 B C) (seqK (seqK (q45_8 B C) (condK (.t 32) (q45_9 B C) (skipK))) (seqK (seqK (q45_10 B C) (condK (.t 38) (q45_11 B C) (skipK))) (seqK (seqK (q45_12 B C) (condK (.t 45) (seqK (q45_13 B C) (seqK (q45_14 B C) (condK (.t 61) (q45_15 B C) (skipK)))) (skipK))) (seqK (q45_16 B C) (seqK (seqK (q45_17 B C) (condK (.t 80) (seqK (q45_18 B C) (retK)) (skipK))) (seqK (q45_19 B C) (retK)))))))))))))
theorem s45_eq (B : Sy) (C : Go.ScE.Callee) (n : Nat) : s45 B C n = evS B C n x45.body := by kernel_rfl

noncomputable def q46_0 (B : Sy) (C : Go.ScE.Callee) : Env → Fram → List Fram → KX → R0 := fun e fr up k =>
  hGen C (.box 0) [(demK (look' 1 e))] fr up (fun r0 f0 u0 =>
  headK (look' 0 e) (fun v0 => headK r0 (fun v3 => k .normal [(0, v0), (3, v3)] f0 u0)))

noncomputable def q46_1 (B : Sy) (C : Go.ScE.Callee) : Env → Fram → List Fram → KX → R0 := fun e fr up k =>
  hFa 1 (demK (look' 3 e)) fr up (fun r1 f1 u1 =>
  hLdS B false 1 false (demK r1) f1 u1 (fun r2 f2 u2 =>
  hGen C (.nck) [(demK (demK (look' 0 e)))] f2 u2 (fun r3 f3 u3 =>
  hFa 0 (demK r3) f3 u3 (fun r4 f4 u4 =>
  hFa 5 (demK r4) f4 u4 (fun r5 f5 u5 =>
  hIaa 1 32 (demK r5) (demK r2) f5 u5 (fun r6 f6 u6 =>
  hLdS B false 1 false (demK r6) f6 u6 (fun r7 f7 u7 =>
  headK (look' 0 e) (fun v0 => headK (look' 3 e) (fun v3 => headK (demK r7) (fun v5 => k .normal [(0, v0), (3, v3), (5, v5)] f7 u7))))))))))

noncomputable def q46_2 (B : Sy) (C : Go.ScE.Callee) : Env → Fram → List Fram → KX → R0 := fun e fr up k =>
  hFa 2 (demK (look' 3 e)) fr up (fun r1 f1 u1 =>
  hLdS B false 1 false (demK r1) f1 u1 (fun r2 f2 u2 =>
  hGen C (.nck) [(demK (demK (look' 0 e)))] f2 u2 (fun r3 f3 u3 =>
  hFa 0 (demK r3) f3 u3 (fun r4 f4 u4 =>
  hFa 5 (demK r4) f4 u4 (fun r5 f5 u5 =>
  hIaa 1 32 (demK r5) (demK r2) f5 u5 (fun r6 f6 u6 =>
  hLdS B false 1 false (demK r6) f6 u6 (fun r7 f7 u7 =>
  headK (look' 0 e) (fun v0 => headK (look' 3 e) (fun v3 => headK (look' 5 e) (fun v5 => headK (demK r7) (fun v6 => k .normal [(0, v0), (3, v3), (5, v5), (6, v6)] f7 u7)))))))))))

noncomputable def q46_3 (B : Sy) (C : Go.ScE.Callee) : Env → Fram → List Fram → KX → R0 := fun e fr up k =>
  headK (look' 0 e) (fun v0 => headK (look' 3 e) (fun v3 => headK (look' 5 e) (fun v5 => headK (look' 6 e) (fun v6 => headK (.c (.p (pI 0))) (fun v7 => k .normal [(0, v0), (3, v3), (5, v5), (6, v6), (7, v7)] fr up)))))

noncomputable def q46_4 (B : Sy) (C : Go.ScE.Callee) : Env → Fram → List Fram → KX → R0 := fun e fr up k =>
  headK (look' 0 e) (fun v0 => headK (look' 3 e) (fun v3 => headK (look' 5 e) (fun v5 => headK (look' 6 e) (fun v6 => headK (look' 7 e) (fun v7 => headK (.c (.p (pB true))) (fun v8 => k .normal [(0, v0), (3, v3), (5, v5), (6, v6), (7, v7), (8, v8)] fr up))))))

noncomputable def q46_5 (B : Sy) (C : Go.ScE.Callee) : Env → Fram → List Fram → KX → R0 := fun e fr up k =>
  hGen C (.nck) [(demK (demK (look' 0 e)))] fr up (fun r1 f1 u1 =>
  hFa 0 (demK r1) f1 u1 (fun r2 f2 u2 =>
  hFa 4 (demK r2) f2 u2 (fun r3 f3 u3 =>
  hLdS B false 1 false (demK r3) f3 u3 (fun r4 f4 u4 =>
  hBinS B .add false (demK r4) (.c (.p (pI 1))) f4 u4 (fun r5 f5 u5 =>
  headK (look' 0 e) (fun v0 => headK (look' 3 e) (fun v3 => headK (look' 5 e) (fun v5 => headK (look' 6 e) (fun v6 => headK (look' 7 e) (fun v7 => headK (look' 8 e) (fun v8 => headK (demK r5) (fun v9 => k .normal [(0, v0), (3, v3), (5, v5), (6, v6), (7, v7), (8, v8), (9, v9)] f5 u5))))))))))))

noncomputable def q46_6 (B : Sy) (C : Go.ScE.Callee) : Env → Fram → List Fram → KX → R0 := fun e fr up k =>
  hFa 0 (demK (look' 3 e)) fr up (fun r0 f0 u0 =>
  hLdS B false 1 false (demK r0) f0 u0 (fun r1 f1 u1 =>
  headK (look' 0 e) (fun v0 => headK (look' 3 e) (fun v3 => headK (look' 5 e) (fun v5 => headK (look' 6 e) (fun v6 => headK (look' 7 e) (fun v7 => headK (look' 8 e) (fun v8 => headK (look' 9 e) (fun v9 => headK r1 (fun v34 => k .normal [(0, v0), (3, v3), (5, v5), (6, v6), (7, v7), (8, v8), (9, v9), (34, v34)] f1 u1))))))))))

noncomputable def q46_7 (B : Sy) (C : Go.ScE.Callee) : Env → Fram → List Fram → KX → R0 := fun e fr up k =>
  hBinS B .eql false (demK (look' 34 e)) (.c (.p (pI 0))) fr up (fun r0 f0 u0 =>
  headK (look' 0 e) (fun v0 => headK (look' 3 e) (fun v3 => headK (look' 5 e) (fun v5 => headK (look' 6 e) (fun v6 => headK (look' 7 e) (fun v7 => headK (look' 8 e) (fun v8 => headK (look' 9 e) (fun v9 => headK (look' 34 e) (fun v34 => headK (demK r0) (fun v47 => k .normal [(0, v0), (3, v3), (5, v5), (6, v6), (7, v7), (8, v8), (9, v9), (34, v34), (47, v47)] f0 u0))))))))))

noncomputable def q46_8 (B : Sy) (C : Go.ScE.Callee) : Env → Fram → List Fram → KX → R0 := fun e fr up k =>
  hGen C (.nck) [(demK (demK (look' 0 e)))] fr up (fun r2 f2 u2 =>
  hFa 0 (demK r2) f2 u2 (fun r3 f3 u3 =>
  hFa 1 (demK r3) f3 u3 (fun r4 f4 u4 =>
  hStS B 1 (demK r4) (demK (demK (look' 5 e))) f4 u4 (fun r5 f5 u5 =>
  headK (look' 0 e) (fun v0 => k .normal [(0, v0)] f5 u5)))))

noncomputable def q46_9 (B : Sy) (C : Go.ScE.Callee) : Env → Fram → List Fram → KX → R0 := fun e fr up k =>
  hGen C (.nck) [(demK (demK (look' 0 e)))] fr up (fun r1 f1 u1 =>
  hFa 0 (demK r1) f1 u1 (fun r2 f2 u2 =>
  hFa 3 (demK r2) f2 u2 (fun r3 f3 u3 =>
  hLdS B false 1 false (demK r3) f3 u3 (fun r4 f4 u4 =>
  hBinS B .add false (demK r4) (.c (.p (pI 1))) f4 u4 (fun r5 f5 u5 =>
  hGen C (.nck) [(demK (demK (look' 0 e)))] f5 u5 (fun r6 f6 u6 =>
  hFa 0 (demK r6) f6 u6 (fun r7 f7 u7 =>
  hFa 3 (demK r7) f7 u7 (fun r8 f8 u8 =>
  hStS B 1 (demK r8) (demK r5) f8 u8 (fun r9 f9 u9 =>
  k .normal [] f9 u9)))))))))

noncomputable def q46_10 (B : Sy) (C : Go.ScE.Callee) : Env → Fram → List Fram → KX → R0 := fun e fr up k =>
  headK (.c (.p (pI 0))) (fun v4 => k .normal [(4, v4)] fr up)

noncomputable def q46_11 (B : Sy) (C : Go.ScE.Callee) : Env → Fram → List Fram → KX → R0 := fun e fr up k =>
  hBinS B .eql false (demK (look' 34 e)) (.c (.p (pI 5))) fr up (fun r0 f0 u0 =>
  headK (look' 0 e) (fun v0 => headK (look' 3 e) (fun v3 => headK (look' 5 e) (fun v5 => headK (look' 6 e) (fun v6 => headK (look' 7 e) (fun v7 => headK (look' 8 e) (fun v8 => headK (look' 9 e) (fun v9 => headK (look' 34 e) (fun v34 => headK (demK r0) (fun v63 => k .normal [(0, v0), (3, v3), (5, v5), (6, v6), (7, v7), (8, v8), (9, v9), (34, v34), (63, v63)] f0 u0))))))))))

noncomputable def q46_12 (B : Sy) (C : Go.ScE.Callee) : Env → Fram → List Fram → KX → R0 := fun e fr up k =>
  hBinS B .eql false (demK (look' 34 e)) (.c (.p (pI 6))) fr up (fun r0 f0 u0 =>
  headK (look' 0 e) (fun v0 => headK (look' 3 e) (fun v3 => headK (look' 5 e) (fun v5 => headK (look' 6 e) (fun v6 => headK (look' 7 e) (fun v7 => headK (look' 8 e) (fun v8 => headK (look' 9 e) (fun v9 => headK (look' 34 e) (fun v34 => headK (demK r0) (fun v63 => k .normal [(0, v0), (3, v3), (5, v5), (6, v6), (7, v7), (8, v8), (9, v9), (34, v34), (63, v63)] f0 u0))))))))))

noncomputable def q46_13 (B : Sy) (C : Go.ScE.Callee) : Env → Fram → List Fram → KX → R0 := fun e fr up k =>
  hFa 3 (demK (look' 3 e)) fr up (fun r1 f1 u1 =>
  hLdS B false 1 false (demK r1) f1 u1 (fun r2 f2 u2 =>
  hGen C (.nck) [(demK (demK (look' 0 e)))] f2 u2 (fun r3 f3 u3 =>
  hFa 0 (demK r3) f3 u3 (fun r4 f4 u4 =>
  hFa 5 (demK r4) f4 u4 (fun r5 f5 u5 =>
  hIaa 1 32 (demK r5) (demK r2) f5 u5 (fun r6 f6 u6 =>
  hLdS B false 1 false (demK r6) f6 u6 (fun r7 f7 u7 =>
  hBinS B .eql false (demK r7) (.c (.p (pI 0))) f7 u7 (fun r8 f8 u8 =>
  headK (look' 0 e) (fun v0 => headK (look' 3 e) (fun v3 => headK (look' 6 e) (fun v6 => headK (look' 8 e) (fun v8 => headK (look' 9 e) (fun v9 => headK r8 (fun v74 => k .normal [(0, v0), (3, v3), (6, v6), (8, v8), (9, v9), (74, v74)] f8 u8))))))))))))))

noncomputable def q46_14 (B : Sy) (C : Go.ScE.Callee) : Env → Fram → List Fram → KX → R0 := fun e fr up k =>
  headK (.c (.p (pI 4))) (fun v4 => k .normal [(4, v4)] fr up)

noncomputable def q46_15 (B : Sy) (C : Go.ScE.Callee) : Env → Fram → List Fram → KX → R0 := fun e fr up k =>
  hFa 0 (demK (look' 3 e)) fr up (fun r0 f0 u0 =>
  hLdS B false 1 false (demK r0) f0 u0 (fun r1 f1 u1 =>
  hFa 3 (demK (look' 3 e)) f1 u1 (fun r4 f4 u4 =>
  hLdS B false 1 false (demK r4) f4 u4 (fun r5 f5 u5 =>
  hGen C (.nck) [(demK (demK (look' 0 e)))] f5 u5 (fun r6 f6 u6 =>
  hFa 0 (demK r6) f6 u6 (fun r7 f7 u7 =>
  hFa 5 (demK r7) f7 u7 (fun r8 f8 u8 =>
  hIaa 1 32 (demK r8) (demK r5) f8 u8 (fun r9 f9 u9 =>
  hLdS B false 1 false (demK r9) f9 u9 (fun r10 f10 u10 =>
  Bool.rec (motive := fun _ => R0) fail0 (hCall C 60 [(demK r1), (demK (demK (look' 6 e))), (demK r10)] f10 u10 (fun r11 f11 u11 =>
  headK (look' 0 e) (fun v0 => headK (look' 3 e) (fun v3 => headK (demK r11) (fun v7 => headK (look' 8 e) (fun v8 => headK (look' 9 e) (fun v9 => k .normal [(0, v0), (3, v3), (7, v7), (8, v8), (9, v9)] f11 u11))))))) (chkD (.call 60) false [] [(demK r1), (demK (demK (look' 6 e))), (demK r10)]))))))))))

noncomputable def q46_16 (B : Sy) (C : Go.ScE.Callee) : Env → Fram → List Fram → KX → R0 := fun e fr up k =>
  hBinS B .eql false (demK (look' 34 e)) (.c (.p (pI 15))) fr up (fun r0 f0 u0 =>
  headK (look' 0 e) (fun v0 => headK (look' 3 e) (fun v3 => headK (look' 5 e) (fun v5 => headK (look' 6 e) (fun v6 => headK (look' 7 e) (fun v7 => headK (look' 8 e) (fun v8 => headK (look' 9 e) (fun v9 => headK (look' 34 e) (fun v34 => headK (demK r0) (fun v87 => k .normal [(0, v0), (3, v3), (5, v5), (6, v6), (7, v7), (8, v8), (9, v9), (34, v34), (87, v87)] f0 u0))))))))))

noncomputable def q46_17 (B : Sy) (C : Go.ScE.Callee) : Env → Fram → List Fram → KX → R0 := fun e fr up k =>
  hFa 4 (demK (look' 3 e)) fr up (fun r1 f1 u1 =>
  hLdS B false 1 false (demK r1) f1 u1 (fun r2 f2 u2 =>
  hBinS B .add false (demK (demK (look' 6 e))) (demK r2) f2 u2 (fun r3 f3 u3 =>
  headK (look' 0 e) (fun v0 => headK (look' 3 e) (fun v3 => headK (demK r3) (fun v7 => headK (look' 8 e) (fun v8 => headK (look' 9 e) (fun v9 => k .normal [(0, v0), (3, v3), (7, v7), (8, v8), (9, v9)] f3 u3))))))))

noncomputable def q46_18 (B : Sy) (C : Go.ScE.Callee) : Env → Fram → List Fram → KX → R0 := fun e fr up k =>
  hBinS B .eql false (demK (look' 34 e)) (.c (.p (pI 16))) fr up (fun r0 f0 u0 =>
  headK (look' 0 e) (fun v0 => headK (look' 3 e) (fun v3 => headK (look' 5 e) (fun v5 => headK (look' 6 e) (fun v6 => headK (look' 7 e) (fun v7 => headK (look' 8 e) (fun v8 => headK (look' 9 e) (fun v9 => headK (look' 34 e) (fun v34 => headK (demK r0) (fun v93 => k .normal [(0, v0), (3, v3), (5, v5), (6, v6), (7, v7), (8, v8), (9, v9), (34, v34), (93, v93)] f0 u0))))))))))

noncomputable def q46_19 (B : Sy) (C : Go.ScE.Callee) : Env → Fram → List Fram → KX → R0 := fun e fr up k =>
  hFa 4 (demK (look' 3 e)) fr up (fun r1 f1 u1 =>
  hLdS B false 1 false (demK r1) f1 u1 (fun r2 f2 u2 =>
  hBinS B .and false (demK (demK (look' 6 e))) (demK r2) f2 u2 (fun r3 f3 u3 =>
  headK (look' 0 e) (fun v0 => headK (look' 3 e) (fun v3 => headK (demK r3) (fun v7 => headK (look' 8 e) (fun v8 => headK (look' 9 e) (fun v9 => k .normal [(0, v0), (3, v3), (7, v7), (8, v8), (9, v9)] f3 u3))))))))

noncomputable def q46_20 (B : Sy) (C : Go.ScE.Callee) : Env → Fram → List Fram → KX → R0 := fun e fr up k =>
  hBinS B .eql false (demK (look' 34 e)) (.c (.p (pI 17))) fr up (fun r0 f0 u0 =>
  headK (look' 0 e) (fun v0 => headK (look' 3 e) (fun v3 => headK (look' 5 e) (fun v5 => headK (look' 6 e) (fun v6 => headK (look' 7 e) (fun v7 => headK (look' 8 e) (fun v8 => headK (look' 9 e) (fun v9 => headK (look' 34 e) (fun v34 => headK (demK r0) (fun v99 => k .normal [(0, v0), (3, v3), (5, v5), (6, v6), (7, v7), (8, v8), (9, v9), (34, v34), (99, v99)] f0 u0))))))))))

noncomputable def q46_21 (B : Sy) (C : Go.ScE.Callee) : Env → Fram → List Fram → KX → R0 := fun e fr up k =>
  hFa 4 (demK (look' 3 e)) fr up (fun r1 f1 u1 =>
  hLdS B false 1 false (demK r1) f1 u1 (fun r2 f2 u2 =>
  hBinS B .or false (demK (demK (look' 6 e))) (demK r2) f2 u2 (fun r3 f3 u3 =>
  headK (look' 0 e) (fun v0 => headK (look' 3 e) (fun v3 => headK (demK r3) (fun v7 => headK (look' 8 e) (fun v8 => headK (look' 9 e) (fun v9 => k .normal [(0, v0), (3, v3), (7, v7), (8, v8), (9, v9)] f3 u3))))))))

noncomputable def q46_22 (B : Sy) (C : Go.ScE.Callee) : Env → Fram → List Fram → KX → R0 := fun e fr up k =>
  hBinS B .eql false (demK (look' 34 e)) (.c (.p (pI 18))) fr up (fun r0 f0 u0 =>
  headK (look' 0 e) (fun v0 => headK (look' 3 e) (fun v3 => headK (look' 5 e) (fun v5 => headK (look' 6 e) (fun v6 => headK (look' 7 e) (fun v7 => headK (look' 8 e) (fun v8 => headK (look' 9 e) (fun v9 => headK (look' 34 e) (fun v34 => headK (demK r0) (fun v105 => k .normal [(0, v0), (3, v3), (5, v5), (6, v6), (7, v7), (8, v8), (9, v9), (34, v34), (105, v105)] f0 u0))))))))))

noncomputable def q46_23 (B : Sy) (C : Go.ScE.Callee) : Env → Fram → List Fram → KX → R0 := fun e fr up k =>
  hFa 4 (demK (look' 3 e)) fr up (fun r1 f1 u1 =>
  hLdS B false 1 false (demK r1) f1 u1 (fun r2 f2 u2 =>
  hCviS B .u64 (demK r2) f2 u2 (fun r3 f3 u3 =>
  hBinS B .shl false (demK (demK (look' 6 e))) (demK r3) f3 u3 (fun r4 f4 u4 =>
  headK (look' 0 e) (fun v0 => headK (look' 3 e) (fun v3 => headK (demK r4) (fun v7 => headK (look' 8 e) (fun v8 => headK (look' 9 e) (fun v9 => k .normal [(0, v0), (3, v3), (7, v7), (8, v8), (9, v9)] f4 u4)))))))))

noncomputable def q46_24 (B : Sy) (C : Go.ScE.Callee) : Env → Fram → List Fram → KX → R0 := fun e fr up k =>
  hBinS B .eql false (demK (look' 34 e)) (.c (.p (pI 19))) fr up (fun r0 f0 u0 =>
  headK (look' 0 e) (fun v0 => headK (look' 3 e) (fun v3 => headK (look' 5 e) (fun v5 => headK (look' 6 e) (fun v6 => headK (look' 7 e) (fun v7 => headK (look' 8 e) (fun v8 => headK (look' 9 e) (fun v9 => headK (look' 34 e) (fun v34 => headK (demK r0) (fun v112 => k .normal [(0, v0), (3, v3), (5, v5), (6, v6), (7, v7), (8, v8), (9, v9), (34, v34), (112, v112)] f0 u0))))))))))

noncomputable def q46_25 (B : Sy) (C : Go.ScE.Callee) : Env → Fram → List Fram → KX → R0 := fun e fr up k =>
  hFa 4 (demK (look' 3 e)) fr up (fun r1 f1 u1 =>
  hLdS B false 1 false (demK r1) f1 u1 (fun r2 f2 u2 =>
  hCviS B .u64 (demK r2) f2 u2 (fun r3 f3 u3 =>
  hBinS B .shr false (demK (demK (look' 6 e))) (demK r3) f3 u3 (fun r4 f4 u4 =>
  headK (look' 0 e) (fun v0 => headK (look' 3 e) (fun v3 => headK (demK r4) (fun v7 => headK (look' 8 e) (fun v8 => headK (look' 9 e) (fun v9 => k .normal [(0, v0), (3, v3), (7, v7), (8, v8), (9, v9)] f4 u4)))))))))

noncomputable def q46_26 (B : Sy) (C : Go.ScE.Callee) : Env → Fram → List Fram → KX → R0 := fun e fr up k =>
  hBinS B .eql false (demK (look' 34 e)) (.c (.p (pI 20))) fr up (fun r0 f0 u0 =>
  headK (look' 0 e) (fun v0 => headK (look' 3 e) (fun v3 => headK (look' 5 e) (fun v5 => headK (look' 6 e) (fun v6 => headK (look' 7 e) (fun v7 => headK (look' 8 e) (fun v8 => headK (look' 9 e) (fun v9 => headK (look' 34 e) (fun v34 => headK (demK r0) (fun v119 => k .normal [(0, v0), (3, v3), (5, v5), (6, v6), (7, v7), (8, v8), (9, v9), (34, v34), (119, v119)] f0 u0))))))))))

noncomputable def q46_27 (B : Sy) (C : Go.ScE.Callee) : Env → Fram → List Fram → KX → R0 := fun e fr up k =>
  hFa 4 (demK (look' 3 e)) fr up (fun r0 f0 u0 =>
  hLdS B false 1 false (demK r0) f0 u0 (fun r1 f1 u1 =>
  headK (look' 0 e) (fun v0 => headK (look' 3 e) (fun v3 => headK (demK r1) (fun v7 => headK (look' 8 e) (fun v8 => headK (look' 9 e) (fun v9 => k .normal [(0, v0), (3, v3), (7, v7), (8, v8), (9, v9)] f1 u1)))))))

noncomputable def q46_28 (B : Sy) (C : Go.ScE.Callee) : Env → Fram → List Fram → KX → R0 := fun e fr up k =>
  hBinS B .eql false (demK (look' 34 e)) (.c (.p (pI 21))) fr up (fun r0 f0 u0 =>
  headK (look' 0 e) (fun v0 => headK (look' 3 e) (fun v3 => headK (look' 5 e) (fun v5 => headK (look' 6 e) (fun v6 => headK (look' 7 e) (fun v7 => headK (look' 8 e) (fun v8 => headK (look' 9 e) (fun v9 => headK (look' 34 e) (fun v34 => headK (demK r0) (fun v123 => k .normal [(0, v0), (3, v3), (5, v5), (6, v6), (7, v7), (8, v8), (9, v9), (34, v34), (123, v123)] f0 u0))))))))))

noncomputable def q46_29 (B : Sy) (C : Go.ScE.Callee) : Env → Fram → List Fram → KX → R0 := fun e fr up k =>
  hBinS B .mul false (demK (demK (look' 5 e))) (.c (.p (pI 65536))) fr up (fun r1 f1 u1 =>
  hFa 4 (demK (look' 3 e)) f1 u1 (fun r2 f2 u2 =>
  hLdS B false 1 false (demK r2) f2 u2 (fun r3 f3 u3 =>
  hBinS B .or false (demK r1) (demK r3) f3 u3 (fun r4 f4 u4 =>
  headK (look' 0 e) (fun v0 => headK (look' 3 e) (fun v3 => headK (demK r4) (fun v7 => headK (look' 8 e) (fun v8 => headK (look' 9 e) (fun v9 => k .normal [(0, v0), (3, v3), (7, v7), (8, v8), (9, v9)] f4 u4)))))))))

noncomputable def q46_30 (B : Sy) (C : Go.ScE.Callee) : Env → Fram → List Fram → KX → R0 := fun e fr up k =>
  hBinS B .eql false (demK (look' 34 e)) (.c (.p (pI 22))) fr up (fun r0 f0 u0 =>
  headK (look' 0 e) (fun v0 => headK (look' 3 e) (fun v3 => headK (look' 5 e) (fun v5 => headK (look' 6 e) (fun v6 => headK (look' 7 e) (fun v7 => headK (look' 8 e) (fun v8 => headK (look' 9 e) (fun v9 => headK (look' 34 e) (fun v34 => headK (demK r0) (fun v130 => k .normal [(0, v0), (3, v3), (5, v5), (6, v6), (7, v7), (8, v8), (9, v9), (34, v34), (130, v130)] f0 u0))))))))))

noncomputable def q46_31 (B : Sy) (C : Go.ScE.Callee) : Env → Fram → List Fram → KX → R0 := fun e fr up k =>
  hBinS B .eql false (demK (look' 34 e)) (.c (.p (pI 23))) fr up (fun r0 f0 u0 =>
  headK (look' 0 e) (fun v0 => headK (look' 3 e) (fun v3 => headK (look' 5 e) (fun v5 => headK (look' 6 e) (fun v6 => headK (look' 7 e) (fun v7 => headK (look' 8 e) (fun v8 => headK (look' 9 e) (fun v9 => headK (look' 34 e) (fun v34 => headK (demK r0) (fun v130 => k .normal [(0, v0), (3, v3), (5, v5), (6, v6), (7, v7), (8, v8), (9, v9), (34, v34), (130, v130)] f0 u0))))))))))

noncomputable def q46_32 (B : Sy) (C : Go.ScE.Callee) : Env → Fram → List Fram → KX → R0 := fun e fr up k =>
  hFa 4 (demK (look' 3 e)) fr up (fun r1 f1 u1 =>
  hLdS B false 1 false (demK r1) f1 u1 (fun r2 f2 u2 =>
  hBinS B .add false (demK (demK (look' 6 e))) (demK r2) f2 u2 (fun r3 f3 u3 =>
  headK (look' 0 e) (fun v0 => headK (look' 3 e) (fun v3 => headK (look' 5 e) (fun v5 => headK (look' 7 e) (fun v7 => headK (look' 8 e) (fun v8 => headK (look' 9 e) (fun v9 => headK (demK r3) (fun v10 => k .normal [(0, v0), (3, v3), (5, v5), (7, v7), (8, v8), (9, v9), (10, v10)] f3 u3))))))))))

noncomputable def q46_33 (B : Sy) (C : Go.ScE.Callee) : Env → Fram → List Fram → KX → R0 := fun e fr up k =>
  hBinS B .lss false (demK (demK (look' 10 e))) (.c (.p (pI 0))) fr up (fun r1 f1 u1 =>
  guardK false (demK r1) (fun K => K (demK (look' 10 e)) f1 u1) f1 u1 (fun r3 f3 u3 =>
  guardK false (demK r1) (fun K => K (demK (look' 0 e)) f3 u3) f3 u3 (fun r4 f4 u4 =>
  guardK false (demK r1) (fun K => hGen C (.nck) [(demK r4)] f4 u4 K) f4 u4 (fun r5 f5 u5 =>
  guardK false (demK r1) (fun K => hFa 0 (demK r5) f5 u5 K) f5 u5 (fun r6 f6 u6 =>
  guardK false (demK r1) (fun K => hFa 37 (demK r6) f6 u6 K) f6 u6 (fun r7 f7 u7 =>
  guardK false (demK r1) (fun K => hLdS B false 1 false (demK r7) f7 u7 K) f7 u7 (fun r8 f8 u8 =>
  guardK false (demK r1) (fun K => hLenLS B  (demK r8) f8 u8 K) f8 u8 (fun r9 f9 u9 =>
  guardK false (demK r1) (fun K => hBinS B .geq false (demK r3) (demK r9) f9 u9 K) f9 u9 (fun r10 f10 u10 =>
  hPick  (demK (demK r1)) (.c (.p (pB true))) (demK r10) f10 u10 (fun r11 f11 u11 =>
  headK (look' 0 e) (fun v0 => headK (look' 3 e) (fun v3 => headK (look' 5 e) (fun v5 => headK (look' 7 e) (fun v7 => headK (look' 8 e) (fun v8 => headK (look' 9 e) (fun v9 => headK (look' 10 e) (fun v10 => headK r11 (fun v148 => k .normal [(0, v0), (3, v3), (5, v5), (7, v7), (8, v8), (9, v9), (10, v10), (148, v148)] f11 u11))))))))))))))))))

noncomputable def q46_34 (B : Sy) (C : Go.ScE.Callee) : Env → Fram → List Fram → KX → R0 := fun e fr up k =>
  headK (.c (.p (pI 2))) (fun v4 => k .normal [(4, v4)] fr up)

noncomputable def q46_35 (B : Sy) (C : Go.ScE.Callee) : Env → Fram → List Fram → KX → R0 := fun e fr up k =>
  hFa 0 (demK (look' 3 e)) fr up (fun r0 f0 u0 =>
  hLdS B false 1 false (demK r0) f0 u0 (fun r1 f1 u1 =>
  hBinS B .eql false (demK r1) (.c (.p (pI 23))) f1 u1 (fun r2 f2 u2 =>
  headK (look' 0 e) (fun v0 => headK (look' 3 e) (fun v3 => headK (look' 5 e) (fun v5 => headK (look' 7 e) (fun v7 => headK (look' 8 e) (fun v8 => headK (look' 9 e) (fun v9 => headK (look' 10 e) (fun v10 => headK r2 (fun v151 => k .normal [(0, v0), (3, v3), (5, v5), (7, v7), (8, v8), (9, v9), (10, v10), (151, v151)] f2 u2)))))))))))

noncomputable def q46_36 (B : Sy) (C : Go.ScE.Callee) : Env → Fram → List Fram → KX → R0 := fun e fr up k =>
  hGen C (.nck) [(demK (demK (look' 0 e)))] fr up (fun r1 f1 u1 =>
  hFa 0 (demK r1) f1 u1 (fun r2 f2 u2 =>
  hFa 37 (demK r2) f2 u2 (fun r3 f3 u3 =>
  hLdS B false 1 false (demK r3) f3 u3 (fun r4 f4 u4 =>
  hIaS B 1 (demK r4) (demK (demK (look' 10 e))) f4 u4 (fun r7 f7 u7 =>
  hStS B 1 (demK r7) (demK (demK (look' 5 e))) f7 u7 (fun r8 f8 u8 =>
  headK (look' 0 e) (fun v0 => headK (look' 3 e) (fun v3 => headK (look' 7 e) (fun v7 => headK (look' 9 e) (fun v9 => k .normal [(0, v0), (3, v3), (7, v7), (9, v9)] f8 u8))))))))))

noncomputable def q46_37 (B : Sy) (C : Go.ScE.Callee) : Env → Fram → List Fram → KX → R0 := fun e fr up k =>
  headK (look' 0 e) (fun v0 => headK (look' 3 e) (fun v3 => headK (look' 7 e) (fun v7 => headK (.c (.p (pB false))) (fun v8 => headK (look' 9 e) (fun v9 => k .normal [(0, v0), (3, v3), (7, v7), (8, v8), (9, v9)] fr up)))))

noncomputable def q46_38 (B : Sy) (C : Go.ScE.Callee) : Env → Fram → List Fram → KX → R0 := fun e fr up k =>
  hGen C (.nck) [(demK (demK (look' 0 e)))] fr up (fun r1 f1 u1 =>
  hFa 0 (demK r1) f1 u1 (fun r2 f2 u2 =>
  hFa 37 (demK r2) f2 u2 (fun r3 f3 u3 =>
  hLdS B false 1 false (demK r3) f3 u3 (fun r4 f4 u4 =>
  hIaS B 1 (demK r4) (demK (demK (look' 10 e))) f4 u4 (fun r6 f6 u6 =>
  hLdS B false 1 false (demK r6) f6 u6 (fun r7 f7 u7 =>
  headK (look' 0 e) (fun v0 => headK (look' 3 e) (fun v3 => headK (demK r7) (fun v7 => headK (look' 8 e) (fun v8 => headK (look' 9 e) (fun v9 => k .normal [(0, v0), (3, v3), (7, v7), (8, v8), (9, v9)] f7 u7)))))))))))

noncomputable def q46_39 (B : Sy) (C : Go.ScE.Callee) : Env → Fram → List Fram → KX → R0 := fun e fr up k =>
  hBinS B .eql false (demK (look' 34 e)) (.c (.p (pI 24))) fr up (fun r0 f0 u0 =>
  headK (look' 0 e) (fun v0 => headK (look' 3 e) (fun v3 => headK (look' 5 e) (fun v5 => headK (look' 6 e) (fun v6 => headK (look' 7 e) (fun v7 => headK (look' 8 e) (fun v8 => headK (look' 9 e) (fun v9 => headK (look' 34 e) (fun v34 => headK (demK r0) (fun v168 => k .normal [(0, v0), (3, v3), (5, v5), (6, v6), (7, v7), (8, v8), (9, v9), (34, v34), (168, v168)] f0 u0))))))))))

noncomputable def q46_40 (B : Sy) (C : Go.ScE.Callee) : Env → Fram → List Fram → KX → R0 := fun e fr up k =>
  hBinS B .eql false (demK (look' 34 e)) (.c (.p (pI 25))) fr up (fun r0 f0 u0 =>
  headK (look' 0 e) (fun v0 => headK (look' 3 e) (fun v3 => headK (look' 5 e) (fun v5 => headK (look' 6 e) (fun v6 => headK (look' 7 e) (fun v7 => headK (look' 8 e) (fun v8 => headK (look' 9 e) (fun v9 => headK (look' 34 e) (fun v34 => headK (demK r0) (fun v168 => k .normal [(0, v0), (3, v3), (5, v5), (6, v6), (7, v7), (8, v8), (9, v9), (34, v34), (168, v168)] f0 u0))))))))))

noncomputable def q46_41 (B : Sy) (C : Go.ScE.Callee) : Env → Fram → List Fram → KX → R0 := fun e fr up k =>
  hBinS B .eql false (demK (look' 34 e)) (.c (.p (pI 26))) fr up (fun r0 f0 u0 =>
  headK (look' 0 e) (fun v0 => headK (look' 3 e) (fun v3 => headK (look' 5 e) (fun v5 => headK (look' 6 e) (fun v6 => headK (look' 7 e) (fun v7 => headK (look' 8 e) (fun v8 => headK (look' 9 e) (fun v9 => headK (look' 34 e) (fun v34 => headK (demK r0) (fun v168 => k .normal [(0, v0), (3, v3), (5, v5), (6, v6), (7, v7), (8, v8), (9, v9), (34, v34), (168, v168)] f0 u0))))))))))

noncomputable def q46_42 (B : Sy) (C : Go.ScE.Callee) : Env → Fram → List Fram → KX → R0 := fun e fr up k =>
  hBinS B .eql false (demK (look' 34 e)) (.c (.p (pI 27))) fr up (fun r0 f0 u0 =>
  headK (look' 0 e) (fun v0 => headK (look' 3 e) (fun v3 => headK (look' 5 e) (fun v5 => headK (look' 6 e) (fun v6 => headK (look' 7 e) (fun v7 => headK (look' 8 e) (fun v8 => headK (look' 9 e) (fun v9 => headK (look' 34 e) (fun v34 => headK (demK r0) (fun v168 => k .normal [(0, v0), (3, v3), (5, v5), (6, v6), (7, v7), (8, v8), (9, v9), (34, v34), (168, v168)] f0 u0))))))))))

noncomputable def q46_43 (B : Sy) (C : Go.ScE.Callee) : Env → Fram → List Fram → KX → R0 := fun e fr up k =>
  headK (look' 0 e) (fun v0 => headK (look' 3 e) (fun v3 => headK (look' 5 e) (fun v5 => headK (look' 6 e) (fun v6 => headK (look' 7 e) (fun v7 => headK (.c (.p (pB false))) (fun v8 => headK (look' 9 e) (fun v9 => k .normal [(0, v0), (3, v3), (5, v5), (6, v6), (7, v7), (8, v8), (9, v9)] fr up)))))))

noncomputable def q46_44 (B : Sy) (C : Go.ScE.Callee) : Env → Fram → List Fram → KX → R0 := fun e fr up k =>
  hFa 0 (demK (look' 3 e)) fr up (fun r0 f0 u0 =>
  hLdS B false 1 false (demK r0) f0 u0 (fun r1 f1 u1 =>
  hBinS B .eql false (demK r1) (.c (.p (pI 24))) f1 u1 (fun r2 f2 u2 =>
  guardK true (demK r2) (fun K => K (demK (look' 5 e)) f2 u2) f2 u2 (fun r4 f4 u4 =>
  guardK true (demK r2) (fun K => K (demK (look' 6 e)) f4 u4) f4 u4 (fun r5 f5 u5 =>
  guardK true (demK r2) (fun K => hBinS B .eql false (demK r4) (demK r5) f5 u5 K) f5 u5 (fun r6 f6 u6 =>
  hPick  (demK (demK r2)) (demK r6) (.c (.p (pB false))) f6 u6 (fun r7 f7 u7 =>
  guardK false (demK r7) (fun K => hFa 0 (demK (look' 3 e)) f7 u7 K) f7 u7 (fun r9 f9 u9 =>
  guardK false (demK r7) (fun K => hLdS B false 1 false (demK r9) f9 u9 K) f9 u9 (fun r10 f10 u10 =>
  guardK false (demK r7) (fun K => hBinS B .eql false (demK r10) (.c (.p (pI 25))) f10 u10 K) f10 u10 (fun r11 f11 u11 =>
  guardK false (demK r7) (fun K => K (demK r11) f11 u11) f11 u11 (fun r12 f12 u12 =>
  guardK true r12 (fun K => K (demK (look' 5 e)) f12 u12) f12 u12 (fun r13 f13 u13 =>
  guardK true r12 (fun K => K (demK (look' 6 e)) f13 u13) f13 u13 (fun r14 f14 u14 =>
  guardK true r12 (fun K => hBinS B .neq false (demK r13) (demK r14) f14 u14 K) f14 u14 (fun r15 f15 u15 =>
  guardK false (demK r7) (fun K => hPick  (demK r12) (demK r15) (.c (.p (pB false))) f15 u15 K) f15 u15 (fun r16 f16 u16 =>
  hPick  (demK (demK r7)) (.c (.p (pB true))) (demK r16) f16 u16 (fun r17 f17 u17 =>
  guardK false (demK r17) (fun K => hFa 0 (demK (look' 3 e)) f17 u17 K) f17 u17 (fun r19 f19 u19 =>
  guardK false (demK r17) (fun K => hLdS B false 1 false (demK r19) f19 u19 K) f19 u19 (fun r20 f20 u20 =>
  guardK false (demK r17) (fun K => hBinS B .eql false (demK r20) (.c (.p (pI 26))) f20 u20 K) f20 u20 (fun r21 f21 u21 =>
  guardK false (demK r17) (fun K => K (demK r21) f21 u21) f21 u21 (fun r22 f22 u22 =>
  guardK true r22 (fun K => K (demK (look' 5 e)) f22 u22) f22 u22 (fun r23 f23 u23 =>
  guardK true r22 (fun K => K (demK (look' 6 e)) f23 u23) f23 u23 (fun r24 f24 u24 =>
  guardK true r22 (fun K => hBinS B .lss false (demK r23) (demK r24) f24 u24 K) f24 u24 (fun r25 f25 u25 =>
  guardK false (demK r17) (fun K => hPick  (demK r22) (demK r25) (.c (.p (pB false))) f25 u25 K) f25 u25 (fun r26 f26 u26 =>
  hPick  (demK (demK r17)) (.c (.p (pB true))) (demK r26) f26 u26 (fun r27 f27 u27 =>
  guardK false (demK r27) (fun K => hFa 0 (demK (look' 3 e)) f27 u27 K) f27 u27 (fun r29 f29 u29 =>
  guardK false (demK r27) (fun K => hLdS B false 1 false (demK r29) f29 u29 K) f29 u29 (fun r30 f30 u30 =>
  guardK false (demK r27) (fun K => hBinS B .eql false (demK r30) (.c (.p (pI 27))) f30 u30 K) f30 u30 (fun r31 f31 u31 =>
  guardK false (demK r27) (fun K => K (demK r31) f31 u31) f31 u31 (fun r32 f32 u32 =>
  guardK true r32 (fun K => K (demK (look' 5 e)) f32 u32) f32 u32 (fun r33 f33 u33 =>
  guardK true r32 (fun K => K (demK (look' 6 e)) f33 u33) f33 u33 (fun r34 f34 u34 =>
  guardK true r32 (fun K => hBinS B .geq false (demK r33) (demK r34) f34 u34 K) f34 u34 (fun r35 f35 u35 =>
  guardK false (demK r27) (fun K => hPick  (demK r32) (demK r35) (.c (.p (pB false))) f35 u35 K) f35 u35 (fun r36 f36 u36 =>
  hPick  (demK (demK r27)) (.c (.p (pB true))) (demK r36) f36 u36 (fun r37 f37 u37 =>
  headK (look' 0 e) (fun v0 => headK (look' 3 e) (fun v3 => headK (look' 7 e) (fun v7 => headK (look' 8 e) (fun v8 => headK (look' 9 e) (fun v9 => headK r37 (fun v210 => k .normal [(0, v0), (3, v3), (7, v7), (8, v8), (9, v9), (210, v210)] f37 u37))))))))))))))))))))))))))))))))))))))))

noncomputable def q46_45 (B : Sy) (C : Go.ScE.Callee) : Env → Fram → List Fram → KX → R0 := fun e fr up k =>
  hGen C (.nck) [(demK (demK (look' 0 e)))] fr up (fun r1 f1 u1 =>
  hFa 0 (demK r1) f1 u1 (fun r2 f2 u2 =>
  hFa 4 (demK r2) f2 u2 (fun r3 f3 u3 =>
  hLdS B false 1 false (demK r3) f3 u3 (fun r4 f4 u4 =>
  hFa 4 (demK (look' 3 e)) f4 u4 (fun r5 f5 u5 =>
  hLdS B false 1 false (demK r5) f5 u5 (fun r6 f6 u6 =>
  hBinS B .add false (demK r4) (demK r6) f6 u6 (fun r7 f7 u7 =>
  headK (look' 0 e) (fun v0 => headK (look' 3 e) (fun v3 => headK (look' 7 e) (fun v7 => headK (look' 8 e) (fun v8 => headK (demK r7) (fun v9 => k .normal [(0, v0), (3, v3), (7, v7), (8, v8), (9, v9)] f7 u7))))))))))))

noncomputable def q46_46 (B : Sy) (C : Go.ScE.Callee) : Env → Fram → List Fram → KX → R0 := fun e fr up k =>
  hBinS B .eql false (demK (look' 34 e)) (.c (.p (pI 28))) fr up (fun r0 f0 u0 =>
  headK (look' 0 e) (fun v0 => headK (look' 3 e) (fun v3 => headK (look' 5 e) (fun v5 => headK (look' 6 e) (fun v6 => headK (look' 7 e) (fun v7 => headK (look' 8 e) (fun v8 => headK (look' 9 e) (fun v9 => headK (look' 34 e) (fun v34 => headK (demK r0) (fun v219 => k .normal [(0, v0), (3, v3), (5, v5), (6, v6), (7, v7), (8, v8), (9, v9), (34, v34), (219, v219)] f0 u0))))))))))

noncomputable def q46_47 (B : Sy) (C : Go.ScE.Callee) : Env → Fram → List Fram → KX → R0 := fun e fr up k =>
  headK (look' 0 e) (fun v0 => headK (look' 3 e) (fun v3 => headK (demK (demK (look' 9 e))) (fun v7 => headK (look' 8 e) (fun v8 => k .normal [(0, v0), (3, v3), (7, v7), (8, v8)] fr up))))

noncomputable def q46_48 (B : Sy) (C : Go.ScE.Callee) : Env → Fram → List Fram → KX → R0 := fun e fr up k =>
  hGen C (.nck) [(demK (demK (look' 0 e)))] fr up (fun r1 f1 u1 =>
  hFa 0 (demK r1) f1 u1 (fun r2 f2 u2 =>
  hFa 4 (demK r2) f2 u2 (fun r3 f3 u3 =>
  hLdS B false 1 false (demK r3) f3 u3 (fun r4 f4 u4 =>
  hFa 4 (demK (look' 3 e)) f4 u4 (fun r5 f5 u5 =>
  hLdS B false 1 false (demK r5) f5 u5 (fun r6 f6 u6 =>
  hBinS B .add false (demK r4) (demK r6) f6 u6 (fun r7 f7 u7 =>
  headK (look' 0 e) (fun v0 => headK (look' 3 e) (fun v3 => headK (look' 7 e) (fun v7 => headK (look' 8 e) (fun v8 => headK (demK r7) (fun v9 => k .normal [(0, v0), (3, v3), (7, v7), (8, v8), (9, v9)] f7 u7))))))))))))

noncomputable def q46_49 (B : Sy) (C : Go.ScE.Callee) : Env → Fram → List Fram → KX → R0 := fun e fr up k =>
  hBinS B .eql false (demK (look' 34 e)) (.c (.p (pI 29))) fr up (fun r0 f0 u0 =>
  headK (look' 0 e) (fun v0 => headK (look' 3 e) (fun v3 => headK (look' 5 e) (fun v5 => headK (look' 6 e) (fun v6 => headK (look' 7 e) (fun v7 => headK (look' 8 e) (fun v8 => headK (look' 9 e) (fun v9 => headK (look' 34 e) (fun v34 => headK (demK r0) (fun v230 => k .normal [(0, v0), (3, v3), (5, v5), (6, v6), (7, v7), (8, v8), (9, v9), (34, v34), (230, v230)] f0 u0))))))))))

noncomputable def q46_50 (B : Sy) (C : Go.ScE.Callee) : Env → Fram → List Fram → KX → R0 := fun e fr up k =>
  headK (look' 0 e) (fun v0 => headK (look' 3 e) (fun v3 => headK (look' 6 e) (fun v6 => headK (demK (demK (look' 9 e))) (fun v7 => headK (look' 8 e) (fun v8 => k .normal [(0, v0), (3, v3), (6, v6), (7, v7), (8, v8)] fr up)))))

noncomputable def q46_51 (B : Sy) (C : Go.ScE.Callee) : Env → Fram → List Fram → KX → R0 := fun e fr up k =>
  headK (look' 0 e) (fun v0 => headK (look' 3 e) (fun v3 => headK (look' 7 e) (fun v7 => headK (look' 8 e) (fun v8 => headK (demK (demK (look' 6 e))) (fun v9 => k .normal [(0, v0), (3, v3), (7, v7), (8, v8), (9, v9)] fr up)))))

noncomputable def q46_52 (B : Sy) (C : Go.ScE.Callee) : Env → Fram → List Fram → KX → R0 := fun e fr up k =>
  hBinS B .eql false (demK (look' 34 e)) (.c (.p (pI 30))) fr up (fun r0 f0 u0 =>
  headK (look' 0 e) (fun v0 => headK (look' 3 e) (fun v3 => headK (look' 5 e) (fun v5 => headK (look' 6 e) (fun v6 => headK (look' 7 e) (fun v7 => headK (look' 8 e) (fun v8 => headK (look' 9 e) (fun v9 => headK (look' 34 e) (fun v34 => headK (demK r0) (fun v234 => k .normal [(0, v0), (3, v3), (5, v5), (6, v6), (7, v7), (8, v8), (9, v9), (34, v34), (234, v234)] f0 u0))))))))))

noncomputable def q46_53 (B : Sy) (C : Go.ScE.Callee) : Env → Fram → List Fram → KX → R0 := fun e fr up k =>
  headK (look' 0 e) (fun v0 => headK (look' 3 e) (fun v3 => headK (.c (.p (pI (-1)))) (fun v7 => headK (look' 8 e) (fun v8 => headK (look' 9 e) (fun v9 => k .normal [(0, v0), (3, v3), (7, v7), (8, v8), (9, v9)] fr up)))))

noncomputable def q46_54 (B : Sy) (C : Go.ScE.Callee) : Env → Fram → List Fram → KX → R0 := fun e fr up k =>
  hGen C (.nck) [(demK (demK (look' 0 e)))] fr up (fun r1 f1 u1 =>
  hFa 38 (demK r1) f1 u1 (fun r2 f2 u2 =>
  hLdS B false 1 false (demK r2) f2 u2 (fun r3 f3 u3 =>
  hGen C (.lenS) [(demK r3)] f3 u3 (fun r4 f4 u4 =>
  hBinS B .gtr false (demK r4) (.c (.p (pI 0))) f4 u4 (fun r5 f5 u5 =>
  headK (look' 0 e) (fun v0 => headK (look' 3 e) (fun v3 => headK (look' 7 e) (fun v7 => headK (look' 8 e) (fun v8 => headK (look' 9 e) (fun v9 => headK r5 (fun v241 => k .normal [(0, v0), (3, v3), (7, v7), (8, v8), (9, v9), (241, v241)] f5 u5)))))))))))

noncomputable def q46_55 (B : Sy) (C : Go.ScE.Callee) : Env → Fram → List Fram → KX → R0 := fun e fr up k =>
  hGen C (.nck) [(demK (demK (look' 0 e)))] fr up (fun r1 f1 u1 =>
  hFa 38 (demK r1) f1 u1 (fun r2 f2 u2 =>
  hLdS B false 1 false (demK r2) f2 u2 (fun r3 f3 u3 =>
  hGen C (.ixs) [(demK r3), (.c (.p (pI 0)))] f3 u3 (fun r4 f4 u4 =>
  hCviS B .i64 (demK r4) f4 u4 (fun r5 f5 u5 =>
  headK (look' 0 e) (fun v0 => headK (look' 3 e) (fun v3 => headK (demK r5) (fun v7 => headK (look' 8 e) (fun v8 => headK (look' 9 e) (fun v9 => k .normal [(0, v0), (3, v3), (7, v7), (8, v8), (9, v9)] f5 u5))))))))))

noncomputable def q46_56 (B : Sy) (C : Go.ScE.Callee) : Env → Fram → List Fram → KX → R0 := fun e fr up k =>
  hGen C (.nck) [(demK (demK (look' 0 e)))] fr up (fun r2 f2 u2 =>
  hFa 38 (demK r2) f2 u2 (fun r3 f3 u3 =>
  hLdS B false 1 false (demK r3) f3 u3 (fun r4 f4 u4 =>
  hGen C (.slS true false) [(demK r4), (.c (.p (pI 1)))] f4 u4 (fun r5 f5 u5 =>
  hGen C (.nck) [(demK (demK (look' 0 e)))] f5 u5 (fun r6 f6 u6 =>
  hFa 38 (demK r6) f6 u6 (fun r7 f7 u7 =>
  hStS B 1 (demK r7) (demK r5) f7 u7 (fun r8 f8 u8 =>
  headK (look' 0 e) (fun v0 => headK (look' 3 e) (fun v3 => headK (look' 7 e) (fun v7 => headK (look' 8 e) (fun v8 => headK (look' 9 e) (fun v9 => k .normal [(0, v0), (3, v3), (7, v7), (8, v8), (9, v9)] f8 u8))))))))))))

noncomputable def q46_57 (B : Sy) (C : Go.ScE.Callee) : Env → Fram → List Fram → KX → R0 := fun e fr up k =>
  hBinS B .eql false (demK (look' 34 e)) (.c (.p (pI 31))) fr up (fun r0 f0 u0 =>
  headK (look' 0 e) (fun v0 => headK (look' 3 e) (fun v3 => headK (look' 5 e) (fun v5 => headK (look' 6 e) (fun v6 => headK (look' 7 e) (fun v7 => headK (look' 8 e) (fun v8 => headK (look' 9 e) (fun v9 => headK (demK r0) (fun v256 => k .normal [(0, v0), (3, v3), (5, v5), (6, v6), (7, v7), (8, v8), (9, v9), (256, v256)] f0 u0)))))))))

noncomputable def q46_58 (B : Sy) (C : Go.ScE.Callee) : Env → Fram → List Fram → KX → R0 := fun e fr up k =>
  hBinS B .lss false (demK (demK (look' 5 e))) (.c (.p (pI 0))) fr up (fun r1 f1 u1 =>
  guardK false (demK r1) (fun K => K (demK (look' 5 e)) f1 u1) f1 u1 (fun r3 f3 u3 =>
  guardK false (demK r1) (fun K => hBinS B .gtr false (demK r3) (.c (.p (pI 255))) f3 u3 K) f3 u3 (fun r4 f4 u4 =>
  hPick  (demK (demK r1)) (.c (.p (pB true))) (demK r4) f4 u4 (fun r5 f5 u5 =>
  headK (look' 0 e) (fun v0 => headK (look' 3 e) (fun v3 => headK (look' 5 e) (fun v5 => headK (look' 7 e) (fun v7 => headK (look' 9 e) (fun v9 => headK r5 (fun v263 => k .normal [(0, v0), (3, v3), (5, v5), (7, v7), (9, v9), (263, v263)] f5 u5))))))))))

noncomputable def q46_59 (B : Sy) (C : Go.ScE.Callee) : Env → Fram → List Fram → KX → R0 := fun e fr up k =>
  headK (.c (.p (pI 5))) (fun v4 => k .normal [(4, v4)] fr up)

noncomputable def q46_60 (B : Sy) (C : Go.ScE.Callee) : Env → Fram → List Fram → KX → R0 := fun e fr up k =>
  hGen C (.nck) [(demK (demK (look' 0 e)))] fr up (fun r2 f2 u2 =>
  hFa 39 (demK r2) f2 u2 (fun r3 f3 u3 =>
  hLdS B false 1 true (demK r3) f3 u3 (fun r4 f4 u4 =>
  hCviS B .u8 (demK (demK (look' 5 e))) f4 u4 (fun r6 f6 u6 =>
  hBlds 1 [(pK .u8 0)] 1 [0] [(demK r6)] f6 u6 (fun r7 f7 u7 =>
  hApp 1 1 r4 (demK r7) f7 u7 (fun r8 f8 u8 =>
  hGen C (.nck) [(demK (demK (look' 0 e)))] f8 u8 (fun r9 f9 u9 =>
  hFa 39 (demK r9) f9 u9 (fun r10 f10 u10 =>
  hStS B 1 (demK r10) r8 f10 u10 (fun r11 f11 u11 =>
  headK (look' 0 e) (fun v0 => headK (look' 3 e) (fun v3 => headK (look' 7 e) (fun v7 => headK (look' 9 e) (fun v9 => k .normal [(0, v0), (3, v3), (7, v7), (9, v9)] f11 u11)))))))))))))

noncomputable def q46_61 (B : Sy) (C : Go.ScE.Callee) : Env → Fram → List Fram → KX → R0 := fun e fr up k =>
  headK (look' 0 e) (fun v0 => headK (look' 3 e) (fun v3 => headK (look' 7 e) (fun v7 => headK (.c (.p (pB false))) (fun v8 => headK (look' 9 e) (fun v9 => k .normal [(0, v0), (3, v3), (7, v7), (8, v8), (9, v9)] fr up)))))

noncomputable def q46_62 (B : Sy) (C : Go.ScE.Callee) : Env → Fram → List Fram → KX → R0 := fun e fr up k =>
  hFa 0 (demK (look' 3 e)) fr up (fun r0 f0 u0 =>
  hLdS B false 1 false (demK r0) f0 u0 (fun r1 f1 u1 =>
  hFa 3 (demK (look' 3 e)) f1 u1 (fun r4 f4 u4 =>
  hLdS B false 1 false (demK r4) f4 u4 (fun r5 f5 u5 =>
  hGen C (.nck) [(demK (demK (look' 0 e)))] f5 u5 (fun r6 f6 u6 =>
  hFa 0 (demK r6) f6 u6 (fun r7 f7 u7 =>
  hFa 5 (demK r7) f7 u7 (fun r8 f8 u8 =>
  hIaa 1 32 (demK r8) (demK r5) f8 u8 (fun r9 f9 u9 =>
  hLdS B false 1 false (demK r9) f9 u9 (fun r10 f10 u10 =>
  Bool.rec (motive := fun _ => R0) fail0 (hCall C 60 [(demK r1), (demK (demK (look' 6 e))), (demK r10)] f10 u10 (fun r11 f11 u11 =>
  headK (look' 0 e) (fun v0 => headK (look' 3 e) (fun v3 => headK (demK r11) (fun v7 => headK (look' 8 e) (fun v8 => headK (look' 9 e) (fun v9 => k .normal [(0, v0), (3, v3), (7, v7), (8, v8), (9, v9)] f11 u11))))))) (chkD (.call 60) false [] [(demK r1), (demK (demK (look' 6 e))), (demK r10)]))))))))))

noncomputable def q46_63 (B : Sy) (C : Go.ScE.Callee) : Env → Fram → List Fram → KX → R0 := fun e fr up k =>
  guardK true (demK (demK (look' 8 e))) (fun K => hFa 1 (demK (look' 3 e)) fr up K) fr up (fun r2 f2 u2 =>
  guardK true (demK (demK (look' 8 e))) (fun K => hLdS B false 1 false (demK r2) f2 u2 K) f2 u2 (fun r3 f3 u3 =>
  guardK true (demK (demK (look' 8 e))) (fun K => hBinS B .neq false (demK r3) (.c (.p (pI 0))) f3 u3 K) f3 u3 (fun r4 f4 u4 =>
  hPick  (demK (demK (demK (look' 8 e)))) (demK r4) (.c (.p (pB false))) f4 u4 (fun r5 f5 u5 =>
  headK (look' 0 e) (fun v0 => headK (look' 3 e) (fun v3 => headK (look' 7 e) (fun v7 => headK (look' 9 e) (fun v9 => headK r5 (fun v280 => k .normal [(0, v0), (3, v3), (7, v7), (9, v9), (280, v280)] f5 u5)))))))))

noncomputable def q46_64 (B : Sy) (C : Go.ScE.Callee) : Env → Fram → List Fram → KX → R0 := fun e fr up k =>
  hFa 1 (demK (look' 3 e)) fr up (fun r1 f1 u1 =>
  hLdS B false 1 false (demK r1) f1 u1 (fun r2 f2 u2 =>
  hGen C (.nck) [(demK (demK (look' 0 e)))] f2 u2 (fun r4 f4 u4 =>
  hFa 0 (demK r4) f4 u4 (fun r5 f5 u5 =>
  hFa 5 (demK r5) f5 u5 (fun r6 f6 u6 =>
  hIaa 1 32 (demK r6) (demK r2) f6 u6 (fun r7 f7 u7 =>
  hStS B 1 (demK r7) (demK (demK (look' 7 e))) f7 u7 (fun r8 f8 u8 =>
  headK (look' 0 e) (fun v0 => headK (look' 9 e) (fun v9 => k .normal [(0, v0), (9, v9)] f8 u8)))))))))

noncomputable def q46_65 (B : Sy) (C : Go.ScE.Callee) : Env → Fram → List Fram → KX → R0 := fun e fr up k =>
  hGen C (.nck) [(demK (demK (look' 0 e)))] fr up (fun r2 f2 u2 =>
  hFa 0 (demK r2) f2 u2 (fun r3 f3 u3 =>
  hFa 4 (demK r3) f3 u3 (fun r4 f4 u4 =>
  hStS B 1 (demK r4) (demK (demK (look' 9 e))) f4 u4 (fun r5 f5 u5 =>
  headK (look' 0 e) (fun v0 => k .normal [(0, v0)] f5 u5)))))

noncomputable def q46_66 (B : Sy) (C : Go.ScE.Callee) : Env → Fram → List Fram → KX → R0 := fun e fr up k =>
  hGen C (.nck) [(demK (demK (look' 0 e)))] fr up (fun r1 f1 u1 =>
  hFa 0 (demK r1) f1 u1 (fun r2 f2 u2 =>
  hFa 3 (demK r2) f2 u2 (fun r3 f3 u3 =>
  hLdS B false 1 false (demK r3) f3 u3 (fun r4 f4 u4 =>
  hBinS B .add false (demK r4) (.c (.p (pI 1))) f4 u4 (fun r5 f5 u5 =>
  hGen C (.nck) [(demK (demK (look' 0 e)))] f5 u5 (fun r6 f6 u6 =>
  hFa 0 (demK r6) f6 u6 (fun r7 f7 u7 =>
  hFa 3 (demK r7) f7 u7 (fun r8 f8 u8 =>
  hStS B 1 (demK r8) (demK r5) f8 u8 (fun r9 f9 u9 =>
  k .normal [] f9 u9)))))))))

noncomputable def q46_67 (B : Sy) (C : Go.ScE.Callee) : Env → Fram → List Fram → KX → R0 := fun e fr up k =>
  headK (.c (.p (pI 6))) (fun v4 => k .normal [(4, v4)] fr up)

noncomputable def s46 : KS := fun B C n => seqK (q46_0 B C) (seqK (q46_1 B C) (seqK (q46_2 B C) (seqK (q46_3 B C) (seqK (q46_4 B C) (seqK (q46_5 B C) (seqK (seqK (q46_6 B C) (blockK 0 (seqK (q46_7 B C) (condK (.t 47) (seqK (q46_8 B C) (seqK (q46_9 B C) (seqK (q46_10 B C) (retK)))) (seqK (seqK (q46_11 B C) (condK (.t 63) (skipK) (q46_12 B C))) (condK (.t 63) (seqK (seqK (q46_13 B C) (condK (.t 74) (seqK (q46_14 B C) (retK)) (skipK))) (q46_15 B C)) (seqK (q46_16 B C) (condK (.t 87) (q46_17 B C) (seqK (q46_18 B C) (condK (.t 93) (q46_19 B C) (seqK (q46_20 B C) (condK (.t 99) (q46_21 B C) (seqK (q46_22 B C) (condK (.t 105) (q46_23 B C) (seqK (q46_24 B C) (condK (.t 112) (q46_25 B C) (seqK (q46_26 B C) (condK (.t 119) (q46_27 B C) (seqK (q46_28 B C) (condK (.t 123) (q46_29 B C) (seqK (seqK (q46_30 B C) (condK (.t 130) (skipK) (q46_31 B C))) (condK (.t 130) (seqK (q46_32 B C) (seqK (seqK (q46_33 B C) (condK (.t 148) (seqK (q46_34 B C) (retK)) (skipK))) (seqK (q46_35 B C) (condK (.t 151) (seqK (q46_36 B C) (q46_37 B C)) (q46_38 B C))))) (seqK (seqK (q46_39 B C) (condK (.t 168) (skipK) (seqK (q46_40 B C) (condK (.t 168) (skipK) (seqK (q46_41 B C) (condK (.t 168) (skipK) (q46_42 B C))))))) (condK (.t 168) (seqK (q46_43 B C) (seqK (q46_44 B C) (condK (.t 210) (q46_45 B C) (skipK)))) (seqK (q46_46 B C) (condK (.t 219) (seqK (q46_47 B C) (q46_48 B C)) (seqK (q46_49 B C) (condK (.t 230) (seqK (q46_50 B C) (q46_51 B C)) (seqK (q46_52 B C) (condK (.t 234) (seqK (q46_53 B C) (seqK (q46_54 B C) (condK (.t 241) (seqK (q46_55 B C) (q46_56 B C)) (skipK)))) (seqK (q46_57 B C) (condK (.t 256) (seqK (seqK (q46_58 B C) (condK (.t 263) (seqK (q46_59 B C) (retK)) (skipK))) (seqK (q46_60 B C) (q46_61 B C))) (q46_62 B C))))))))))))))))))))))))))))))))) (seqK (seqK (q46_63 B C) (condK (.t 280) (q46_64 B C) (skipK))) (seqK (q46_65 B C) (seqK (q46_66 B C) (seqK (q46_67 B C) (retK)))))))))))
theorem s46_eq (B : Sy) (C : Go.ScE.Callee) (n : Nat) : s46 B C n = evS B C n x46.body := by kernel_rfl

noncomputable def q47_0 (B : Sy) (C : Go.ScE.Callee) : Env → Fram → List Fram → KX → R0 := fun e fr up k =>
  hCall C 61 [(demK (demK (look' 0 e))), (demK (demK (look' 1 e))), (demK (demK (look' 2 e)))] fr up (fun r3 f3 u3 =>
  headK (look' 0 e) (fun v0 => headK (look' 1 e) (fun v1 => headK (look' 3 e) (fun v3 => k .normal [(0, v0), (1, v1), (3, v3)] f3 u3))))

noncomputable def q47_1 (B : Sy) (C : Go.ScE.Callee) : Env → Fram → List Fram → KX → R0 := fun e fr up k =>
  hCall C 51 [(demK (demK (look' 0 e))), (.c (.p (pI 18))), (demK (demK (look' 1 e))), (demK (demK (look' 1 e))), (demK (demK (look' 3 e)))] fr up (fun r4 f4 u4 =>
  k .normal [] f4 u4)

noncomputable def s47 : KS := fun B C n => seqK (q47_0 B C) (q47_1 B C)
theorem s47_eq (B : Sy) (C : Go.ScE.Callee) (n : Nat) : s47 B C n = evS B C n x47.body := by kernel_rfl

noncomputable def q48_0 (B : Sy) (C : Go.ScE.Callee) : Env → Fram → List Fram → KX → R0 := fun e fr up k =>
  hCall C 33 [(demK (demK (look' 0 e))), (.c (.p (pI 26))), (demK (demK (look' 1 e)))] fr up (fun r2 f2 u2 =>
  headK (look' 0 e) (fun v0 => k .normal [(0, v0)] f2 u2))

noncomputable def q48_1 (B : Sy) (C : Go.ScE.Callee) : Env → Fram → List Fram → KX → R0 := fun e fr up k =>
  hCall C 34 [(demK (demK (look' 0 e))), (.c (.p (pI 31))), (.c (.p (pI 2)))] fr up (fun r1 f1 u1 =>
  k .normal [] f1 u1)

noncomputable def s48 : KS := fun B C n => seqK (q48_0 B C) (q48_1 B C)
theorem s48_eq (B : Sy) (C : Go.ScE.Callee) (n : Nat) : s48 B C n = evS B C n x48.body := by kernel_rfl

noncomputable def q49_0 (B : Sy) (C : Go.ScE.Callee) : Env → Fram → List Fram → KX → R0 := fun e fr up k =>
  headK (look' 0 e) (fun v0 => headK (look' 1 e) (fun v1 => k .normal [(0, v0), (1, v1)] fr up))

noncomputable def q49_1 (B : Sy) (C : Go.ScE.Callee) : Env → Fram → List Fram → KX → R0 := fun e fr up k =>
  hBinS B .shl false (demK (demK (look' 1 e))) (.c (.p (pK .u64 3))) fr up (fun r1 f1 u1 =>
  hBinS B .or false (demK r1) (demK (demK (look' 0 e))) f1 u1 (fun r3 f3 u3 =>
  hBinS B .shl false (demK r3) (.c (.p (pK .u64 3))) f3 u3 (fun r4 f4 u4 =>
  hBinS B .or false (demK r4) (.c (.p (pI 7))) f4 u4 (fun r5 f5 u5 =>
  headK (demK r5) (fun v4 => k .normal [(4, v4)] f5 u5)))))

noncomputable def s49 : KS := fun B C n => seqK (q49_0 B C) (seqK (q49_1 B C) (retK))
theorem s49_eq (B : Sy) (C : Go.ScE.Callee) (n : Nat) : s49 B C n = evS B C n x49.body := by kernel_rfl

noncomputable def q50_0 (B : Sy) (C : Go.ScE.Callee) : Env → Fram → List Fram → KX → R0 := fun e fr up k =>
  hCall C 51 [(demK (demK (look' 0 e))), (.c (.p (pI 18))), (demK (demK (look' 1 e))), (.c (.p (pI 29))), (.c (.p (pI 3)))] fr up (fun r2 f2 u2 =>
  headK (look' 0 e) (fun v0 => headK (look' 1 e) (fun v1 => headK (look' 2 e) (fun v2 => k .normal [(0, v0), (1, v1), (2, v2)] f2 u2))))

noncomputable def q50_1 (B : Sy) (C : Go.ScE.Callee) : Env → Fram → List Fram → KX → R0 := fun e fr up k =>
  hCall C 51 [(demK (demK (look' 0 e))), (.c (.p (pI 17))), (demK (demK (look' 1 e))), (demK (demK (look' 1 e))), (.c (.p (pI 1)))] fr up (fun r3 f3 u3 =>
  headK (look' 0 e) (fun v0 => headK (look' 2 e) (fun v2 => k .normal [(0, v0), (2, v2)] f3 u3)))

noncomputable def q50_2 (B : Sy) (C : Go.ScE.Callee) : Env → Fram → List Fram → KX → R0 := fun e fr up k =>
  hCall C 51 [(demK (demK (look' 0 e))), (.c (.p (pI 15))), (.c (.p (pI 29))), (.c (.p (pI 29))), (demK (demK (look' 2 e)))] fr up (fun r2 f2 u2 =>
  k .normal [] f2 u2)

noncomputable def s50 : KS := fun B C n => seqK (q50_0 B C) (seqK (q50_1 B C) (q50_2 B C))
theorem s50_eq (B : Sy) (C : Go.ScE.Callee) (n : Nat) : s50 B C n = evS B C n x50.body := by kernel_rfl

noncomputable def q51_0 (B : Sy) (C : Go.ScE.Callee) : Env → Fram → List Fram → KX → R0 := fun e fr up k =>
  hBld [(pI 0), (pI 0), (pI 0), (pI 0), (pI 0)] [(0, 1), (1, 1), (2, 1), (4, 1)] [(demK (demK (look' 1 e))), (demK (demK (look' 2 e))), (demK (demK (look' 3 e))), (demK (demK (look' 4 e)))] fr up (fun r5 f5 u5 =>
  hBld [(pI 0), (pI 0), (pI 0), (pI 0), (pI 0), (pI 0), (pI 0), (pI 0)] [(1, 5)] [(demK r5)] f5 u5 (fun r6 f6 u6 =>
  hCall C 53 [(demK (demK (look' 0 e))), (demK r6)] f6 u6 (fun r7 f7 u7 =>
  k .normal [] f7 u7)))

noncomputable def s51 : KS := fun B C n => q51_0 B C
theorem s51_eq (B : Sy) (C : Go.ScE.Callee) (n : Nat) : s51 B C n = evS B C n x51.body := by kernel_rfl

noncomputable def q52_0 (B : Sy) (C : Go.ScE.Callee) : Env → Fram → List Fram → KX → R0 := fun e fr up k =>
  hCall C 31 [(demK (demK (look' 0 e))), (.c (.p (pI 26))), (.c (.p (pI 30))), (.c (.p (pI (-1))))] fr up (fun r1 f1 u1 =>
  headK (look' 0 e) (fun v0 => k .normal [(0, v0)] f1 u1))

noncomputable def q52_1 (B : Sy) (C : Go.ScE.Callee) : Env → Fram → List Fram → KX → R0 := fun e fr up k =>
  hCall C 51 [(demK (demK (look' 0 e))), (.c (.p (pI 19))), (.c (.p (pI 26))), (.c (.p (pI 26))), (.c (.p (pI 3)))] fr up (fun r1 f1 u1 =>
  headK (look' 0 e) (fun v0 => k .normal [(0, v0)] f1 u1))

noncomputable def q52_2 (B : Sy) (C : Go.ScE.Callee) : Env → Fram → List Fram → KX → R0 := fun e fr up k =>
  hCall C 51 [(demK (demK (look' 0 e))), (.c (.p (pI 16))), (.c (.p (pI 26))), (.c (.p (pI 26))), (.c (.p (pI 4095)))] fr up (fun r1 f1 u1 =>
  headK (look' 0 e) (fun v0 => k .normal [(0, v0)] f1 u1))

noncomputable def q52_3 (B : Sy) (C : Go.ScE.Callee) : Env → Fram → List Fram → KX → R0 := fun e fr up k =>
  hCall C 51 [(demK (demK (look' 0 e))), (.c (.p (pI 15))), (.c (.p (pI 27))), (.c (.p (pI 26))), (.c (.p (pI 2)))] fr up (fun r1 f1 u1 =>
  headK (look' 0 e) (fun v0 => k .normal [(0, v0)] f1 u1))

noncomputable def q52_4 (B : Sy) (C : Go.ScE.Callee) : Env → Fram → List Fram → KX → R0 := fun e fr up k =>
  hCall C 51 [(demK (demK (look' 0 e))), (.c (.p (pI 18))), (.c (.p (pI 27))), (.c (.p (pI 27))), (.c (.p (pI 3)))] fr up (fun r1 f1 u1 =>
  headK (look' 0 e) (fun v0 => k .normal [(0, v0)] f1 u1))

noncomputable def q52_5 (B : Sy) (C : Go.ScE.Callee) : Env → Fram → List Fram → KX → R0 := fun e fr up k =>
  hCall C 51 [(demK (demK (look' 0 e))), (.c (.p (pI 17))), (.c (.p (pI 27))), (.c (.p (pI 27))), (.c (.p (pI 6)))] fr up (fun r1 f1 u1 =>
  headK (look' 0 e) (fun v0 => k .normal [(0, v0)] f1 u1))

noncomputable def q52_6 (B : Sy) (C : Go.ScE.Callee) : Env → Fram → List Fram → KX → R0 := fun e fr up k =>
  hCall C 51 [(demK (demK (look' 0 e))), (.c (.p (pI 18))), (.c (.p (pI 27))), (.c (.p (pI 27))), (.c (.p (pI 3)))] fr up (fun r1 f1 u1 =>
  headK (look' 0 e) (fun v0 => k .normal [(0, v0)] f1 u1))

noncomputable def q52_7 (B : Sy) (C : Go.ScE.Callee) : Env → Fram → List Fram → KX → R0 := fun e fr up k =>
  hCall C 51 [(demK (demK (look' 0 e))), (.c (.p (pI 17))), (.c (.p (pI 27))), (.c (.p (pI 27))), (.c (.p (pI 7)))] fr up (fun r1 f1 u1 =>
  headK (look' 0 e) (fun v0 => k .normal [(0, v0)] f1 u1))

noncomputable def q52_8 (B : Sy) (C : Go.ScE.Callee) : Env → Fram → List Fram → KX → R0 := fun e fr up k =>
  hCall C 30 [(demK (demK (look' 0 e))), (.c (.p (pI 27))), (.c (.p (pI 29))), (.c (.p (pI 0)))] fr up (fun r1 f1 u1 =>
  headK (look' 0 e) (fun v0 => k .normal [(0, v0)] f1 u1))

noncomputable def q52_9 (B : Sy) (C : Go.ScE.Callee) : Env → Fram → List Fram → KX → R0 := fun e fr up k =>
  hCall C 51 [(demK (demK (look' 0 e))), (.c (.p (pI 15))), (.c (.p (pI 26))), (.c (.p (pI 26))), (.c (.p (pI 1)))] fr up (fun r1 f1 u1 =>
  headK (look' 0 e) (fun v0 => k .normal [(0, v0)] f1 u1))

noncomputable def q52_10 (B : Sy) (C : Go.ScE.Callee) : Env → Fram → List Fram → KX → R0 := fun e fr up k =>
  hCall C 38 [(demK (demK (look' 0 e))), (.c (.p (pI 2))), (.c (.p (pI 28))), (.c (.p (pI 30))), (.c (.p (pI 26)))] fr up (fun r1 f1 u1 =>
  headK (look' 0 e) (fun v0 => k .normal [(0, v0)] f1 u1))

noncomputable def q52_11 (B : Sy) (C : Go.ScE.Callee) : Env → Fram → List Fram → KX → R0 := fun e fr up k =>
  hCall C 33 [(demK (demK (look' 0 e))), (.c (.p (pI 27))), (.c (.p (pI 33)))] fr up (fun r1 f1 u1 =>
  headK (look' 0 e) (fun v0 => k .normal [(0, v0)] f1 u1))

noncomputable def q52_12 (B : Sy) (C : Go.ScE.Callee) : Env → Fram → List Fram → KX → R0 := fun e fr up k =>
  hCall C 35 [(demK (demK (look' 0 e))), (.c (.p (pI 24))), (.c (.p (pI 28))), (.c (.p (pI 27))), (.c (.p (pI 2005)))] fr up (fun r1 f1 u1 =>
  headK (look' 0 e) (fun v0 => k .normal [(0, v0)] f1 u1))

noncomputable def q52_13 (B : Sy) (C : Go.ScE.Callee) : Env → Fram → List Fram → KX → R0 := fun e fr up k =>
  hCall C 38 [(demK (demK (look' 0 e))), (.c (.p (pI 1))), (.c (.p (pI 27))), (.c (.p (pI 29))), (.c (.p (pI 26)))] fr up (fun r1 f1 u1 =>
  headK (look' 0 e) (fun v0 => k .normal [(0, v0)] f1 u1))

noncomputable def q52_14 (B : Sy) (C : Go.ScE.Callee) : Env → Fram → List Fram → KX → R0 := fun e fr up k =>
  hCall C 51 [(demK (demK (look' 0 e))), (.c (.p (pI 15))), (.c (.p (pI 27))), (.c (.p (pI 27))), (.c (.p (pI 2)))] fr up (fun r1 f1 u1 =>
  headK (look' 0 e) (fun v0 => k .normal [(0, v0)] f1 u1))

noncomputable def q52_15 (B : Sy) (C : Go.ScE.Callee) : Env → Fram → List Fram → KX → R0 := fun e fr up k =>
  hCall C 51 [(demK (demK (look' 0 e))), (.c (.p (pI 18))), (.c (.p (pI 27))), (.c (.p (pI 27))), (.c (.p (pI 3)))] fr up (fun r1 f1 u1 =>
  headK (look' 0 e) (fun v0 => k .normal [(0, v0)] f1 u1))

noncomputable def q52_16 (B : Sy) (C : Go.ScE.Callee) : Env → Fram → List Fram → KX → R0 := fun e fr up k =>
  hCall C 51 [(demK (demK (look' 0 e))), (.c (.p (pI 17))), (.c (.p (pI 27))), (.c (.p (pI 27))), (.c (.p (pI 1)))] fr up (fun r1 f1 u1 =>
  headK (look' 0 e) (fun v0 => k .normal [(0, v0)] f1 u1))

noncomputable def q52_17 (B : Sy) (C : Go.ScE.Callee) : Env → Fram → List Fram → KX → R0 := fun e fr up k =>
  hCall C 30 [(demK (demK (look' 0 e))), (.c (.p (pI 27))), (.c (.p (pI 29))), (.c (.p (pI 1)))] fr up (fun r1 f1 u1 =>
  headK (look' 0 e) (fun v0 => k .normal [(0, v0)] f1 u1))

noncomputable def q52_18 (B : Sy) (C : Go.ScE.Callee) : Env → Fram → List Fram → KX → R0 := fun e fr up k =>
  hCall C 36 [(demK (demK (look' 0 e))), (.c (.p (pI 2006)))] fr up (fun r1 f1 u1 =>
  headK (look' 0 e) (fun v0 => k .normal [(0, v0)] f1 u1))

noncomputable def q52_19 (B : Sy) (C : Go.ScE.Callee) : Env → Fram → List Fram → KX → R0 := fun e fr up k =>
  hCall C 27 [(demK (demK (look' 0 e))), (.c (.p (pI 2005)))] fr up (fun r1 f1 u1 =>
  headK (look' 0 e) (fun v0 => k .normal [(0, v0)] f1 u1))

noncomputable def q52_20 (B : Sy) (C : Go.ScE.Callee) : Env → Fram → List Fram → KX → R0 := fun e fr up k =>
  hCall C 30 [(demK (demK (look' 0 e))), (.c (.p (pI 31))), (.c (.p (pI 29))), (.c (.p (pI 1)))] fr up (fun r1 f1 u1 =>
  headK (look' 0 e) (fun v0 => k .normal [(0, v0)] f1 u1))

noncomputable def q52_21 (B : Sy) (C : Go.ScE.Callee) : Env → Fram → List Fram → KX → R0 := fun e fr up k =>
  hCall C 27 [(demK (demK (look' 0 e))), (.c (.p (pI 2006)))] fr up (fun r1 f1 u1 =>
  headK (look' 0 e) (fun v0 => k .normal [(0, v0)] f1 u1))

noncomputable def q52_22 (B : Sy) (C : Go.ScE.Callee) : Env → Fram → List Fram → KX → R0 := fun e fr up k =>
  hCall C 51 [(demK (demK (look' 0 e))), (.c (.p (pI 15))), (.c (.p (pI 29))), (.c (.p (pI 29))), (.c (.p (pI 2)))] fr up (fun r1 f1 u1 =>
  headK (look' 0 e) (fun v0 => k .normal [(0, v0)] f1 u1))

noncomputable def q52_23 (B : Sy) (C : Go.ScE.Callee) : Env → Fram → List Fram → KX → R0 := fun e fr up k =>
  hCall C 32 [(demK (demK (look' 0 e))), (.c (.p (pI 30))), (.c (.p (pI 28)))] fr up (fun r1 f1 u1 =>
  headK (look' 0 e) (fun v0 => k .normal [(0, v0)] f1 u1))

noncomputable def q52_24 (B : Sy) (C : Go.ScE.Callee) : Env → Fram → List Fram → KX → R0 := fun e fr up k =>
  hCall C 27 [(demK (demK (look' 0 e))), (.c (.p (pI 2002)))] fr up (fun r1 f1 u1 =>
  headK (look' 0 e) (fun v0 => k .normal [(0, v0)] f1 u1))

noncomputable def q52_25 (B : Sy) (C : Go.ScE.Callee) : Env → Fram → List Fram → KX → R0 := fun e fr up k =>
  hCall C 35 [(demK (demK (look' 0 e))), (.c (.p (pI 24))), (.c (.p (pI 26))), (.c (.p (pI 0))), (.c (.p (pI 2003)))] fr up (fun r1 f1 u1 =>
  headK (look' 0 e) (fun v0 => k .normal [(0, v0)] f1 u1))

noncomputable def q52_26 (B : Sy) (C : Go.ScE.Callee) : Env → Fram → List Fram → KX → R0 := fun e fr up k =>
  hCall C 31 [(demK (demK (look' 0 e))), (.c (.p (pI 27))), (.c (.p (pI 30))), (.c (.p (pI 0)))] fr up (fun r1 f1 u1 =>
  headK (look' 0 e) (fun v0 => k .normal [(0, v0)] f1 u1))

noncomputable def q52_27 (B : Sy) (C : Go.ScE.Callee) : Env → Fram → List Fram → KX → R0 := fun e fr up k =>
  hCall C 30 [(demK (demK (look' 0 e))), (.c (.p (pI 27))), (.c (.p (pI 29))), (.c (.p (pI 0)))] fr up (fun r1 f1 u1 =>
  headK (look' 0 e) (fun v0 => k .normal [(0, v0)] f1 u1))

noncomputable def q52_28 (B : Sy) (C : Go.ScE.Callee) : Env → Fram → List Fram → KX → R0 := fun e fr up k =>
  hCall C 51 [(demK (demK (look' 0 e))), (.c (.p (pI 15))), (.c (.p (pI 30))), (.c (.p (pI 30))), (.c (.p (pI 1)))] fr up (fun r1 f1 u1 =>
  headK (look' 0 e) (fun v0 => k .normal [(0, v0)] f1 u1))

noncomputable def q52_29 (B : Sy) (C : Go.ScE.Callee) : Env → Fram → List Fram → KX → R0 := fun e fr up k =>
  hCall C 51 [(demK (demK (look' 0 e))), (.c (.p (pI 15))), (.c (.p (pI 29))), (.c (.p (pI 29))), (.c (.p (pI 1)))] fr up (fun r1 f1 u1 =>
  headK (look' 0 e) (fun v0 => k .normal [(0, v0)] f1 u1))

noncomputable def q52_30 (B : Sy) (C : Go.ScE.Callee) : Env → Fram → List Fram → KX → R0 := fun e fr up k =>
  hCall C 51 [(demK (demK (look' 0 e))), (.c (.p (pI 15))), (.c (.p (pI 26))), (.c (.p (pI 26))), (.c (.p (pI (-1))))] fr up (fun r1 f1 u1 =>
  headK (look' 0 e) (fun v0 => k .normal [(0, v0)] f1 u1))

noncomputable def q52_31 (B : Sy) (C : Go.ScE.Callee) : Env → Fram → List Fram → KX → R0 := fun e fr up k =>
  hCall C 36 [(demK (demK (look' 0 e))), (.c (.p (pI 2002)))] fr up (fun r1 f1 u1 =>
  headK (look' 0 e) (fun v0 => k .normal [(0, v0)] f1 u1))

noncomputable def q52_32 (B : Sy) (C : Go.ScE.Callee) : Env → Fram → List Fram → KX → R0 := fun e fr up k =>
  hCall C 27 [(demK (demK (look' 0 e))), (.c (.p (pI 2003)))] fr up (fun r1 f1 u1 =>
  headK (look' 0 e) (fun v0 => k .normal [(0, v0)] f1 u1))

noncomputable def q52_33 (B : Sy) (C : Go.ScE.Callee) : Env → Fram → List Fram → KX → R0 := fun e fr up k =>
  hCall C 32 [(demK (demK (look' 0 e))), (.c (.p (pI 30))), (.c (.p (pI 28)))] fr up (fun r1 f1 u1 =>
  k .normal [] f1 u1)

noncomputable def s52 : KS := fun B C n => seqK (q52_0 B C) (seqK (q52_1 B C) (seqK (q52_2 B C) (seqK (q52_3 B C) (seqK (q52_4 B C) (seqK (q52_5 B C) (seqK (q52_6 B C) (seqK (q52_7 B C) (seqK (q52_8 B C) (seqK (q52_9 B C) (seqK (q52_10 B C) (seqK (q52_11 B C) (seqK (q52_12 B C) (seqK (q52_13 B C) (seqK (q52_14 B C) (seqK (q52_15 B C) (seqK (q52_16 B C) (seqK (q52_17 B C) (seqK (q52_18 B C) (seqK (q52_19 B C) (seqK (q52_20 B C) (seqK (q52_21 B C) (seqK (q52_22 B C) (seqK (q52_23 B C) (seqK (q52_24 B C) (seqK (q52_25 B C) (seqK (q52_26 B C) (seqK (q52_27 B C) (seqK (q52_28 B C) (seqK (q52_29 B C) (seqK (q52_30 B C) (seqK (q52_31 B C) (seqK (q52_32 B C) (q52_33 B C)))))))))))))))))))))))))))))))))
theorem s52_eq (B : Sy) (C : Go.ScE.Callee) (n : Nat) : s52 B C n = evS B C n x52.body := by kernel_rfl

noncomputable def q53_0 (B : Sy) (C : Go.ScE.Callee) : Env → Fram → List Fram → KX → R0 := fun e fr up k =>
  hGen C (.box 0) [(demK (look' 1 e))] fr up (fun r0 f0 u0 =>
  headK (look' 0 e) (fun v0 => headK r0 (fun v3 => k .normal [(0, v0), (3, v3)] f0 u0)))

noncomputable def q53_1 (B : Sy) (C : Go.ScE.Callee) : Env → Fram → List Fram → KX → R0 := fun e fr up k =>
  hGen C (.nck) [(demK (demK (look' 0 e)))] fr up (fun r2 f2 u2 =>
  hFa 0 (demK r2) f2 u2 (fun r3 f3 u3 =>
  hLdS B false 1 true (demK r3) f3 u3 (fun r4 f4 u4 =>
  hLdS B true 8 false (demK (look' 3 e)) f4 u4 (fun r5 f5 u5 =>
  hBlds 8 [(pI 0), (pI 0), (pI 0), (pI 0), (pI 0), (pI 0), (pI 0), (pI 0)] 1 [0] [(demK r5)] f5 u5 (fun r6 f6 u6 =>
  hApp 8 64 r4 (demK r6) f6 u6 (fun r7 f7 u7 =>
  hGen C (.nck) [(demK (demK (look' 0 e)))] f7 u7 (fun r8 f8 u8 =>
  hFa 0 (demK r8) f8 u8 (fun r9 f9 u9 =>
  hStS B 1 (demK r9) r7 f9 u9 (fun r10 f10 u10 =>
  k .normal [] f10 u10)))))))))

noncomputable def s53 : KS := fun B C n => seqK (q53_0 B C) (q53_1 B C)
theorem s53_eq (B : Sy) (C : Go.ScE.Callee) (n : Nat) : s53 B C n = evS B C n x53.body := by kernel_rfl

noncomputable def q54_0 (B : Sy) (C : Go.ScE.Callee) : Env → Fram → List Fram → KX → R0 := fun e fr up k =>
  hGen C (.box 0) [(demK (look' 0 e))] fr up (fun r0 f0 u0 =>
  headK r0 (fun v1 => k .normal [(1, v1)] f0 u0))

noncomputable def q54_1 (B : Sy) (C : Go.ScE.Callee) : Env → Fram → List Fram → KX → R0 := fun e fr up k =>
  hFa 1 (demK (look' 1 e)) fr up (fun r0 f0 u0 =>
  hLdS B true 5 false (demK r0) f0 u0 (fun r1 f1 u1 =>
  hGen C (.alloc 1 true [(pI 0), (pI 0), (pI 0), (pI 0), (pI 0)]) [] f1 u1 (fun r2 f2 u2 =>
  hStS B 5 (demK r2) (demK r1) f2 u2 (fun r3 f3 u3 =>
  headK (look' 1 e) (fun v1 => headK r2 (fun v3 => k .normal [(1, v1), (3, v3)] f3 u3))))))

noncomputable def q54_2 (B : Sy) (C : Go.ScE.Callee) : Env → Fram → List Fram → KX → R0 := fun e fr up k =>
  hLdS B true 5 false (demK (look' 3 e)) fr up (fun r0 f0 u0 =>
  hCall C 58 [(demK r0)] f0 u0 (fun r1 f1 u1 =>
  hGen C (.ext 0) [(demK (demK r1))] f1 u1 (fun r3 f3 u3 =>
  hGen C (.ext 1) [(demK (demK r1))] f3 u3 (fun r4 f4 u4 =>
  headK (look' 1 e) (fun v1 => headK (look' 3 e) (fun v3 => headK (demK r4) (fun v5 => k .normal [(1, v1), (3, v3), (5, v5)] f4 u4)))))))

noncomputable def q54_3 (B : Sy) (C : Go.ScE.Callee) : Env → Fram → List Fram → KX → R0 := fun e fr up k =>
  hFa 0 (demK (look' 1 e)) fr up (fun r0 f0 u0 =>
  hLdS B false 1 false (demK r0) f0 u0 (fun r1 f1 u1 =>
  headK (look' 1 e) (fun v1 => headK (look' 3 e) (fun v3 => headK (look' 5 e) (fun v5 => headK r1 (fun v14 => k .normal [(1, v1), (3, v3), (5, v5), (14, v14)] f1 u1))))))

noncomputable def q54_4 (B : Sy) (C : Go.ScE.Callee) : Env → Fram → List Fram → KX → R0 := fun e fr up k =>
  hBinS B .eql false (demK (look' 14 e)) (.c (.p (pI 0))) fr up (fun r0 f0 u0 =>
  headK (look' 1 e) (fun v1 => headK (look' 3 e) (fun v3 => headK (look' 5 e) (fun v5 => headK (look' 14 e) (fun v14 => headK (demK r0) (fun v15 => k .normal [(1, v1), (3, v3), (5, v5), (14, v14), (15, v15)] f0 u0))))))

noncomputable def q54_5 (B : Sy) (C : Go.ScE.Callee) : Env → Fram → List Fram → KX → R0 := fun e fr up k =>
  hBinS B .eql false (demK (demK (look' 5 e))) (.c (.p (pI 0))) fr up (fun r1 f1 u1 =>
  guardK true (demK r1) (fun K => hFa 6 (demK (look' 1 e)) f1 u1 K) f1 u1 (fun r3 f3 u3 =>
  guardK true (demK r1) (fun K => hLdS B false 1 false (demK r3) f3 u3 K) f3 u3 (fun r4 f4 u4 =>
  guardK true (demK r1) (fun K => hBinS B .eql false (demK r4) (.c (.p (pI 0))) f4 u4 K) f4 u4 (fun r5 f5 u5 =>
  hPick  (demK (demK r1)) (demK r5) (.c (.p (pB false))) f5 u5 (fun r6 f6 u6 =>
  guardK true (demK r6) (fun K => hFa 7 (demK (look' 1 e)) f6 u6 K) f6 u6 (fun r8 f8 u8 =>
  guardK true (demK r6) (fun K => hLdS B false 1 false (demK r8) f8 u8 K) f8 u8 (fun r9 f9 u9 =>
  guardK true (demK r6) (fun K => hBinS B .eql false (demK r9) (.c (.p (pI 0))) f9 u9 K) f9 u9 (fun r10 f10 u10 =>
  hPick  (demK (demK r6)) (demK r10) (.c (.p (pB false))) f10 u10 (fun r11 f11 u11 =>
  headK (demK r11) (fun v2 => k .normal [(2, v2)] f11 u11))))))))))

noncomputable def q54_6 (B : Sy) (C : Go.ScE.Callee) : Env → Fram → List Fram → KX → R0 := fun e fr up k =>
  hBinS B .eql false (demK (look' 14 e)) (.c (.p (pI 1))) fr up (fun r0 f0 u0 =>
  headK (look' 1 e) (fun v1 => headK (look' 3 e) (fun v3 => headK (look' 5 e) (fun v5 => headK (look' 14 e) (fun v14 => headK (demK r0) (fun v29 => k .normal [(1, v1), (3, v3), (5, v5), (14, v14), (29, v29)] f0 u0))))))

noncomputable def q54_7 (B : Sy) (C : Go.ScE.Callee) : Env → Fram → List Fram → KX → R0 := fun e fr up k =>
  hLdS B true 5 false (demK (look' 3 e)) fr up (fun r0 f0 u0 =>
  hBld [(pI 0), (pI 0), (pI 0), (pI 0), (pI 0)] [] [] f0 u0 (fun r1 f1 u1 =>
  hGen C (.beq false 5) [(demK r0), (demK r1)] f1 u1 (fun r2 f2 u2 =>
  guardK true (demK r2) (fun K => hFa 7 (demK (look' 1 e)) f2 u2 K) f2 u2 (fun r4 f4 u4 =>
  guardK true (demK r2) (fun K => hLdS B false 1 false (demK r4) f4 u4 K) f4 u4 (fun r5 f5 u5 =>
  guardK true (demK r2) (fun K => hBinS B .eql false (demK r5) (.c (.p (pI 0))) f5 u5 K) f5 u5 (fun r6 f6 u6 =>
  hPick  (demK (demK r2)) (demK r6) (.c (.p (pB false))) f6 u6 (fun r7 f7 u7 =>
  headK (demK r7) (fun v2 => k .normal [(2, v2)] f7 u7))))))))

noncomputable def q54_8 (B : Sy) (C : Go.ScE.Callee) : Env → Fram → List Fram → KX → R0 := fun e fr up k =>
  hBinS B .eql false (demK (look' 14 e)) (.c (.p (pI 2))) fr up (fun r0 f0 u0 =>
  headK (look' 1 e) (fun v1 => headK (look' 3 e) (fun v3 => headK (look' 5 e) (fun v5 => headK (look' 14 e) (fun v14 => headK (demK r0) (fun v39 => k .normal [(1, v1), (3, v3), (5, v5), (14, v14), (39, v39)] f0 u0))))))

noncomputable def q54_9 (B : Sy) (C : Go.ScE.Callee) : Env → Fram → List Fram → KX → R0 := fun e fr up k =>
  hBinS B .eql false (demK (demK (look' 5 e))) (.c (.p (pI 0))) fr up (fun r1 f1 u1 =>
  guardK true (demK r1) (fun K => hFa 0 (demK (look' 3 e)) f1 u1 K) f1 u1 (fun r3 f3 u3 =>
  guardK true (demK r1) (fun K => hLdS B false 1 false (demK r3) f3 u3 K) f3 u3 (fun r4 f4 u4 =>
  guardK true (demK r1) (fun K => hBinS B .geq false (demK r4) (.c (.p (pI 24))) f4 u4 K) f4 u4 (fun r5 f5 u5 =>
  hPick  (demK (demK r1)) (demK r5) (.c (.p (pB false))) f5 u5 (fun r6 f6 u6 =>
  guardK true (demK r6) (fun K => hFa 0 (demK (look' 3 e)) f6 u6 K) f6 u6 (fun r8 f8 u8 =>
  guardK true (demK r6) (fun K => hLdS B false 1 false (demK r8) f8 u8 K) f8 u8 (fun r9 f9 u9 =>
  guardK true (demK r6) (fun K => hBinS B .leq false (demK r9) (.c (.p (pI 27))) f9 u9 K) f9 u9 (fun r10 f10 u10 =>
  hPick  (demK (demK r6)) (demK r10) (.c (.p (pB false))) f10 u10 (fun r11 f11 u11 =>
  guardK true (demK r11) (fun K => hFa 4 (demK (look' 3 e)) f11 u11 K) f11 u11 (fun r13 f13 u13 =>
  guardK true (demK r11) (fun K => hLdS B false 1 false (demK r13) f13 u13 K) f13 u13 (fun r14 f14 u14 =>
  guardK true (demK r11) (fun K => hBinS B .eql false (demK r14) (.c (.p (pI 0))) f14 u14 K) f14 u14 (fun r15 f15 u15 =>
  hPick  (demK (demK r11)) (demK r15) (.c (.p (pB false))) f15 u15 (fun r16 f16 u16 =>
  guardK true (demK r16) (fun K => hFa 7 (demK (look' 1 e)) f16 u16 K) f16 u16 (fun r18 f18 u18 =>
  guardK true (demK r16) (fun K => hLdS B false 1 false (demK r18) f18 u18 K) f18 u18 (fun r19 f19 u19 =>
  guardK true (demK r16) (fun K => hBinS B .eql false (demK r19) (.c (.p (pI 0))) f19 u19 K) f19 u19 (fun r20 f20 u20 =>
  hPick  (demK (demK r16)) (demK r20) (.c (.p (pB false))) f20 u20 (fun r21 f21 u21 =>
  headK (demK r21) (fun v2 => k .normal [(2, v2)] f21 u21))))))))))))))))))

noncomputable def q54_10 (B : Sy) (C : Go.ScE.Callee) : Env → Fram → List Fram → KX → R0 := fun e fr up k =>
  hBinS B .eql false (demK (look' 14 e)) (.c (.p (pI 3))) fr up (fun r0 f0 u0 =>
  headK (look' 1 e) (fun v1 => headK (look' 3 e) (fun v3 => headK (look' 5 e) (fun v5 => headK (look' 14 e) (fun v14 => headK (demK r0) (fun v63 => k .normal [(1, v1), (3, v3), (5, v5), (14, v14), (63, v63)] f0 u0))))))

noncomputable def q54_11 (B : Sy) (C : Go.ScE.Callee) : Env → Fram → List Fram → KX → R0 := fun e fr up k =>
  hBinS B .eql false (demK (demK (look' 5 e))) (.c (.p (pI 0))) fr up (fun r1 f1 u1 =>
  guardK true (demK r1) (fun K => hFa 0 (demK (look' 3 e)) f1 u1 K) f1 u1 (fun r3 f3 u3 =>
  guardK true (demK r1) (fun K => hLdS B false 1 false (demK r3) f3 u3 K) f3 u3 (fun r4 f4 u4 =>
  guardK true (demK r1) (fun K => hBinS B .eql false (demK r4) (.c (.p (pI 28))) f4 u4 K) f4 u4 (fun r5 f5 u5 =>
  hPick  (demK (demK r1)) (demK r5) (.c (.p (pB false))) f5 u5 (fun r6 f6 u6 =>
  guardK true (demK r6) (fun K => hFa 4 (demK (look' 3 e)) f6 u6 K) f6 u6 (fun r8 f8 u8 =>
  guardK true (demK r6) (fun K => hLdS B false 1 false (demK r8) f8 u8 K) f8 u8 (fun r9 f9 u9 =>
  guardK true (demK r6) (fun K => hBinS B .eql false (demK r9) (.c (.p (pI 0))) f9 u9 K) f9 u9 (fun r10 f10 u10 =>
  hPick  (demK (demK r6)) (demK r10) (.c (.p (pB false))) f10 u10 (fun r11 f11 u11 =>
  guardK true (demK r11) (fun K => hFa 7 (demK (look' 1 e)) f11 u11 K) f11 u11 (fun r13 f13 u13 =>
  guardK true (demK r11) (fun K => hLdS B false 1 false (demK r13) f13 u13 K) f13 u13 (fun r14 f14 u14 =>
  guardK true (demK r11) (fun K => hBinS B .eql false (demK r14) (.c (.p (pI 0))) f14 u14 K) f14 u14 (fun r15 f15 u15 =>
  hPick  (demK (demK r11)) (demK r15) (.c (.p (pB false))) f15 u15 (fun r16 f16 u16 =>
  headK (demK r16) (fun v2 => k .normal [(2, v2)] f16 u16))))))))))))))

noncomputable def q54_12 (B : Sy) (C : Go.ScE.Callee) : Env → Fram → List Fram → KX → R0 := fun e fr up k =>
  hBinS B .eql false (demK (look' 14 e)) (.c (.p (pI 4))) fr up (fun r0 f0 u0 =>
  headK (look' 1 e) (fun v1 => headK (look' 3 e) (fun v3 => headK (look' 5 e) (fun v5 => headK (look' 14 e) (fun v14 => headK (demK r0) (fun v82 => k .normal [(1, v1), (3, v3), (5, v5), (14, v14), (82, v82)] f0 u0))))))

noncomputable def q54_13 (B : Sy) (C : Go.ScE.Callee) : Env → Fram → List Fram → KX → R0 := fun e fr up k =>
  hBinS B .eql false (demK (demK (look' 5 e))) (.c (.p (pI 0))) fr up (fun r1 f1 u1 =>
  guardK true (demK r1) (fun K => hFa 0 (demK (look' 3 e)) f1 u1 K) f1 u1 (fun r3 f3 u3 =>
  guardK true (demK r1) (fun K => hLdS B false 1 false (demK r3) f3 u3 K) f3 u3 (fun r4 f4 u4 =>
  guardK true (demK r1) (fun K => hBinS B .eql false (demK r4) (.c (.p (pI 20))) f4 u4 K) f4 u4 (fun r5 f5 u5 =>
  hPick  (demK (demK r1)) (demK r5) (.c (.p (pB false))) f5 u5 (fun r6 f6 u6 =>
  guardK true (demK r6) (fun K => hFa 4 (demK (look' 3 e)) f6 u6 K) f6 u6 (fun r8 f8 u8 =>
  guardK true (demK r6) (fun K => hLdS B false 1 false (demK r8) f8 u8 K) f8 u8 (fun r9 f9 u9 =>
  guardK true (demK r6) (fun K => hBinS B .eql false (demK r9) (.c (.p (pI 0))) f9 u9 K) f9 u9 (fun r10 f10 u10 =>
  hPick  (demK (demK r6)) (demK r10) (.c (.p (pB false))) f10 u10 (fun r11 f11 u11 =>
  guardK true (demK r11) (fun K => hFa 6 (demK (look' 1 e)) f11 u11 K) f11 u11 (fun r13 f13 u13 =>
  guardK true (demK r11) (fun K => hLdS B false 1 false (demK r13) f13 u13 K) f13 u13 (fun r14 f14 u14 =>
  guardK true (demK r11) (fun K => hBinS B .eql false (demK r14) (.c (.p (pI 0))) f14 u14 K) f14 u14 (fun r15 f15 u15 =>
  hPick  (demK (demK r11)) (demK r15) (.c (.p (pB false))) f15 u15 (fun r16 f16 u16 =>
  headK (demK r16) (fun v2 => k .normal [(2, v2)] f16 u16))))))))))))))

noncomputable def q54_14 (B : Sy) (C : Go.ScE.Callee) : Env → Fram → List Fram → KX → R0 := fun e fr up k =>
  hBinS B .eql false (demK (look' 14 e)) (.c (.p (pI 5))) fr up (fun r0 f0 u0 =>
  headK (look' 1 e) (fun v1 => headK (look' 3 e) (fun v3 => headK (look' 5 e) (fun v5 => headK (demK r0) (fun v101 => k .normal [(1, v1), (3, v3), (5, v5), (101, v101)] f0 u0)))))

noncomputable def q54_15 (B : Sy) (C : Go.ScE.Callee) : Env → Fram → List Fram → KX → R0 := fun e fr up k =>
  hBinS B .eql false (demK (demK (look' 5 e))) (.c (.p (pI 0))) fr up (fun r1 f1 u1 =>
  guardK true (demK r1) (fun K => hFa 0 (demK (look' 3 e)) f1 u1 K) f1 u1 (fun r3 f3 u3 =>
  guardK true (demK r1) (fun K => hLdS B false 1 false (demK r3) f3 u3 K) f3 u3 (fun r4 f4 u4 =>
  guardK true (demK r1) (fun K => hBinS B .eql false (demK r4) (.c (.p (pI 20))) f4 u4 K) f4 u4 (fun r5 f5 u5 =>
  hPick  (demK (demK r1)) (demK r5) (.c (.p (pB false))) f5 u5 (fun r6 f6 u6 =>
  guardK true (demK r6) (fun K => hFa 4 (demK (look' 3 e)) f6 u6 K) f6 u6 (fun r8 f8 u8 =>
  guardK true (demK r6) (fun K => hLdS B false 1 false (demK r8) f8 u8 K) f8 u8 (fun r9 f9 u9 =>
  guardK true (demK r6) (fun K => hBinS B .eql false (demK r9) (.c (.p (pI 0))) f9 u9 K) f9 u9 (fun r10 f10 u10 =>
  hPick  (demK (demK r6)) (demK r10) (.c (.p (pB false))) f10 u10 (fun r11 f11 u11 =>
  guardK true (demK r11) (fun K => hFa 7 (demK (look' 1 e)) f11 u11 K) f11 u11 (fun r13 f13 u13 =>
  guardK true (demK r11) (fun K => hLdS B false 1 false (demK r13) f13 u13 K) f13 u13 (fun r14 f14 u14 =>
  guardK true (demK r11) (fun K => hBinS B .eql false (demK r14) (.c (.p (pI 0))) f14 u14 K) f14 u14 (fun r15 f15 u15 =>
  hPick  (demK (demK r11)) (demK r15) (.c (.p (pB false))) f15 u15 (fun r16 f16 u16 =>
  headK (demK r16) (fun v2 => k .normal [(2, v2)] f16 u16))))))))))))))

noncomputable def q54_16 (B : Sy) (C : Go.ScE.Callee) : Env → Fram → List Fram → KX → R0 := fun e fr up k =>
  headK (.c (.p (pB false))) (fun v2 => k .normal [(2, v2)] fr up)

noncomputable def s54 : KS := fun B C n => seqK (q54_0 B C) (seqK (q54_1 B C) (seqK (q54_2 B C) (seqK (seqK (q54_3 B C) (blockK 0 (seqK (q54_4 B C) (condK (.t 15) (seqK (q54_5 B C) (retK)) (seqK (q54_6 B C) (condK (.t 29) (seqK (q54_7 B C) (retK)) (seqK (q54_8 B C) (condK (.t 39) (seqK (q54_9 B C) (retK)) (seqK (q54_10 B C) (condK (.t 63) (seqK (q54_11 B C) (retK)) (seqK (q54_12 B C) (condK (.t 82) (seqK (q54_13 B C) (retK)) (seqK (q54_14 B C) (condK (.t 101) (seqK (q54_15 B C) (retK)) (skipK))))))))))))))) (seqK (q54_16 B C) (retK)))))
theorem s54_eq (B : Sy) (C : Go.ScE.Callee) (n : Nat) : s54 B C n = evS B C n x54.body := by kernel_rfl

noncomputable def q55_0 (B : Sy) (C : Go.ScE.Callee) : Env → Fram → List Fram → KX → R0 := fun e fr up k =>
  headK (look' 0 e) (fun v0 => headK (look' 1 e) (fun v1 => k .normal [(0, v0), (1, v1)] fr up))

noncomputable def q55_1 (B : Sy) (C : Go.ScE.Callee) : Env → Fram → List Fram → KX → R0 := fun e fr up k =>
  headK (look' 0 e) (fun v0 => headK (look' 1 e) (fun v1 => headK (.c (.p (pI 0))) (fun v5 => k .normal [(0, v0), (1, v1), (5, v5)] fr up)))

noncomputable def q55_2 (B : Sy) (C : Go.ScE.Callee) : Env → Fram → List Fram → KX → R0 := fun e fr up k =>
  hLenLS B  (demK (demK (look' 0 e))) fr up (fun r2 f2 u2 =>
  hBinS B .lss false (demK (demK (look' 5 e))) (demK r2) f2 u2 (fun r3 f3 u3 =>
  headK (look' 0 e) (fun v0 => headK (look' 1 e) (fun v1 => headK (look' 5 e) (fun v5 => headK r3 (fun v9 => k .normal [(0, v0), (1, v1), (5, v5), (9, v9)] f3 u3))))))

noncomputable def q55_3 (B : Sy) (C : Go.ScE.Callee) : Env → Fram → List Fram → KX → R0 := fun e fr up k =>
  hIaS B 8 (demK (demK (look' 0 e))) (demK (demK (look' 5 e))) fr up (fun r2 f2 u2 =>
  hFa 0 (demK r2) f2 u2 (fun r3 f3 u3 =>
  hLdS B false 1 false (demK r3) f3 u3 (fun r4 f4 u4 =>
  hBinS B .eql false (demK r4) (.c (.p (pI 1))) f4 u4 (fun r5 f5 u5 =>
  guardK true (demK r5) (fun K => K (demK (look' 0 e)) f5 u5) f5 u5 (fun r7 f7 u7 =>
  guardK true (demK r5) (fun K => K (demK (look' 5 e)) f7 u7) f7 u7 (fun r8 f8 u8 =>
  guardK true (demK r5) (fun K => hIaS B 8 (demK r7) (demK r8) f8 u8 K) f8 u8 (fun r9 f9 u9 =>
  guardK true (demK r5) (fun K => hFa 6 (demK r9) f9 u9 K) f9 u9 (fun r10 f10 u10 =>
  guardK true (demK r5) (fun K => hLdS B false 1 false (demK r10) f10 u10 K) f10 u10 (fun r11 f11 u11 =>
  guardK true (demK r5) (fun K => K (demK (look' 1 e)) f11 u11) f11 u11 (fun r12 f12 u12 =>
  guardK true (demK r5) (fun K => hBinS B .eql false (demK r11) (demK r12) f12 u12 K) f12 u12 (fun r13 f13 u13 =>
  hPick  (demK (demK r5)) (demK r13) (.c (.p (pB false))) f13 u13 (fun r14 f14 u14 =>
  headK (look' 0 e) (fun v0 => headK (look' 1 e) (fun v1 => headK (look' 5 e) (fun v5 => headK r14 (fun v26 => k .normal [(0, v0), (1, v1), (5, v5), (26, v26)] f14 u14))))))))))))))))

noncomputable def q55_4 (B : Sy) (C : Go.ScE.Callee) : Env → Fram → List Fram → KX → R0 := fun e fr up k =>
  headK (demK (demK (look' 5 e))) (fun v4 => k .normal [(4, v4)] fr up)

noncomputable def q55_5 (B : Sy) (C : Go.ScE.Callee) : Env → Fram → List Fram → KX → R0 := fun e fr up k =>
  hBinS B .add false (demK (demK (look' 5 e))) (.c (.p (pI 1))) fr up (fun r1 f1 u1 =>
  headK (look' 0 e) (fun v0 => headK (look' 1 e) (fun v1 => headK (demK r1) (fun v5 => k .normal [(0, v0), (1, v1), (5, v5)] f1 u1))))

noncomputable def q55_6 (B : Sy) (C : Go.ScE.Callee) : Env → Fram → List Fram → KX → R0 := fun e fr up k =>
  headK (.c (.p (pI (-1)))) (fun v4 => k .normal [(4, v4)] fr up)

noncomputable def s55 : KS := fun B C n => seqK (q55_0 B C) (seqK (seqK (q55_1 B C) (blockK 0 (loopsK [0, 1, 5] [] (seqK (seqK (q55_2 B C) (condK (.t 9) (skipK) (exitK 0))) (seqK (blockK 1 (seqK (q55_3 B C) (condK (.t 26) (seqK (q55_4 B C) (retK)) (skipK)))) (q55_5 B C))) n))) (seqK (q55_6 B C) (retK)))
theorem s55_eq (B : Sy) (C : Go.ScE.Callee) (n : Nat) : s55 B C n = evS B C n x55.body := by kernel_rfl

noncomputable def q56_0 (B : Sy) (C : Go.ScE.Callee) : Env → Fram → List Fram → KX → R0 := fun e fr up k =>
  headK (look' 0 e) (fun v0 => k .normal [(0, v0)] fr up)

noncomputable def q56_1 (B : Sy) (C : Go.ScE.Callee) : Env → Fram → List Fram → KX → R0 := fun e fr up k =>
  hLenLS B  (demK (demK (look' 0 e))) fr up (fun r1 f1 u1 =>
  hMksS B 0 1 [(pB false)] (demK r1) (demK r1) f1 u1 (fun r2 f2 u2 =>
  headK (look' 0 e) (fun v0 => headK r2 (fun v4 => k .normal [(0, v0), (4, v4)] f2 u2))))

noncomputable def q56_2 (B : Sy) (C : Go.ScE.Callee) : Env → Fram → List Fram → KX → R0 := fun e fr up k =>
  hLenLS B  (demK (demK (look' 0 e))) fr up (fun r1 f1 u1 =>
  hMksS B 1 1 [(pI 0)] (demK r1) (demK r1) f1 u1 (fun r2 f2 u2 =>
  headK (look' 0 e) (fun v0 => headK (look' 4 e) (fun v4 => headK r2 (fun v5 => k .normal [(0, v0), (4, v4), (5, v5)] f2 u2)))))

noncomputable def q56_3 (B : Sy) (C : Go.ScE.Callee) : Env → Fram → List Fram → KX → R0 := fun e fr up k =>
  headK (look' 0 e) (fun v0 => headK (look' 4 e) (fun v4 => headK (look' 5 e) (fun v5 => headK (.c (.p (pI 0))) (fun v6 => k .normal [(0, v0), (4, v4), (5, v5), (6, v6)] fr up))))

noncomputable def q56_4 (B : Sy) (C : Go.ScE.Callee) : Env → Fram → List Fram → KX → R0 := fun e fr up k =>
  hLenLS B  (demK (demK (look' 0 e))) fr up (fun r2 f2 u2 =>
  hBinS B .lss false (demK (demK (look' 6 e))) (demK r2) f2 u2 (fun r3 f3 u3 =>
  headK (look' 0 e) (fun v0 => headK (look' 4 e) (fun v4 => headK (look' 5 e) (fun v5 => headK (look' 6 e) (fun v6 => headK r3 (fun v20 => k .normal [(0, v0), (4, v4), (5, v5), (6, v6), (20, v20)] f3 u3)))))))

noncomputable def q56_5 (B : Sy) (C : Go.ScE.Callee) : Env → Fram → List Fram → KX → R0 := fun e fr up k =>
  hIaS B 8 (demK (demK (look' 0 e))) (demK (demK (look' 6 e))) fr up (fun r2 f2 u2 =>
  hLdS B true 8 false (demK r2) f2 u2 (fun r3 f3 u3 =>
  hCall C 43 [(demK r3)] f3 u3 (fun r4 f4 u4 =>
  headK (look' 0 e) (fun v0 => headK (look' 4 e) (fun v4 => headK (look' 5 e) (fun v5 => headK (look' 6 e) (fun v6 => headK r4 (fun v27 => k .normal [(0, v0), (4, v4), (5, v5), (6, v6), (27, v27)] f4 u4))))))))

noncomputable def q56_6 (B : Sy) (C : Go.ScE.Callee) : Env → Fram → List Fram → KX → R0 := fun e fr up k =>
  hIaS B 8 (demK (demK (look' 0 e))) (demK (demK (look' 6 e))) fr up (fun r5 f5 u5 =>
  hFa 6 (demK r5) f5 u5 (fun r6 f6 u6 =>
  hLdS B false 1 false (demK r6) f6 u6 (fun r7 f7 u7 =>
  hCall C 55 [(demK (look' 0 e)), (demK r7)] f7 u7 (fun r8 f8 u8 =>
  hIaS B 1 (demK (demK (look' 5 e))) (demK (demK (look' 6 e))) f8 u8 (fun r9 f9 u9 =>
  hStS B 1 (demK r9) (demK r8) f9 u9 (fun r10 f10 u10 =>
  headK (look' 0 e) (fun v0 => headK (look' 4 e) (fun v4 => headK (look' 5 e) (fun v5 => headK (look' 6 e) (fun v6 => k .normal [(0, v0), (4, v4), (5, v5), (6, v6)] f10 u10))))))))))

noncomputable def q56_7 (B : Sy) (C : Go.ScE.Callee) : Env → Fram → List Fram → KX → R0 := fun e fr up k =>
  hBinS B .add false (demK (demK (look' 6 e))) (.c (.p (pI 1))) fr up (fun r1 f1 u1 =>
  headK (look' 0 e) (fun v0 => headK (look' 4 e) (fun v4 => headK (look' 5 e) (fun v5 => headK (demK r1) (fun v6 => k .normal [(0, v0), (4, v4), (5, v5), (6, v6)] f1 u1)))))

noncomputable def q56_8 (B : Sy) (C : Go.ScE.Callee) : Env → Fram → List Fram → KX → R0 := fun e fr up k =>
  hCall C 62 [(demK (look' 0 e)), (demK (look' 4 e))] fr up (fun r2 f2 u2 =>
  headK (look' 0 e) (fun v0 => headK (look' 4 e) (fun v4 => headK (look' 5 e) (fun v5 => headK r2 (fun v7 => k .normal [(0, v0), (4, v4), (5, v5), (7, v7)] f2 u2)))))

noncomputable def q56_9 (B : Sy) (C : Go.ScE.Callee) : Env → Fram → List Fram → KX → R0 := fun e fr up k =>
  headK (look' 0 e) (fun v0 => headK (look' 4 e) (fun v4 => headK (look' 5 e) (fun v5 => headK (look' 7 e) (fun v7 => headK (.c (.p (pB false))) (fun v8 => k .normal [(0, v0), (4, v4), (5, v5), (7, v7), (8, v8)] fr up)))))

noncomputable def q56_10 (B : Sy) (C : Go.ScE.Callee) : Env → Fram → List Fram → KX → R0 := fun e fr up k =>
  headK (look' 0 e) (fun v0 => headK (look' 4 e) (fun v4 => headK (look' 5 e) (fun v5 => headK (look' 7 e) (fun v7 => headK (look' 8 e) (fun v8 => headK (.c (.p (pI 0))) (fun v9 => k .normal [(0, v0), (4, v4), (5, v5), (7, v7), (8, v8), (9, v9)] fr up))))))

noncomputable def q56_11 (B : Sy) (C : Go.ScE.Callee) : Env → Fram → List Fram → KX → R0 := fun e fr up k =>
  hLenLS B  (demK (demK (look' 0 e))) fr up (fun r2 f2 u2 =>
  hBinS B .lss false (demK (demK (look' 9 e))) (demK r2) f2 u2 (fun r3 f3 u3 =>
  headK (look' 0 e) (fun v0 => headK (look' 4 e) (fun v4 => headK (look' 5 e) (fun v5 => headK (look' 7 e) (fun v7 => headK (look' 8 e) (fun v8 => headK (look' 9 e) (fun v9 => headK r3 (fun v44 => k .normal [(0, v0), (4, v4), (5, v5), (7, v7), (8, v8), (9, v9), (44, v44)] f3 u3)))))))))

noncomputable def q56_12 (B : Sy) (C : Go.ScE.Callee) : Env → Fram → List Fram → KX → R0 := fun e fr up k =>
  hIaS B 8 (demK (demK (look' 0 e))) (demK (demK (look' 9 e))) fr up (fun r2 f2 u2 =>
  hFa 0 (demK r2) f2 u2 (fun r3 f3 u3 =>
  hLdS B false 1 false (demK r3) f3 u3 (fun r4 f4 u4 =>
  hBinS B .neq false (demK r4) (.c (.p (pI 2))) f4 u4 (fun r5 f5 u5 =>
  guardK false (demK r5) (fun K => K (demK (look' 4 e)) f5 u5) f5 u5 (fun r7 f7 u7 =>
  guardK false (demK r5) (fun K => K (demK (look' 9 e)) f7 u7) f7 u7 (fun r8 f8 u8 =>
  guardK false (demK r5) (fun K => hIaS B 1 (demK r7) (demK r8) f8 u8 K) f8 u8 (fun r9 f9 u9 =>
  guardK false (demK r5) (fun K => hLdS B false 1 false (demK r9) f9 u9 K) f9 u9 (fun r10 f10 u10 =>
  hPick  (demK (demK r5)) (.c (.p (pB true))) (demK r10) f10 u10 (fun r11 f11 u11 =>
  headK (look' 0 e) (fun v0 => headK (look' 4 e) (fun v4 => headK (look' 5 e) (fun v5 => headK (look' 7 e) (fun v7 => headK (look' 8 e) (fun v8 => headK (look' 9 e) (fun v9 => headK r11 (fun v58 => k .normal [(0, v0), (4, v4), (5, v5), (7, v7), (8, v8), (9, v9), (58, v58)] f11 u11))))))))))))))))

noncomputable def q56_13 (B : Sy) (C : Go.ScE.Callee) : Env → Fram → List Fram → KX → R0 := fun e fr up k =>
  hIaS B 1 (demK (demK (look' 5 e))) (demK (demK (look' 9 e))) fr up (fun r3 f3 u3 =>
  hLdS B false 1 false (demK r3) f3 u3 (fun r4 f4 u4 =>
  hIaS B 1 (demK (demK (look' 7 e))) (demK r4) f4 u4 (fun r5 f5 u5 =>
  hLdS B false 1 false (demK r5) f5 u5 (fun r6 f6 u6 =>
  hIaS B 1 (demK (demK (look' 7 e))) (demK (demK (look' 9 e))) f6 u6 (fun r9 f9 u9 =>
  hLdS B false 1 false (demK r9) f9 u9 (fun r10 f10 u10 =>
  hBinS B .sub false (demK r6) (demK r10) f10 u10 (fun r11 f11 u11 =>
  headK (look' 0 e) (fun v0 => headK (look' 4 e) (fun v4 => headK (look' 5 e) (fun v5 => headK (look' 7 e) (fun v7 => headK (look' 8 e) (fun v8 => headK (look' 9 e) (fun v9 => headK (demK r11) (fun v10 => k .normal [(0, v0), (4, v4), (5, v5), (7, v7), (8, v8), (9, v9), (10, v10)] f11 u11))))))))))))))

noncomputable def q56_14 (B : Sy) (C : Go.ScE.Callee) : Env → Fram → List Fram → KX → R0 := fun e fr up k =>
  hBinS B .lss false (demK (demK (look' 10 e))) (.c (.p (pI (-512)))) fr up (fun r1 f1 u1 =>
  guardK false (demK r1) (fun K => K (demK (look' 10 e)) f1 u1) f1 u1 (fun r3 f3 u3 =>
  guardK false (demK r1) (fun K => hBinS B .gtr false (demK r3) (.c (.p (pI 511))) f3 u3 K) f3 u3 (fun r4 f4 u4 =>
  hPick  (demK (demK r1)) (.c (.p (pB true))) (demK r4) f4 u4 (fun r5 f5 u5 =>
  headK (look' 0 e) (fun v0 => headK (look' 4 e) (fun v4 => headK (look' 5 e) (fun v5 => headK (look' 7 e) (fun v7 => headK (look' 8 e) (fun v8 => headK (look' 9 e) (fun v9 => headK r5 (fun v76 => k .normal [(0, v0), (4, v4), (5, v5), (7, v7), (8, v8), (9, v9), (76, v76)] f5 u5)))))))))))

noncomputable def q56_15 (B : Sy) (C : Go.ScE.Callee) : Env → Fram → List Fram → KX → R0 := fun e fr up k =>
  hIaS B 1 (demK (demK (look' 4 e))) (demK (demK (look' 9 e))) fr up (fun r2 f2 u2 =>
  hStS B 1 (demK r2) (.c (.p (pB true))) f2 u2 (fun r3 f3 u3 =>
  headK (look' 0 e) (fun v0 => headK (look' 4 e) (fun v4 => headK (look' 5 e) (fun v5 => headK (look' 7 e) (fun v7 => headK (look' 9 e) (fun v9 => k .normal [(0, v0), (4, v4), (5, v5), (7, v7), (9, v9)] f3 u3)))))))

noncomputable def q56_16 (B : Sy) (C : Go.ScE.Callee) : Env → Fram → List Fram → KX → R0 := fun e fr up k =>
  headK (look' 0 e) (fun v0 => headK (look' 4 e) (fun v4 => headK (look' 5 e) (fun v5 => headK (look' 7 e) (fun v7 => headK (.c (.p (pB true))) (fun v8 => headK (look' 9 e) (fun v9 => k .normal [(0, v0), (4, v4), (5, v5), (7, v7), (8, v8), (9, v9)] fr up))))))

noncomputable def q56_17 (B : Sy) (C : Go.ScE.Callee) : Env → Fram → List Fram → KX → R0 := fun e fr up k =>
  hBinS B .add false (demK (demK (look' 9 e))) (.c (.p (pI 1))) fr up (fun r1 f1 u1 =>
  headK (look' 0 e) (fun v0 => headK (look' 4 e) (fun v4 => headK (look' 5 e) (fun v5 => headK (look' 7 e) (fun v7 => headK (look' 8 e) (fun v8 => headK (demK r1) (fun v9 => k .normal [(0, v0), (4, v4), (5, v5), (7, v7), (8, v8), (9, v9)] f1 u1)))))))

noncomputable def q56_18 (B : Sy) (C : Go.ScE.Callee) : Env → Fram → List Fram → KX → R0 := fun e fr up k =>
  hGen C (.un .not) [(demK (demK (look' 8 e)))] fr up (fun r1 f1 u1 =>
  headK (look' 0 e) (fun v0 => headK (look' 4 e) (fun v4 => headK (look' 5 e) (fun v5 => headK (look' 7 e) (fun v7 => headK r1 (fun v81 => k .normal [(0, v0), (4, v4), (5, v5), (7, v7), (81, v81)] f1 u1))))))

noncomputable def q56_19 (B : Sy) (C : Go.ScE.Callee) : Env → Fram → List Fram → KX → R0 := fun e fr up k =>
  headK (look' 4 e) (fun v2 => headK (look' 7 e) (fun v3 => k .normal [(2, v2), (3, v3)] fr up))

noncomputable def s56 : KS := fun B C n => seqK (q56_0 B C) (seqK (q56_1 B C) (seqK (q56_2 B C) (seqK (seqK (q56_3 B C) (blockK 0 (loopsK [0, 4, 5, 6] [0, 1] (seqK (seqK (q56_4 B C) (condK (.t 20) (skipK) (exitK 0))) (seqK (blockK 1 (seqK (q56_5 B C) (condK (.t 27) (q56_6 B C) (skipK)))) (q56_7 B C))) n))) (blockK 2 (loopsK [0, 4, 5] [0, 1] (blockK 3 (seqK (q56_8 B C) (seqK (q56_9 B C) (seqK (seqK (q56_10 B C) (blockK 4 (loopsK [0, 4, 5, 7, 8, 9] [0, 1] (seqK (seqK (q56_11 B C) (condK (.t 44) (skipK) (exitK 4))) (seqK (blockK 5 (seqK (seqK (q56_12 B C) (condK (.t 58) (exitK 5) (skipK))) (seqK (q56_13 B C) (seqK (q56_14 B C) (condK (.t 76) (seqK (q56_15 B C) (q56_16 B C)) (skipK)))))) (q56_17 B C))) n))) (seqK (q56_18 B C) (condK (.t 81) (seqK (q56_19 B C) (retK)) (skipK))))))) n)))))
theorem s56_eq (B : Sy) (C : Go.ScE.Callee) (n : Nat) : s56 B C n = evS B C n x56.body := by kernel_rfl

noncomputable def q57_0 (B : Sy) (C : Go.ScE.Callee) : Env → Fram → List Fram → KX → R0 := fun e fr up k =>
  hGen C (.box 0) [(demK (look' 0 e))] fr up (fun r0 f0 u0 =>
  headK (look' 1 e) (fun v1 => headK (look' 2 e) (fun v2 => headK (look' 3 e) (fun v3 => headK r0 (fun v4 => k .normal [(1, v1), (2, v2), (3, v3), (4, v4)] f0 u0)))))

noncomputable def q57_1 (B : Sy) (C : Go.ScE.Callee) : Env → Fram → List Fram → KX → R0 := fun e fr up k =>
  hFa 1 (demK (look' 4 e)) fr up (fun r0 f0 u0 =>
  hLdS B true 5 false (demK r0) f0 u0 (fun r1 f1 u1 =>
  hGen C (.alloc 1 true [(pI 0), (pI 0), (pI 0), (pI 0), (pI 0)]) [] f1 u1 (fun r2 f2 u2 =>
  hStS B 5 (demK r2) (demK r1) f2 u2 (fun r3 f3 u3 =>
  headK (look' 1 e) (fun v1 => headK (look' 2 e) (fun v2 => headK (look' 3 e) (fun v3 => headK (look' 4 e) (fun v4 => headK r2 (fun v9 => k .normal [(1, v1), (2, v2), (3, v3), (4, v4), (9, v9)] f3 u3)))))))))

noncomputable def q57_2 (B : Sy) (C : Go.ScE.Callee) : Env → Fram → List Fram → KX → R0 := fun e fr up k =>
  hBlds 1 [(pI 0)] 4 [0, 1, 2, 3] [(.c (.p (pI 25))), (.c (.p (pI 24))), (.c (.p (pI 27))), (.c (.p (pI 26)))] fr up (fun r0 f0 u0 =>
  headK (look' 1 e) (fun v1 => headK (look' 2 e) (fun v2 => headK (look' 3 e) (fun v3 => headK (look' 4 e) (fun v4 => headK (look' 9 e) (fun v9 => headK r0 (fun v10 => k .normal [(1, v1), (2, v2), (3, v3), (4, v4), (9, v9), (10, v10)] f0 u0)))))))

noncomputable def q57_3 (B : Sy) (C : Go.ScE.Callee) : Env → Fram → List Fram → KX → R0 := fun e fr up k =>
  hFa 0 (demK (look' 4 e)) fr up (fun r0 f0 u0 =>
  hLdS B false 1 false (demK r0) f0 u0 (fun r1 f1 u1 =>
  headK (look' 1 e) (fun v1 => headK (look' 2 e) (fun v2 => headK (look' 3 e) (fun v3 => headK (look' 4 e) (fun v4 => headK (look' 9 e) (fun v9 => headK (look' 10 e) (fun v10 => headK r1 (fun v15 => k .normal [(1, v1), (2, v2), (3, v3), (4, v4), (9, v9), (10, v10), (15, v15)] f1 u1)))))))))

noncomputable def q57_4 (B : Sy) (C : Go.ScE.Callee) : Env → Fram → List Fram → KX → R0 := fun e fr up k =>
  hBinS B .eql false (demK (look' 15 e)) (.c (.p (pI 0))) fr up (fun r0 f0 u0 =>
  headK (look' 1 e) (fun v1 => headK (look' 2 e) (fun v2 => headK (look' 3 e) (fun v3 => headK (look' 4 e) (fun v4 => headK (look' 9 e) (fun v9 => headK (look' 10 e) (fun v10 => headK (look' 15 e) (fun v15 => headK (demK r0) (fun v16 => k .normal [(1, v1), (2, v2), (3, v3), (4, v4), (9, v9), (10, v10), (15, v15), (16, v16)] f0 u0)))))))))

noncomputable def q57_5 (B : Sy) (C : Go.ScE.Callee) : Env → Fram → List Fram → KX → R0 := fun e fr up k =>
  hLdS B true 5 false (demK (look' 9 e)) fr up (fun r0 f0 u0 =>
  hBlds 5 [(pI 0), (pI 0), (pI 0), (pI 0), (pI 0)] 1 [0] [(demK r0)] f0 u0 (fun r1 f1 u1 =>
  headK r1 (fun v8 => k .normal [(8, v8)] f1 u1)))

noncomputable def q57_6 (B : Sy) (C : Go.ScE.Callee) : Env → Fram → List Fram → KX → R0 := fun e fr up k =>
  hBinS B .eql false (demK (look' 15 e)) (.c (.p (pI 2))) fr up (fun r0 f0 u0 =>
  headK (look' 1 e) (fun v1 => headK (look' 2 e) (fun v2 => headK (look' 3 e) (fun v3 => headK (look' 4 e) (fun v4 => headK (look' 9 e) (fun v9 => headK (look' 10 e) (fun v10 => headK (look' 15 e) (fun v15 => headK (demK r0) (fun v20 => k .normal [(1, v1), (2, v2), (3, v3), (4, v4), (9, v9), (10, v10), (15, v15), (20, v20)] f0 u0)))))))))

noncomputable def q57_7 (B : Sy) (C : Go.ScE.Callee) : Env → Fram → List Fram → KX → R0 := fun e fr up k =>
  headK (look' 2 e) (fun v2 => headK (look' 3 e) (fun v3 => headK (look' 9 e) (fun v9 => headK (look' 10 e) (fun v10 => headK (demK (look' 1 e)) (fun v22 => k .normal [(2, v2), (3, v3), (9, v9), (10, v10), (22, v22)] fr up)))))

noncomputable def q57_8 (B : Sy) (C : Go.ScE.Callee) : Env → Fram → List Fram → KX → R0 := fun e fr up k =>
  hFa 0 (demK (look' 9 e)) fr up (fun r1 f1 u1 =>
  hLdS B false 1 false (demK r1) f1 u1 (fun r2 f2 u2 =>
  hBinS B .sub false (demK r2) (.c (.p (pI 24))) f2 u2 (fun r3 f3 u3 =>
  hIaS B 1 (demK (look' 10 e)) (demK r3) f3 u3 (fun r4 f4 u4 =>
  hLdS B false 1 false (demK r4) f4 u4 (fun r5 f5 u5 =>
  hFa 1 (demK (look' 9 e)) f5 u5 (fun r6 f6 u6 =>
  hLdS B false 1 false (demK r6) f6 u6 (fun r7 f7 u7 =>
  hFa 2 (demK (look' 9 e)) f7 u7 (fun r8 f8 u8 =>
  hLdS B false 1 false (demK r8) f8 u8 (fun r9 f9 u9 =>
  hBld [(pI 0), (pI 0), (pI 0), (pI 0), (pI 0)] [(0, 1), (1, 1), (2, 1), (4, 1)] [(demK r5), (demK r7), (demK r9), (.c (.p (pI 2)))] f9 u9 (fun r10 f10 u10 =>
  hBinS B .sub false (demK (demK (look' 3 e))) (demK (demK (look' 2 e))) f10 u10 (fun r13 f13 u13 =>
  hBinS B .sub false (demK r13) (.c (.p (pI 1))) f13 u13 (fun r14 f14 u14 =>
  hBld [(pI 0), (pI 0), (pI 0), (pI 0), (pI 0)] [(0, 1), (4, 1)] [(.c (.p (pI 28))), (demK r14)] f14 u14 (fun r15 f15 u15 =>
  hBlds 5 [(pI 0), (pI 0), (pI 0), (pI 0), (pI 0)] 2 [0, 1] [(demK r10), (demK r15)] f15 u15 (fun r16 f16 u16 =>
  headK r16 (fun v8 => k .normal [(8, v8)] f16 u16)))))))))))))))

noncomputable def q57_9 (B : Sy) (C : Go.ScE.Callee) : Env → Fram → List Fram → KX → R0 := fun e fr up k =>
  hFa 0 (demK (look' 9 e)) fr up (fun r0 f0 u0 =>
  hLdS B false 1 false (demK r0) f0 u0 (fun r1 f1 u1 =>
  hFa 1 (demK (look' 9 e)) f1 u1 (fun r2 f2 u2 =>
  hLdS B false 1 false (demK r2) f2 u2 (fun r3 f3 u3 =>
  hFa 2 (demK (look' 9 e)) f3 u3 (fun r4 f4 u4 =>
  hLdS B false 1 false (demK r4) f4 u4 (fun r5 f5 u5 =>
  hBinS B .sub false (demK (demK (look' 3 e))) (demK (demK (look' 2 e))) f5 u5 (fun r8 f8 u8 =>
  hBld [(pI 0), (pI 0), (pI 0), (pI 0), (pI 0)] [(0, 1), (1, 1), (2, 1), (4, 1)] [(demK r1), (demK r3), (demK r5), (demK r8)] f8 u8 (fun r9 f9 u9 =>
  hBlds 5 [(pI 0), (pI 0), (pI 0), (pI 0), (pI 0)] 1 [0] [(demK r9)] f9 u9 (fun r10 f10 u10 =>
  headK r10 (fun v8 => k .normal [(8, v8)] f10 u10))))))))))

noncomputable def q57_10 (B : Sy) (C : Go.ScE.Callee) : Env → Fram → List Fram → KX → R0 := fun e fr up k =>
  hBinS B .eql false (demK (look' 15 e)) (.c (.p (pI 3))) fr up (fun r0 f0 u0 =>
  headK (look' 2 e) (fun v2 => headK (look' 3 e) (fun v3 => headK (look' 4 e) (fun v4 => headK (look' 9 e) (fun v9 => headK (look' 15 e) (fun v15 => headK (demK r0) (fun v51 => k .normal [(2, v2), (3, v3), (4, v4), (9, v9), (15, v15), (51, v51)] f0 u0)))))))

noncomputable def q57_11 (B : Sy) (C : Go.ScE.Callee) : Env → Fram → List Fram → KX → R0 := fun e fr up k =>
  hFa 1 (demK (look' 9 e)) fr up (fun r0 f0 u0 =>
  hLdS B false 1 false (demK r0) f0 u0 (fun r1 f1 u1 =>
  hBinS B .sub false (demK (demK (look' 3 e))) (demK (demK (look' 2 e))) f1 u1 (fun r4 f4 u4 =>
  hBld [(pI 0), (pI 0), (pI 0), (pI 0), (pI 0)] [(0, 1), (1, 1), (4, 1)] [(.c (.p (pI 28))), (demK r1), (demK r4)] f4 u4 (fun r5 f5 u5 =>
  hBlds 5 [(pI 0), (pI 0), (pI 0), (pI 0), (pI 0)] 1 [0] [(demK r5)] f5 u5 (fun r6 f6 u6 =>
  headK r6 (fun v8 => k .normal [(8, v8)] f6 u6))))))

noncomputable def q57_12 (B : Sy) (C : Go.ScE.Callee) : Env → Fram → List Fram → KX → R0 := fun e fr up k =>
  hBinS B .eql false (demK (look' 15 e)) (.c (.p (pI 4))) fr up (fun r0 f0 u0 =>
  headK (look' 3 e) (fun v3 => headK (look' 4 e) (fun v4 => headK (look' 9 e) (fun v9 => headK (look' 15 e) (fun v15 => headK (demK r0) (fun v60 => k .normal [(3, v3), (4, v4), (9, v9), (15, v15), (60, v60)] f0 u0))))))

noncomputable def q57_13 (B : Sy) (C : Go.ScE.Callee) : Env → Fram → List Fram → KX → R0 := fun e fr up k =>
  hFa 1 (demK (look' 9 e)) fr up (fun r0 f0 u0 =>
  hLdS B false 1 false (demK r0) f0 u0 (fun r1 f1 u1 =>
  hFa 7 (demK (look' 4 e)) f1 u1 (fun r2 f2 u2 =>
  hLdS B false 1 false (demK r2) f2 u2 (fun r3 f3 u3 =>
  hFa 7 (demK (look' 4 e)) f3 u3 (fun r4 f4 u4 =>
  hLdS B false 1 false (demK r4) f4 u4 (fun r5 f5 u5 =>
  Bool.rec (motive := fun _ => R0) fail0 (hCall C 64 [(demK r5)] f5 u5 (fun r6 f6 u6 =>
  Bool.rec (motive := fun _ => R0) fail0 (hCall C 63 [(demK r1), (demK r3), (demK r6)] f6 u6 (fun r7 f7 u7 =>
  headK r7 (fun v8 => k .normal [(8, v8)] f7 u7))) (chkD (.call 63) false [] [(demK r1), (demK r3), (demK r6)]))) (chkD (.call 64) false [] [(demK r5)])))))))

noncomputable def q57_14 (B : Sy) (C : Go.ScE.Callee) : Env → Fram → List Fram → KX → R0 := fun e fr up k =>
  hBinS B .eql false (demK (look' 15 e)) (.c (.p (pI 5))) fr up (fun r0 f0 u0 =>
  headK (look' 3 e) (fun v3 => headK (look' 9 e) (fun v9 => headK (demK r0) (fun v70 => k .normal [(3, v3), (9, v9), (70, v70)] f0 u0))))

noncomputable def q57_15 (B : Sy) (C : Go.ScE.Callee) : Env → Fram → List Fram → KX → R0 := fun e fr up k =>
  hFa 1 (demK (look' 9 e)) fr up (fun r0 f0 u0 =>
  hLdS B false 1 false (demK r0) f0 u0 (fun r1 f1 u1 =>
  hCall C 63 [(demK r1), (demK (demK (look' 3 e))), (.c (.p (pI 2)))] f1 u1 (fun r3 f3 u3 =>
  headK r3 (fun v8 => k .normal [(8, v8)] f3 u3))))

noncomputable def q57_16 (B : Sy) (C : Go.ScE.Callee) : Env → Fram → List Fram → KX → R0 := fun e fr up k =>
  headK (.c (.own 5 [])) (fun v8 => k .normal [(8, v8)] fr up)

noncomputable def s57 : KS := fun B C n => seqK (q57_0 B C) (seqK (q57_1 B C) (seqK (q57_2 B C) (seqK (seqK (q57_3 B C) (blockK 0 (seqK (q57_4 B C) (condK (.t 16) (seqK (q57_5 B C) (retK)) (seqK (q57_6 B C) (condK (.t 20) (seqK (seqK (q57_7 B C) (condK (.t 22) (seqK (q57_8 B C) (retK)) (skipK))) (seqK (q57_9 B C) (retK))) (seqK (q57_10 B C) (condK (.t 51) (seqK (q57_11 B C) (retK)) (seqK (q57_12 B C) (condK (.t 60) (seqK (q57_13 B C) (retK)) (seqK (q57_14 B C) (condK (.t 70) (seqK (q57_15 B C) (retK)) (skipK))))))))))))) (seqK (q57_16 B C) (retK)))))
theorem s57_eq (B : Sy) (C : Go.ScE.Callee) (n : Nat) : s57 B C n = evS B C n x57.body := by kernel_rfl

noncomputable def q58_0 (B : Sy) (C : Go.ScE.Callee) : Env → Fram → List Fram → KX → R0 := fun e fr up k =>
  hGen C (.box 0) [(demK (look' 0 e))] fr up (fun r0 f0 u0 =>
  headK r0 (fun v1 => k .normal [(1, v1)] f0 u0))

noncomputable def q58_1 (B : Sy) (C : Go.ScE.Callee) : Env → Fram → List Fram → KX → R0 := fun e fr up k =>
  hCall C 59 [] fr up (fun r0 f0 u0 =>
  headK (look' 1 e) (fun v1 => headK r0 (fun v4 => k .normal [(1, v1), (4, v4)] f0 u0)))

noncomputable def q58_2 (B : Sy) (C : Go.ScE.Callee) : Env → Fram → List Fram → KX → R0 := fun e fr up k =>
  hFa 0 (demK (look' 1 e)) fr up (fun r0 f0 u0 =>
  hLdS B false 1 false (demK r0) f0 u0 (fun r1 f1 u1 =>
  hBinS B .lss false (demK r1) (.c (.p (pI 0))) f1 u1 (fun r2 f2 u2 =>
  guardK false (demK r2) (fun K => hFa 0 (demK (look' 1 e)) f2 u2 K) f2 u2 (fun r4 f4 u4 =>
  guardK false (demK r2) (fun K => hLdS B false 1 false (demK r4) f4 u4 K) f4 u4 (fun r5 f5 u5 =>
  guardK false (demK r2) (fun K => K (demK (look' 4 e)) f5 u5) f5 u5 (fun r6 f6 u6 =>
  guardK false (demK r2) (fun K => hLenLS B  (demK r6) f6 u6 K) f6 u6 (fun r7 f7 u7 =>
  guardK false (demK r2) (fun K => hBinS B .geq false (demK r5) (demK r7) f7 u7 K) f7 u7 (fun r8 f8 u8 =>
  hPick  (demK (demK r2)) (.c (.p (pB true))) (demK r8) f8 u8 (fun r9 f9 u9 =>
  headK (look' 1 e) (fun v1 => headK (look' 4 e) (fun v4 => headK r9 (fun v17 => k .normal [(1, v1), (4, v4), (17, v17)] f9 u9))))))))))))

noncomputable def q58_3 (B : Sy) (C : Go.ScE.Callee) : Env → Fram → List Fram → KX → R0 := fun e fr up k =>
  headK (.c (.p (pK .u32 0))) (fun v2 => headK (.c (.p (pI 200))) (fun v3 => k .normal [(2, v2), (3, v3)] fr up))

noncomputable def q58_4 (B : Sy) (C : Go.ScE.Callee) : Env → Fram → List Fram → KX → R0 := fun e fr up k =>
  hFa 0 (demK (look' 1 e)) fr up (fun r1 f1 u1 =>
  hLdS B false 1 false (demK r1) f1 u1 (fun r2 f2 u2 =>
  hIaS B 6 (demK (look' 4 e)) (demK r2) f2 u2 (fun r3 f3 u3 =>
  hLdS B true 6 false (demK r3) f3 u3 (fun r4 f4 u4 =>
  hGen C (.alloc 1 true [(pB false), (pB false), (pB false), (pK .u64 0), (pI 0), (pI 0)]) [] f4 u4 (fun r5 f5 u5 =>
  hStS B 6 (demK r5) (demK r4) f5 u5 (fun r6 f6 u6 =>
  headK (look' 1 e) (fun v1 => headK r5 (fun v5 => k .normal [(1, v1), (5, v5)] f6 u6))))))))

noncomputable def q58_5 (B : Sy) (C : Go.ScE.Callee) : Env → Fram → List Fram → KX → R0 := fun e fr up k =>
  hFa 1 (demK (look' 1 e)) fr up (fun r0 f0 u0 =>
  hLdS B false 1 false (demK r0) f0 u0 (fun r1 f1 u1 =>
  hFa 0 (demK (look' 5 e)) f1 u1 (fun r2 f2 u2 =>
  hLdS B false 1 false (demK r2) f2 u2 (fun r3 f3 u3 =>
  hCall C 65 [(demK r1), (demK r3)] f3 u3 (fun r4 f4 u4 =>
  hGen C (.un .not) [(demK r4)] f4 u4 (fun r5 f5 u5 =>
  guardK false (demK r5) (fun K => hFa 2 (demK (look' 1 e)) f5 u5 K) f5 u5 (fun r7 f7 u7 =>
  guardK false (demK r5) (fun K => hLdS B false 1 false (demK r7) f7 u7 K) f7 u7 (fun r8 f8 u8 =>
  guardK false (demK r5) (fun K => hFa 1 (demK (look' 5 e)) f8 u8 K) f8 u8 (fun r9 f9 u9 =>
  guardK false (demK r5) (fun K => hLdS B false 1 false (demK r9) f9 u9 K) f9 u9 (fun r10 f10 u10 =>
  guardK false (demK r5) (fun K => hCall C 65 [(demK r8), (demK r10)] f10 u10 K) f10 u10 (fun r11 f11 u11 =>
  guardK false (demK r5) (fun K => hGen C (.un .not) [(demK r11)] f11 u11 K) f11 u11 (fun r12 f12 u12 =>
  hPick  (demK (demK r5)) (.c (.p (pB true))) (demK r12) f12 u12 (fun r13 f13 u13 =>
  guardK false (demK r13) (fun K => hFa 3 (demK (look' 1 e)) f13 u13 K) f13 u13 (fun r15 f15 u15 =>
  guardK false (demK r13) (fun K => hLdS B false 1 false (demK r15) f15 u15 K) f15 u15 (fun r16 f16 u16 =>
  guardK false (demK r13) (fun K => hFa 2 (demK (look' 5 e)) f16 u16 K) f16 u16 (fun r17 f17 u17 =>
  guardK false (demK r13) (fun K => hLdS B false 1 false (demK r17) f17 u17 K) f17 u17 (fun r18 f18 u18 =>
  guardK false (demK r13) (fun K => hCall C 65 [(demK r16), (demK r18)] f18 u18 K) f18 u18 (fun r19 f19 u19 =>
  guardK false (demK r13) (fun K => hGen C (.un .not) [(demK r19)] f19 u19 K) f19 u19 (fun r20 f20 u20 =>
  hPick  (demK (demK r13)) (.c (.p (pB true))) (demK r20) f20 u20 (fun r21 f21 u21 =>
  guardK false (demK r21) (fun K => hFa 4 (demK (look' 1 e)) f21 u21 K) f21 u21 (fun r23 f23 u23 =>
  guardK false (demK r21) (fun K => hLdS B false 1 false (demK r23) f23 u23 K) f23 u23 (fun r24 f24 u24 =>
  guardK false (demK r21) (fun K => hFa 4 (demK (look' 5 e)) f24 u24 K) f24 u24 (fun r25 f25 u25 =>
  guardK false (demK r21) (fun K => hLdS B false 1 false (demK r25) f25 u25 K) f25 u25 (fun r26 f26 u26 =>
  guardK false (demK r21) (fun K => hBinS B .lss false (demK r24) (demK r26) f26 u26 K) f26 u26 (fun r27 f27 u27 =>
  hPick  (demK (demK r21)) (.c (.p (pB true))) (demK r27) f27 u27 (fun r28 f28 u28 =>
  guardK false (demK r28) (fun K => hFa 4 (demK (look' 1 e)) f28 u28 K) f28 u28 (fun r30 f30 u30 =>
  guardK false (demK r28) (fun K => hLdS B false 1 false (demK r30) f30 u30 K) f30 u30 (fun r31 f31 u31 =>
  guardK false (demK r28) (fun K => hFa 5 (demK (look' 5 e)) f31 u31 K) f31 u31 (fun r32 f32 u32 =>
  guardK false (demK r28) (fun K => hLdS B false 1 false (demK r32) f32 u32 K) f32 u32 (fun r33 f33 u33 =>
  guardK false (demK r28) (fun K => hBinS B .gtr false (demK r31) (demK r33) f33 u33 K) f33 u33 (fun r34 f34 u34 =>
  hPick  (demK (demK r28)) (.c (.p (pB true))) (demK r34) f34 u34 (fun r35 f35 u35 =>
  headK (look' 1 e) (fun v1 => headK (look' 5 e) (fun v5 => headK r35 (fun v58 => k .normal [(1, v1), (5, v5), (58, v58)] f35 u35)))))))))))))))))))))))))))))))))))

noncomputable def q58_6 (B : Sy) (C : Go.ScE.Callee) : Env → Fram → List Fram → KX → R0 := fun e fr up k =>
  headK (.c (.p (pK .u32 0))) (fun v2 => headK (.c (.p (pI 200))) (fun v3 => k .normal [(2, v2), (3, v3)] fr up))

noncomputable def q58_7 (B : Sy) (C : Go.ScE.Callee) : Env → Fram → List Fram → KX → R0 := fun e fr up k =>
  hFa 4 (demK (look' 1 e)) fr up (fun r0 f0 u0 =>
  hLdS B false 1 false (demK r0) f0 u0 (fun r1 f1 u1 =>
  headK (look' 1 e) (fun v1 => headK (look' 5 e) (fun v5 => headK (demK r1) (fun v6 => k .normal [(1, v1), (5, v5), (6, v6)] f1 u1)))))

noncomputable def q58_8 (B : Sy) (C : Go.ScE.Callee) : Env → Fram → List Fram → KX → R0 := fun e fr up k =>
  hBinS B .lss false (demK (demK (look' 6 e))) (.c (.p (pI 0))) fr up (fun r1 f1 u1 =>
  headK (look' 1 e) (fun v1 => headK (look' 5 e) (fun v5 => headK (look' 6 e) (fun v6 => headK r1 (fun v62 => k .normal [(1, v1), (5, v5), (6, v6), (62, v62)] f1 u1)))))

noncomputable def q58_9 (B : Sy) (C : Go.ScE.Callee) : Env → Fram → List Fram → KX → R0 := fun e fr up k =>
  hFa 3 (demK (look' 5 e)) fr up (fun r1 f1 u1 =>
  hLdS B false 1 false (demK r1) f1 u1 (fun r2 f2 u2 =>
  hBinS B .shl false (.c (.p (pI 1))) (demK r2) f2 u2 (fun r3 f3 u3 =>
  hBinS B .add false (demK (demK (look' 6 e))) (demK r3) f3 u3 (fun r4 f4 u4 =>
  headK (look' 1 e) (fun v1 => headK (demK r4) (fun v6 => k .normal [(1, v1), (6, v6)] f4 u4))))))

noncomputable def q58_10 (B : Sy) (C : Go.ScE.Callee) : Env → Fram → List Fram → KX → R0 := fun e fr up k =>
  hFa 0 (demK (look' 1 e)) fr up (fun r0 f0 u0 =>
  hLdS B false 1 false (demK r0) f0 u0 (fun r1 f1 u1 =>
  hBinS B .mul false (demK r1) (.c (.p (pI 67108864))) f1 u1 (fun r2 f2 u2 =>
  hFa 1 (demK (look' 1 e)) f2 u2 (fun r3 f3 u3 =>
  hLdS B false 1 false (demK r3) f3 u3 (fun r4 f4 u4 =>
  hBinS B .mul false (demK r4) (.c (.p (pI 2097152))) f4 u4 (fun r5 f5 u5 =>
  hBinS B .add false (demK r2) (demK r5) f5 u5 (fun r6 f6 u6 =>
  hFa 2 (demK (look' 1 e)) f6 u6 (fun r7 f7 u7 =>
  hLdS B false 1 false (demK r7) f7 u7 (fun r8 f8 u8 =>
  hBinS B .mul false (demK r8) (.c (.p (pI 65536))) f8 u8 (fun r9 f9 u9 =>
  hBinS B .add false (demK r6) (demK r9) f9 u9 (fun r10 f10 u10 =>
  hFa 3 (demK (look' 1 e)) f10 u10 (fun r11 f11 u11 =>
  hLdS B false 1 false (demK r11) f11 u11 (fun r12 f12 u12 =>
  hBinS B .mul false (demK r12) (.c (.p (pI 2048))) f12 u12 (fun r13 f13 u13 =>
  hBinS B .add false (demK r10) (demK r13) f13 u13 (fun r14 f14 u14 =>
  hBinS B .add false (demK r14) (demK (demK (look' 6 e))) f14 u14 (fun r16 f16 u16 =>
  hCviS B .u32 (demK r16) f16 u16 (fun r17 f17 u17 =>
  headK (demK r17) (fun v2 => headK (.c (.p (pI 0))) (fun v3 => k .normal [(2, v2), (3, v3)] f17 u17)))))))))))))))))))

noncomputable def s58 : KS := fun B C n => seqK (q58_0 B C) (seqK (q58_1 B C) (seqK (seqK (q58_2 B C) (condK (.t 17) (seqK (q58_3 B C) (retK)) (skipK))) (seqK (q58_4 B C) (seqK (seqK (q58_5 B C) (condK (.t 58) (seqK (q58_6 B C) (retK)) (skipK))) (seqK (q58_7 B C) (seqK (seqK (q58_8 B C) (condK (.t 62) (q58_9 B C) (skipK))) (seqK (q58_10 B C) (retK))))))))
theorem s58_eq (B : Sy) (C : Go.ScE.Callee) (n : Nat) : s58 B C n = evS B C n x58.body := by kernel_rfl

noncomputable def q59_0 (B : Sy) (C : Go.ScE.Callee) : Env → Fram → List Fram → KX → R0 := fun e fr up k =>
  k .normal [] fr up

noncomputable def q59_1 (B : Sy) (C : Go.ScE.Callee) : Env → Fram → List Fram → KX → R0 := fun e fr up k =>
  hBld [(pB false), (pB false), (pB false), (pK .u64 0), (pI 0), (pI 0)] [(0, 1)] [(.c (.p (pB true)))] fr up (fun r0 f0 u0 =>
  hGen C (.alloc 0 true [(pB false), (pB false), (pB false), (pK .u64 0), (pI 0), (pI 0)]) [] f0 u0 (fun r1 f1 u1 =>
  hStS B 6 (demK r1) (demK r0) f1 u1 (fun r2 f2 u2 =>
  headK r1 (fun v1 => k .normal [(1, v1)] f2 u2))))

noncomputable def q59_2 (B : Sy) (C : Go.ScE.Callee) : Env → Fram → List Fram → KX → R0 := fun e fr up k =>
  hBld [(pB false), (pB false), (pB false), (pK .u64 0), (pI 0), (pI 0)] [(0, 1), (1, 1), (2, 1)] [(.c (.p (pB true))), (.c (.p (pB true))), (.c (.p (pB true)))] fr up (fun r0 f0 u0 =>
  hGen C (.alloc 1 true [(pB false), (pB false), (pB false), (pK .u64 0), (pI 0), (pI 0)]) [] f0 u0 (fun r1 f1 u1 =>
  hStS B 6 (demK r1) (demK r0) f1 u1 (fun r2 f2 u2 =>
  headK (look' 1 e) (fun v1 => headK r1 (fun v2 => k .normal [(1, v1), (2, v2)] f2 u2)))))

noncomputable def q59_3 (B : Sy) (C : Go.ScE.Callee) : Env → Fram → List Fram → KX → R0 := fun e fr up k =>
  hBld [(pB false), (pB false), (pB false), (pK .u64 0), (pI 0), (pI 0)] [(0, 1), (1, 1), (3, 1), (4, 1), (5, 1)] [(.c (.p (pB true))), (.c (.p (pB true))), (.c (.p (pK .u64 16))), (.c (.p (pI (-32768)))), (.c (.p (pI 32767)))] fr up (fun r0 f0 u0 =>
  hGen C (.alloc 2 true [(pB false), (pB false), (pB false), (pK .u64 0), (pI 0), (pI 0)]) [] f0 u0 (fun r1 f1 u1 =>
  hStS B 6 (demK r1) (demK r0) f1 u1 (fun r2 f2 u2 =>
  headK (look' 1 e) (fun v1 => headK (look' 2 e) (fun v2 => headK r1 (fun v3 => k .normal [(1, v1), (2, v2), (3, v3)] f2 u2))))))

noncomputable def q59_4 (B : Sy) (C : Go.ScE.Callee) : Env → Fram → List Fram → KX → R0 := fun e fr up k =>
  hBld [(pB false), (pB false), (pB false), (pK .u64 0), (pI 0), (pI 0)] [(0, 1), (1, 1), (3, 1), (5, 1)] [(.c (.p (pB true))), (.c (.p (pB true))), (.c (.p (pK .u64 16))), (.c (.p (pI 65535)))] fr up (fun r0 f0 u0 =>
  hGen C (.alloc 3 true [(pB false), (pB false), (pB false), (pK .u64 0), (pI 0), (pI 0)]) [] f0 u0 (fun r1 f1 u1 =>
  hStS B 6 (demK r1) (demK r0) f1 u1 (fun r2 f2 u2 =>
  headK (look' 1 e) (fun v1 => headK (look' 2 e) (fun v2 => headK (look' 3 e) (fun v3 => headK r1 (fun v4 => k .normal [(1, v1), (2, v2), (3, v3), (4, v4)] f2 u2)))))))

noncomputable def q59_5 (B : Sy) (C : Go.ScE.Callee) : Env → Fram → List Fram → KX → R0 := fun e fr up k =>
  hBld [(pB false), (pB false), (pB false), (pK .u64 0), (pI 0), (pI 0)] [(0, 1), (1, 1), (3, 1), (5, 1)] [(.c (.p (pB true))), (.c (.p (pB true))), (.c (.p (pK .u64 16))), (.c (.p (pI 63)))] fr up (fun r0 f0 u0 =>
  hGen C (.alloc 4 true [(pB false), (pB false), (pB false), (pK .u64 0), (pI 0), (pI 0)]) [] f0 u0 (fun r1 f1 u1 =>
  hStS B 6 (demK r1) (demK r0) f1 u1 (fun r2 f2 u2 =>
  headK (look' 1 e) (fun v1 => headK (look' 2 e) (fun v2 => headK (look' 3 e) (fun v3 => headK (look' 4 e) (fun v4 => headK r1 (fun v5 => k .normal [(1, v1), (2, v2), (3, v3), (4, v4), (5, v5)] f2 u2))))))))

noncomputable def q59_6 (B : Sy) (C : Go.ScE.Callee) : Env → Fram → List Fram → KX → R0 := fun e fr up k =>
  hBld [(pB false), (pB false), (pB false), (pK .u64 0), (pI 0), (pI 0)] [(0, 1), (1, 1), (3, 1), (4, 1), (5, 1)] [(.c (.p (pB true))), (.c (.p (pB true))), (.c (.p (pK .u64 10))), (.c (.p (pI (-512)))), (.c (.p (pI 511)))] fr up (fun r0 f0 u0 =>
  hGen C (.alloc 5 true [(pB false), (pB false), (pB false), (pK .u64 0), (pI 0), (pI 0)]) [] f0 u0 (fun r1 f1 u1 =>
  hStS B 6 (demK r1) (demK r0) f1 u1 (fun r2 f2 u2 =>
  headK (look' 1 e) (fun v1 => headK (look' 2 e) (fun v2 => headK (look' 3 e) (fun v3 => headK (look' 4 e) (fun v4 => headK (look' 5 e) (fun v5 => headK r1 (fun v6 => k .normal [(1, v1), (2, v2), (3, v3), (4, v4), (5, v5), (6, v6)] f2 u2)))))))))

noncomputable def q59_7 (B : Sy) (C : Go.ScE.Callee) : Env → Fram → List Fram → KX → R0 := fun e fr up k =>
  hLdS B true 6 false (demK (look' 1 e)) fr up (fun r0 f0 u0 =>
  hBlds 6 [(pB false), (pB false), (pB false), (pK .u64 0), (pI 0), (pI 0)] 1 [0] [(demK r0)] f0 u0 (fun r1 f1 u1 =>
  headK (look' 1 e) (fun v1 => headK (look' 2 e) (fun v2 => headK (look' 3 e) (fun v3 => headK (look' 4 e) (fun v4 => headK (look' 5 e) (fun v5 => headK (look' 6 e) (fun v6 => headK r1 (fun v7 => k .normal [(1, v1), (2, v2), (3, v3), (4, v4), (5, v5), (6, v6), (7, v7)] f1 u1)))))))))

noncomputable def q59_8 (B : Sy) (C : Go.ScE.Callee) : Env → Fram → List Fram → KX → R0 := fun e fr up k =>
  headK (look' 1 e) (fun v1 => headK (look' 2 e) (fun v2 => headK (look' 3 e) (fun v3 => headK (look' 4 e) (fun v4 => headK (look' 5 e) (fun v5 => headK (look' 6 e) (fun v6 => headK (look' 7 e) (fun v7 => headK (.c (.p (pI 0))) (fun v8 => k .normal [(1, v1), (2, v2), (3, v3), (4, v4), (5, v5), (6, v6), (7, v7), (8, v8)] fr up))))))))

noncomputable def q59_9 (B : Sy) (C : Go.ScE.Callee) : Env → Fram → List Fram → KX → R0 := fun e fr up k =>
  hBinS B .lss false (demK (demK (look' 8 e))) (.c (.p (pI 14))) fr up (fun r1 f1 u1 =>
  headK (look' 1 e) (fun v1 => headK (look' 2 e) (fun v2 => headK (look' 3 e) (fun v3 => headK (look' 4 e) (fun v4 => headK (look' 5 e) (fun v5 => headK (look' 6 e) (fun v6 => headK (look' 7 e) (fun v7 => headK (look' 8 e) (fun v8 => headK r1 (fun v18 => k .normal [(1, v1), (2, v2), (3, v3), (4, v4), (5, v5), (6, v6), (7, v7), (8, v8), (18, v18)] f1 u1))))))))))

noncomputable def q59_10 (B : Sy) (C : Go.ScE.Callee) : Env → Fram → List Fram → KX → R0 := fun e fr up k =>
  hLdS B true 6 false (demK (look' 2 e)) fr up (fun r1 f1 u1 =>
  hBlds 6 [(pB false), (pB false), (pB false), (pK .u64 0), (pI 0), (pI 0)] 1 [0] [(demK r1)] f1 u1 (fun r2 f2 u2 =>
  hApp 6 32 (look' 7 e) (demK r2) f2 u2 (fun r3 f3 u3 =>
  headK (look' 1 e) (fun v1 => headK (look' 2 e) (fun v2 => headK (look' 3 e) (fun v3 => headK (look' 4 e) (fun v4 => headK (look' 5 e) (fun v5 => headK (look' 6 e) (fun v6 => headK r3 (fun v7 => headK (look' 8 e) (fun v8 => k .normal [(1, v1), (2, v2), (3, v3), (4, v4), (5, v5), (6, v6), (7, v7), (8, v8)] f3 u3)))))))))))

noncomputable def q59_11 (B : Sy) (C : Go.ScE.Callee) : Env → Fram → List Fram → KX → R0 := fun e fr up k =>
  hBinS B .add false (demK (demK (look' 8 e))) (.c (.p (pI 1))) fr up (fun r1 f1 u1 =>
  headK (look' 1 e) (fun v1 => headK (look' 2 e) (fun v2 => headK (look' 3 e) (fun v3 => headK (look' 4 e) (fun v4 => headK (look' 5 e) (fun v5 => headK (look' 6 e) (fun v6 => headK (look' 7 e) (fun v7 => headK (demK r1) (fun v8 => k .normal [(1, v1), (2, v2), (3, v3), (4, v4), (5, v5), (6, v6), (7, v7), (8, v8)] f1 u1)))))))))

noncomputable def q59_12 (B : Sy) (C : Go.ScE.Callee) : Env → Fram → List Fram → KX → R0 := fun e fr up k =>
  hLdS B true 6 false (demK (look' 3 e)) fr up (fun r1 f1 u1 =>
  hLdS B true 6 false (demK (look' 4 e)) f1 u1 (fun r2 f2 u2 =>
  hLdS B true 6 false (demK (look' 4 e)) f2 u2 (fun r3 f3 u3 =>
  hLdS B true 6 false (demK (look' 5 e)) f3 u3 (fun r4 f4 u4 =>
  hLdS B true 6 false (demK (look' 5 e)) f4 u4 (fun r5 f5 u5 =>
  hBlds 6 [(pB false), (pB false), (pB false), (pK .u64 0), (pI 0), (pI 0)] 5 [0, 1, 2, 3, 4] [(demK r1), (demK r2), (demK r3), (demK r4), (demK r5)] f5 u5 (fun r6 f6 u6 =>
  hApp 6 32 (look' 7 e) (demK r6) f6 u6 (fun r7 f7 u7 =>
  headK (look' 1 e) (fun v1 => headK (look' 3 e) (fun v3 => headK (look' 6 e) (fun v6 => headK r7 (fun v7 => k .normal [(1, v1), (3, v3), (6, v6), (7, v7)] f7 u7)))))))))))

noncomputable def q59_13 (B : Sy) (C : Go.ScE.Callee) : Env → Fram → List Fram → KX → R0 := fun e fr up k =>
  hBld [(pB false), (pB false), (pB false), (pK .u64 0), (pI 0), (pI 0)] [(0, 1), (3, 1), (4, 1), (5, 1)] [(.c (.p (pB true))), (.c (.p (pK .u64 16))), (.c (.p (pI (-32768)))), (.c (.p (pI 32767)))] fr up (fun r1 f1 u1 =>
  hBld [(pB false), (pB false), (pB false), (pK .u64 0), (pI 0), (pI 0)] [(0, 1), (3, 1), (5, 1)] [(.c (.p (pB true))), (.c (.p (pK .u64 16))), (.c (.p (pI 65535)))] f1 u1 (fun r2 f2 u2 =>
  hLdS B true 6 false (demK (look' 3 e)) f2 u2 (fun r3 f3 u3 =>
  hLdS B true 6 false (demK (look' 3 e)) f3 u3 (fun r4 f4 u4 =>
  hBlds 6 [(pB false), (pB false), (pB false), (pK .u64 0), (pI 0), (pI 0)] 4 [0, 1, 2, 3] [(demK r1), (demK r2), (demK r3), (demK r4)] f4 u4 (fun r5 f5 u5 =>
  hApp 6 32 (look' 7 e) (demK r5) f5 u5 (fun r6 f6 u6 =>
  headK (look' 1 e) (fun v1 => headK (look' 6 e) (fun v6 => headK r6 (fun v7 => k .normal [(1, v1), (6, v6), (7, v7)] f6 u6)))))))))

noncomputable def q59_14 (B : Sy) (C : Go.ScE.Callee) : Env → Fram → List Fram → KX → R0 := fun e fr up k =>
  hLdS B true 6 false (demK (look' 6 e)) fr up (fun r1 f1 u1 =>
  hLdS B true 6 false (demK (look' 6 e)) f1 u1 (fun r2 f2 u2 =>
  hLdS B true 6 false (demK (look' 6 e)) f2 u2 (fun r3 f3 u3 =>
  hLdS B true 6 false (demK (look' 6 e)) f3 u3 (fun r4 f4 u4 =>
  hBlds 6 [(pB false), (pB false), (pB false), (pK .u64 0), (pI 0), (pI 0)] 4 [0, 1, 2, 3] [(demK r1), (demK r2), (demK r3), (demK r4)] f4 u4 (fun r5 f5 u5 =>
  hApp 6 32 (look' 7 e) (demK r5) f5 u5 (fun r6 f6 u6 =>
  headK (look' 1 e) (fun v1 => headK r6 (fun v7 => k .normal [(1, v1), (7, v7)] f6 u6))))))))

noncomputable def q59_15 (B : Sy) (C : Go.ScE.Callee) : Env → Fram → List Fram → KX → R0 := fun e fr up k =>
  hBld [(pB false), (pB false), (pB false), (pK .u64 0), (pI 0), (pI 0)] [(0, 1), (3, 1), (4, 1), (5, 1)] [(.c (.p (pB true))), (.c (.p (pK .u64 21))), (.c (.p (pI (-1048576)))), (.c (.p (pI 1048575)))] fr up (fun r1 f1 u1 =>
  hBld [(pB false), (pB false), (pB false), (pK .u64 0), (pI 0), (pI 0)] [(0, 1), (1, 1)] [(.c (.p (pB true))), (.c (.p (pB true)))] f1 u1 (fun r2 f2 u2 =>
  hLdS B true 6 false (demK (look' 1 e)) f2 u2 (fun r3 f3 u3 =>
  hLdS B true 6 false (demK (look' 1 e)) f3 u3 (fun r4 f4 u4 =>
  hBlds 6 [(pB false), (pB false), (pB false), (pK .u64 0), (pI 0), (pI 0)] 4 [0, 1, 2, 3] [(demK r1), (demK r2), (demK r3), (demK r4)] f4 u4 (fun r5 f5 u5 =>
  hApp 6 32 (look' 7 e) (demK r5) f5 u5 (fun r6 f6 u6 =>
  headK r6 (fun v7 => k .normal [(7, v7)] f6 u6)))))))

noncomputable def q59_16 (B : Sy) (C : Go.ScE.Callee) : Env → Fram → List Fram → KX → R0 := fun e fr up k =>
  headK (look' 7 e) (fun v0 => k .normal [(0, v0)] fr up)

noncomputable def s59 : KS := fun B C n => seqK (q59_0 B C) (seqK (q59_1 B C) (seqK (q59_2 B C) (seqK (q59_3 B C) (seqK (q59_4 B C) (seqK (q59_5 B C) (seqK (q59_6 B C) (seqK (q59_7 B C) (seqK (seqK (q59_8 B C) (blockK 0 (loopsK [1, 2, 3, 4, 5, 6, 7, 8] [0, 1, 2, 3, 4, 5] (seqK (seqK (q59_9 B C) (condK (.t 18) (skipK) (exitK 0))) (seqK (blockK 1 (q59_10 B C)) (q59_11 B C))) n))) (seqK (q59_12 B C) (seqK (q59_13 B C) (seqK (q59_14 B C) (seqK (q59_15 B C) (seqK (q59_16 B C) (retK))))))))))))))
theorem s59_eq (B : Sy) (C : Go.ScE.Callee) (n : Nat) : s59 B C n = evS B C n x59.body := by kernel_rfl

noncomputable def q60_0 (B : Sy) (C : Go.ScE.Callee) : Env → Fram → List Fram → KX → R0 := fun e fr up k =>
  headK (look' 0 e) (fun v0 => headK (look' 1 e) (fun v1 => headK (look' 2 e) (fun v2 => k .normal [(0, v0), (1, v1), (2, v2)] fr up)))

noncomputable def q60_1 (B : Sy) (C : Go.ScE.Callee) : Env → Fram → List Fram → KX → R0 := fun e fr up k =>
  headK (look' 1 e) (fun v1 => headK (look' 2 e) (fun v2 => headK (demK (look' 0 e)) (fun v7 => k .normal [(1, v1), (2, v2), (7, v7)] fr up)))

noncomputable def q60_2 (B : Sy) (C : Go.ScE.Callee) : Env → Fram → List Fram → KX → R0 := fun e fr up k =>
  hBinS B .eql false (demK (look' 7 e)) (.c (.p (pI 1))) fr up (fun r0 f0 u0 =>
  headK (look' 1 e) (fun v1 => headK (look' 2 e) (fun v2 => headK (look' 7 e) (fun v7 => headK (demK r0) (fun v8 => k .normal [(1, v1), (2, v2), (7, v7), (8, v8)] f0 u0)))))

noncomputable def q60_3 (B : Sy) (C : Go.ScE.Callee) : Env → Fram → List Fram → KX → R0 := fun e fr up k =>
  hBinS B .add false (demK (demK (look' 1 e))) (demK (demK (look' 2 e))) fr up (fun r2 f2 u2 =>
  headK (demK r2) (fun v6 => k .normal [(6, v6)] f2 u2))

noncomputable def q60_4 (B : Sy) (C : Go.ScE.Callee) : Env → Fram → List Fram → KX → R0 := fun e fr up k =>
  hBinS B .eql false (demK (look' 7 e)) (.c (.p (pI 2))) fr up (fun r0 f0 u0 =>
  headK (look' 1 e) (fun v1 => headK (look' 2 e) (fun v2 => headK (look' 7 e) (fun v7 => headK (demK r0) (fun v13 => k .normal [(1, v1), (2, v2), (7, v7), (13, v13)] f0 u0)))))

noncomputable def q60_5 (B : Sy) (C : Go.ScE.Callee) : Env → Fram → List Fram → KX → R0 := fun e fr up k =>
  hBinS B .sub false (demK (demK (look' 1 e))) (demK (demK (look' 2 e))) fr up (fun r2 f2 u2 =>
  headK (demK r2) (fun v6 => k .normal [(6, v6)] f2 u2))

noncomputable def q60_6 (B : Sy) (C : Go.ScE.Callee) : Env → Fram → List Fram → KX → R0 := fun e fr up k =>
  hBinS B .eql false (demK (look' 7 e)) (.c (.p (pI 3))) fr up (fun r0 f0 u0 =>
  headK (look' 1 e) (fun v1 => headK (look' 2 e) (fun v2 => headK (look' 7 e) (fun v7 => headK (demK r0) (fun v18 => k .normal [(1, v1), (2, v2), (7, v7), (18, v18)] f0 u0)))))

noncomputable def q60_7 (B : Sy) (C : Go.ScE.Callee) : Env → Fram → List Fram → KX → R0 := fun e fr up k =>
  hBinS B .mul false (demK (demK (look' 1 e))) (demK (demK (look' 2 e))) fr up (fun r2 f2 u2 =>
  headK (demK r2) (fun v6 => k .normal [(6, v6)] f2 u2))

noncomputable def q60_8 (B : Sy) (C : Go.ScE.Callee) : Env → Fram → List Fram → KX → R0 := fun e fr up k =>
  hBinS B .eql false (demK (look' 7 e)) (.c (.p (pI 4))) fr up (fun r0 f0 u0 =>
  headK (look' 1 e) (fun v1 => headK (look' 2 e) (fun v2 => headK (look' 7 e) (fun v7 => headK (demK r0) (fun v23 => k .normal [(1, v1), (2, v2), (7, v7), (23, v23)] f0 u0)))))

noncomputable def q60_9 (B : Sy) (C : Go.ScE.Callee) : Env → Fram → List Fram → KX → R0 := fun e fr up k =>
  hCall C 66 [(demK (demK (look' 1 e))), (demK (demK (look' 2 e)))] fr up (fun r2 f2 u2 =>
  headK (demK r2) (fun v6 => k .normal [(6, v6)] f2 u2))

noncomputable def q60_10 (B : Sy) (C : Go.ScE.Callee) : Env → Fram → List Fram → KX → R0 := fun e fr up k =>
  hBinS B .eql false (demK (look' 7 e)) (.c (.p (pI 5))) fr up (fun r0 f0 u0 =>
  headK (look' 1 e) (fun v1 => headK (look' 2 e) (fun v2 => headK (look' 7 e) (fun v7 => headK (demK r0) (fun v28 => k .normal [(1, v1), (2, v2), (7, v7), (28, v28)] f0 u0)))))

noncomputable def q60_11 (B : Sy) (C : Go.ScE.Callee) : Env → Fram → List Fram → KX → R0 := fun e fr up k =>
  hBinS B .quo false (demK (demK (look' 1 e))) (demK (demK (look' 2 e))) fr up (fun r2 f2 u2 =>
  headK (demK r2) (fun v6 => k .normal [(6, v6)] f2 u2))

noncomputable def q60_12 (B : Sy) (C : Go.ScE.Callee) : Env → Fram → List Fram → KX → R0 := fun e fr up k =>
  hBinS B .eql false (demK (look' 7 e)) (.c (.p (pI 6))) fr up (fun r0 f0 u0 =>
  headK (look' 1 e) (fun v1 => headK (look' 2 e) (fun v2 => headK (look' 7 e) (fun v7 => headK (demK r0) (fun v33 => k .normal [(1, v1), (2, v2), (7, v7), (33, v33)] f0 u0)))))

noncomputable def q60_13 (B : Sy) (C : Go.ScE.Callee) : Env → Fram → List Fram → KX → R0 := fun e fr up k =>
  hBinS B .quo false (demK (demK (look' 1 e))) (demK (demK (look' 2 e))) fr up (fun r3 f3 u3 =>
  hBinS B .mul false (demK r3) (demK (demK (look' 2 e))) f3 u3 (fun r5 f5 u5 =>
  hBinS B .sub false (demK (demK (look' 1 e))) (demK r5) f5 u5 (fun r6 f6 u6 =>
  headK (demK r6) (fun v6 => k .normal [(6, v6)] f6 u6))))

noncomputable def q60_14 (B : Sy) (C : Go.ScE.Callee) : Env → Fram → List Fram → KX → R0 := fun e fr up k =>
  hBinS B .eql false (demK (look' 7 e)) (.c (.p (pI 7))) fr up (fun r0 f0 u0 =>
  headK (look' 1 e) (fun v1 => headK (look' 2 e) (fun v2 => headK (look' 7 e) (fun v7 => headK (demK r0) (fun v42 => k .normal [(1, v1), (2, v2), (7, v7), (42, v42)] f0 u0)))))

noncomputable def q60_15 (B : Sy) (C : Go.ScE.Callee) : Env → Fram → List Fram → KX → R0 := fun e fr up k =>
  hBinS B .and false (demK (demK (look' 1 e))) (demK (demK (look' 2 e))) fr up (fun r2 f2 u2 =>
  headK (demK r2) (fun v6 => k .normal [(6, v6)] f2 u2))

noncomputable def q60_16 (B : Sy) (C : Go.ScE.Callee) : Env → Fram → List Fram → KX → R0 := fun e fr up k =>
  hBinS B .eql false (demK (look' 7 e)) (.c (.p (pI 8))) fr up (fun r0 f0 u0 =>
  headK (look' 1 e) (fun v1 => headK (look' 2 e) (fun v2 => headK (look' 7 e) (fun v7 => headK (demK r0) (fun v47 => k .normal [(1, v1), (2, v2), (7, v7), (47, v47)] f0 u0)))))

noncomputable def q60_17 (B : Sy) (C : Go.ScE.Callee) : Env → Fram → List Fram → KX → R0 := fun e fr up k =>
  hBinS B .or false (demK (demK (look' 1 e))) (demK (demK (look' 2 e))) fr up (fun r2 f2 u2 =>
  headK (demK r2) (fun v6 => k .normal [(6, v6)] f2 u2))

noncomputable def q60_18 (B : Sy) (C : Go.ScE.Callee) : Env → Fram → List Fram → KX → R0 := fun e fr up k =>
  hBinS B .eql false (demK (look' 7 e)) (.c (.p (pI 9))) fr up (fun r0 f0 u0 =>
  headK (look' 1 e) (fun v1 => headK (look' 2 e) (fun v2 => headK (look' 7 e) (fun v7 => headK (demK r0) (fun v52 => k .normal [(1, v1), (2, v2), (7, v7), (52, v52)] f0 u0)))))

noncomputable def q60_19 (B : Sy) (C : Go.ScE.Callee) : Env → Fram → List Fram → KX → R0 := fun e fr up k =>
  hBinS B .xor false (demK (demK (look' 1 e))) (demK (demK (look' 2 e))) fr up (fun r2 f2 u2 =>
  headK (demK r2) (fun v6 => k .normal [(6, v6)] f2 u2))

noncomputable def q60_20 (B : Sy) (C : Go.ScE.Callee) : Env → Fram → List Fram → KX → R0 := fun e fr up k =>
  hBinS B .eql false (demK (look' 7 e)) (.c (.p (pI 10))) fr up (fun r0 f0 u0 =>
  headK (look' 1 e) (fun v1 => headK (look' 2 e) (fun v2 => headK (look' 7 e) (fun v7 => headK (demK r0) (fun v57 => k .normal [(1, v1), (2, v2), (7, v7), (57, v57)] f0 u0)))))

noncomputable def q60_21 (B : Sy) (C : Go.ScE.Callee) : Env → Fram → List Fram → KX → R0 := fun e fr up k =>
  hBinS B .and false (demK (demK (look' 2 e))) (.c (.p (pI 63))) fr up (fun r2 f2 u2 =>
  hCviS B .u64 (demK r2) f2 u2 (fun r3 f3 u3 =>
  hBinS B .shl false (demK (demK (look' 1 e))) (demK r3) f3 u3 (fun r4 f4 u4 =>
  headK (demK r4) (fun v6 => k .normal [(6, v6)] f4 u4))))

noncomputable def q60_22 (B : Sy) (C : Go.ScE.Callee) : Env → Fram → List Fram → KX → R0 := fun e fr up k =>
  hBinS B .eql false (demK (look' 7 e)) (.c (.p (pI 11))) fr up (fun r0 f0 u0 =>
  headK (look' 1 e) (fun v1 => headK (look' 2 e) (fun v2 => headK (look' 7 e) (fun v7 => headK (demK r0) (fun v64 => k .normal [(1, v1), (2, v2), (7, v7), (64, v64)] f0 u0)))))

noncomputable def q60_23 (B : Sy) (C : Go.ScE.Callee) : Env → Fram → List Fram → KX → R0 := fun e fr up k =>
  hBinS B .and false (demK (demK (look' 2 e))) (.c (.p (pI 63))) fr up (fun r2 f2 u2 =>
  hCviS B .u64 (demK r2) f2 u2 (fun r3 f3 u3 =>
  hBinS B .shr false (demK (demK (look' 1 e))) (demK r3) f3 u3 (fun r4 f4 u4 =>
  headK (demK r4) (fun v6 => k .normal [(6, v6)] f4 u4))))

noncomputable def q60_24 (B : Sy) (C : Go.ScE.Callee) : Env → Fram → List Fram → KX → R0 := fun e fr up k =>
  hBinS B .eql false (demK (look' 7 e)) (.c (.p (pI 12))) fr up (fun r0 f0 u0 =>
  headK (look' 1 e) (fun v1 => headK (look' 2 e) (fun v2 => headK (look' 7 e) (fun v7 => headK (demK r0) (fun v71 => k .normal [(1, v1), (2, v2), (7, v7), (71, v71)] f0 u0)))))

noncomputable def q60_25 (B : Sy) (C : Go.ScE.Callee) : Env → Fram → List Fram → KX → R0 := fun e fr up k =>
  hCviS B .u64 (demK (demK (look' 1 e))) fr up (fun r1 f1 u1 =>
  hBinS B .and false (demK (demK (look' 2 e))) (.c (.p (pI 63))) f1 u1 (fun r3 f3 u3 =>
  hCviS B .u64 (demK r3) f3 u3 (fun r4 f4 u4 =>
  hBinS B .shr false (demK r1) (demK r4) f4 u4 (fun r5 f5 u5 =>
  hCviS B .i64 (demK r5) f5 u5 (fun r6 f6 u6 =>
  headK (demK r6) (fun v6 => k .normal [(6, v6)] f6 u6))))))

noncomputable def q60_26 (B : Sy) (C : Go.ScE.Callee) : Env → Fram → List Fram → KX → R0 := fun e fr up k =>
  hBinS B .eql false (demK (look' 7 e)) (.c (.p (pI 13))) fr up (fun r0 f0 u0 =>
  headK (look' 1 e) (fun v1 => headK (look' 2 e) (fun v2 => headK (demK r0) (fun v80 => k .normal [(1, v1), (2, v2), (80, v80)] f0 u0))))

noncomputable def q60_27 (B : Sy) (C : Go.ScE.Callee) : Env → Fram → List Fram → KX → R0 := fun e fr up k =>
  hBinS B .lss false (demK (demK (look' 1 e))) (demK (demK (look' 2 e))) fr up (fun r2 f2 u2 =>
  headK r2 (fun v84 => k .normal [(84, v84)] f2 u2))

noncomputable def q60_28 (B : Sy) (C : Go.ScE.Callee) : Env → Fram → List Fram → KX → R0 := fun e fr up k =>
  headK (.c (.p (pI 1))) (fun v6 => k .normal [(6, v6)] fr up)

noncomputable def q60_29 (B : Sy) (C : Go.ScE.Callee) : Env → Fram → List Fram → KX → R0 := fun e fr up k =>
  headK (.c (.p (pI 0))) (fun v6 => k .normal [(6, v6)] fr up)

noncomputable def q60_30 (B : Sy) (C : Go.ScE.Callee) : Env → Fram → List Fram → KX → R0 := fun e fr up k =>
  hCviS B .u64 (demK (demK (look' 1 e))) fr up (fun r1 f1 u1 =>
  hCviS B .u64 (demK (demK (look' 2 e))) f1 u1 (fun r3 f3 u3 =>
  hBinS B .lss false (demK r1) (demK r3) f3 u3 (fun r4 f4 u4 =>
  headK r4 (fun v89 => k .normal [(89, v89)] f4 u4))))

noncomputable def q60_31 (B : Sy) (C : Go.ScE.Callee) : Env → Fram → List Fram → KX → R0 := fun e fr up k =>
  headK (.c (.p (pI 1))) (fun v6 => k .normal [(6, v6)] fr up)

noncomputable def q60_32 (B : Sy) (C : Go.ScE.Callee) : Env → Fram → List Fram → KX → R0 := fun e fr up k =>
  headK (.c (.p (pI 0))) (fun v6 => k .normal [(6, v6)] fr up)

noncomputable def s60 : KS := fun B C n => seqK (q60_0 B C) (seqK (seqK (q60_1 B C) (blockK 0 (seqK (q60_2 B C) (condK (.t 8) (seqK (q60_3 B C) (retK)) (seqK (q60_4 B C) (condK (.t 13) (seqK (q60_5 B C) (retK)) (seqK (q60_6 B C) (condK (.t 18) (seqK (q60_7 B C) (retK)) (seqK (q60_8 B C) (condK (.t 23) (seqK (q60_9 B C) (retK)) (seqK (q60_10 B C) (condK (.t 28) (seqK (q60_11 B C) (retK)) (seqK (q60_12 B C) (condK (.t 33) (seqK (q60_13 B C) (retK)) (seqK (q60_14 B C) (condK (.t 42) (seqK (q60_15 B C) (retK)) (seqK (q60_16 B C) (condK (.t 47) (seqK (q60_17 B C) (retK)) (seqK (q60_18 B C) (condK (.t 52) (seqK (q60_19 B C) (retK)) (seqK (q60_20 B C) (condK (.t 57) (seqK (q60_21 B C) (retK)) (seqK (q60_22 B C) (condK (.t 64) (seqK (q60_23 B C) (retK)) (seqK (q60_24 B C) (condK (.t 71) (seqK (q60_25 B C) (retK)) (seqK (q60_26 B C) (condK (.t 80) (seqK (seqK (q60_27 B C) (condK (.t 84) (seqK (q60_28 B C) (retK)) (skipK))) (seqK (q60_29 B C) (retK))) (skipK))))))))))))))))))))))))))))) (seqK (seqK (q60_30 B C) (condK (.t 89) (seqK (q60_31 B C) (retK)) (skipK))) (seqK (q60_32 B C) (retK))))
theorem s60_eq (B : Sy) (C : Go.ScE.Callee) (n : Nat) : s60 B C n = evS B C n x60.body := by kernel_rfl

noncomputable def q61_0 (B : Sy) (C : Go.ScE.Callee) : Env → Fram → List Fram → KX → R0 := fun e fr up k =>
  hBld [(pI 0), (pI 0), (pI 0), (pI 0), (pI 0)] [(0, 1), (1, 1)] [(.c (.p (pI 20))), (demK (demK (look' 1 e)))] fr up (fun r2 f2 u2 =>
  hBld [(pI 0), (pI 0), (pI 0), (pI 0), (pI 0), (pI 0), (pI 0), (pI 0)] [(0, 1), (1, 5), (6, 1)] [(.c (.p (pI 5))), (demK r2), (demK (demK (look' 2 e)))] f2 u2 (fun r4 f4 u4 =>
  hCall C 53 [(demK (demK (look' 0 e))), (demK r4)] f4 u4 (fun r5 f5 u5 =>
  k .normal [] f5 u5)))

noncomputable def s61 : KS := fun B C n => q61_0 B C
theorem s61_eq (B : Sy) (C : Go.ScE.Callee) (n : Nat) : s61 B C n = evS B C n x61.body := by kernel_rfl

noncomputable def q62_0 (B : Sy) (C : Go.ScE.Callee) : Env → Fram → List Fram → KX → R0 := fun e fr up k =>
  headK (look' 0 e) (fun v0 => headK (look' 1 e) (fun v1 => k .normal [(0, v0), (1, v1)] fr up))

noncomputable def q62_1 (B : Sy) (C : Go.ScE.Callee) : Env → Fram → List Fram → KX → R0 := fun e fr up k =>
  hBlds 1 [(pI 0)] 1 [0] [(.c (.p (pI 0)))] fr up (fun r0 f0 u0 =>
  headK (look' 0 e) (fun v0 => headK (look' 1 e) (fun v1 => headK r0 (fun v5 => k .normal [(0, v0), (1, v1), (5, v5)] f0 u0))))

noncomputable def q62_2 (B : Sy) (C : Go.ScE.Callee) : Env → Fram → List Fram → KX → R0 := fun e fr up k =>
  headK (look' 0 e) (fun v0 => headK (look' 1 e) (fun v1 => headK (look' 5 e) (fun v5 => headK (.c (.p (pI 0))) (fun v6 => k .normal [(0, v0), (1, v1), (5, v5), (6, v6)] fr up))))

noncomputable def q62_3 (B : Sy) (C : Go.ScE.Callee) : Env → Fram → List Fram → KX → R0 := fun e fr up k =>
  headK (look' 0 e) (fun v0 => headK (look' 1 e) (fun v1 => headK (look' 5 e) (fun v5 => headK (look' 6 e) (fun v6 => headK (.c (.p (pI 0))) (fun v7 => k .normal [(0, v0), (1, v1), (5, v5), (6, v6), (7, v7)] fr up)))))

noncomputable def q62_4 (B : Sy) (C : Go.ScE.Callee) : Env → Fram → List Fram → KX → R0 := fun e fr up k =>
  hLenLS B  (demK (demK (look' 0 e))) fr up (fun r2 f2 u2 =>
  hBinS B .lss false (demK (demK (look' 7 e))) (demK r2) f2 u2 (fun r3 f3 u3 =>
  headK (look' 0 e) (fun v0 => headK (look' 1 e) (fun v1 => headK (look' 5 e) (fun v5 => headK (look' 6 e) (fun v6 => headK (look' 7 e) (fun v7 => headK r3 (fun v13 => k .normal [(0, v0), (1, v1), (5, v5), (6, v6), (7, v7), (13, v13)] f3 u3))))))))

noncomputable def q62_5 (B : Sy) (C : Go.ScE.Callee) : Env → Fram → List Fram → KX → R0 := fun e fr up k =>
  headK (look' 0 e) (fun v0 => headK (look' 1 e) (fun v1 => headK (look' 5 e) (fun v5 => headK (look' 6 e) (fun v6 => headK (look' 7 e) (fun v7 => headK (.c (.p (pI 1))) (fun v8 => k .normal [(0, v0), (1, v1), (5, v5), (6, v6), (7, v7), (8, v8)] fr up))))))

noncomputable def q62_6 (B : Sy) (C : Go.ScE.Callee) : Env → Fram → List Fram → KX → R0 := fun e fr up k =>
  hIaS B 8 (demK (demK (look' 0 e))) (demK (demK (look' 7 e))) fr up (fun r2 f2 u2 =>
  hFa 0 (demK r2) f2 u2 (fun r3 f3 u3 =>
  hLdS B false 1 false (demK r3) f3 u3 (fun r4 f4 u4 =>
  headK (look' 0 e) (fun v0 => headK (look' 1 e) (fun v1 => headK (look' 5 e) (fun v5 => headK (look' 6 e) (fun v6 => headK (look' 7 e) (fun v7 => headK (look' 8 e) (fun v8 => headK r4 (fun v20 => k .normal [(0, v0), (1, v1), (5, v5), (6, v6), (7, v7), (8, v8), (20, v20)] f4 u4))))))))))

noncomputable def q62_7 (B : Sy) (C : Go.ScE.Callee) : Env → Fram → List Fram → KX → R0 := fun e fr up k =>
  hBinS B .eql false (demK (look' 20 e)) (.c (.p (pI 1))) fr up (fun r0 f0 u0 =>
  headK (look' 0 e) (fun v0 => headK (look' 1 e) (fun v1 => headK (look' 5 e) (fun v5 => headK (look' 6 e) (fun v6 => headK (look' 7 e) (fun v7 => headK (look' 8 e) (fun v8 => headK (look' 20 e) (fun v20 => headK (demK r0) (fun v21 => k .normal [(0, v0), (1, v1), (5, v5), (6, v6), (7, v7), (8, v8), (20, v20), (21, v21)] f0 u0)))))))))

noncomputable def q62_8 (B : Sy) (C : Go.ScE.Callee) : Env → Fram → List Fram → KX → R0 := fun e fr up k =>
  headK (look' 0 e) (fun v0 => headK (look' 1 e) (fun v1 => headK (look' 5 e) (fun v5 => headK (look' 6 e) (fun v6 => headK (look' 7 e) (fun v7 => headK (.c (.p (pI 0))) (fun v8 => k .normal [(0, v0), (1, v1), (5, v5), (6, v6), (7, v7), (8, v8)] fr up))))))

noncomputable def q62_9 (B : Sy) (C : Go.ScE.Callee) : Env → Fram → List Fram → KX → R0 := fun e fr up k =>
  hBinS B .eql false (demK (look' 20 e)) (.c (.p (pI 2))) fr up (fun r0 f0 u0 =>
  headK (look' 0 e) (fun v0 => headK (look' 1 e) (fun v1 => headK (look' 5 e) (fun v5 => headK (look' 6 e) (fun v6 => headK (look' 7 e) (fun v7 => headK (look' 8 e) (fun v8 => headK (look' 20 e) (fun v20 => headK (demK r0) (fun v23 => k .normal [(0, v0), (1, v1), (5, v5), (6, v6), (7, v7), (8, v8), (20, v20), (23, v23)] f0 u0)))))))))

noncomputable def q62_10 (B : Sy) (C : Go.ScE.Callee) : Env → Fram → List Fram → KX → R0 := fun e fr up k =>
  hIaS B 1 (demK (demK (look' 1 e))) (demK (demK (look' 7 e))) fr up (fun r2 f2 u2 =>
  hLdS B false 1 false (demK r2) f2 u2 (fun r3 f3 u3 =>
  headK (look' 0 e) (fun v0 => headK (look' 1 e) (fun v1 => headK (look' 5 e) (fun v5 => headK (look' 6 e) (fun v6 => headK (look' 7 e) (fun v7 => headK (look' 8 e) (fun v8 => headK r3 (fun v28 => k .normal [(0, v0), (1, v1), (5, v5), (6, v6), (7, v7), (8, v8), (28, v28)] f3 u3)))))))))

noncomputable def q62_11 (B : Sy) (C : Go.ScE.Callee) : Env → Fram → List Fram → KX → R0 := fun e fr up k =>
  headK (look' 0 e) (fun v0 => headK (look' 1 e) (fun v1 => headK (look' 5 e) (fun v5 => headK (look' 6 e) (fun v6 => headK (look' 7 e) (fun v7 => headK (.c (.p (pI 2))) (fun v8 => k .normal [(0, v0), (1, v1), (5, v5), (6, v6), (7, v7), (8, v8)] fr up))))))

noncomputable def q62_12 (B : Sy) (C : Go.ScE.Callee) : Env → Fram → List Fram → KX → R0 := fun e fr up k =>
  hBinS B .eql false (demK (look' 20 e)) (.c (.p (pI 4))) fr up (fun r0 f0 u0 =>
  headK (look' 0 e) (fun v0 => headK (look' 1 e) (fun v1 => headK (look' 5 e) (fun v5 => headK (look' 6 e) (fun v6 => headK (look' 7 e) (fun v7 => headK (look' 8 e) (fun v8 => headK (look' 20 e) (fun v20 => headK (demK r0) (fun v29 => k .normal [(0, v0), (1, v1), (5, v5), (6, v6), (7, v7), (8, v8), (20, v20), (29, v29)] f0 u0)))))))))

noncomputable def q62_13 (B : Sy) (C : Go.ScE.Callee) : Env → Fram → List Fram → KX → R0 := fun e fr up k =>
  hIaS B 8 (demK (demK (look' 0 e))) (demK (demK (look' 7 e))) fr up (fun r2 f2 u2 =>
  hFa 7 (demK r2) f2 u2 (fun r3 f3 u3 =>
  hLdS B false 1 false (demK r3) f3 u3 (fun r4 f4 u4 =>
  hCall C 64 [(demK r4)] f4 u4 (fun r5 f5 u5 =>
  headK (look' 0 e) (fun v0 => headK (look' 1 e) (fun v1 => headK (look' 5 e) (fun v5 => headK (look' 6 e) (fun v6 => headK (look' 7 e) (fun v7 => headK (demK r5) (fun v8 => k .normal [(0, v0), (1, v1), (5, v5), (6, v6), (7, v7), (8, v8)] f5 u5))))))))))

noncomputable def q62_14 (B : Sy) (C : Go.ScE.Callee) : Env → Fram → List Fram → KX → R0 := fun e fr up k =>
  hBinS B .eql false (demK (look' 20 e)) (.c (.p (pI 5))) fr up (fun r0 f0 u0 =>
  headK (look' 0 e) (fun v0 => headK (look' 1 e) (fun v1 => headK (look' 5 e) (fun v5 => headK (look' 6 e) (fun v6 => headK (look' 7 e) (fun v7 => headK (look' 8 e) (fun v8 => headK (demK r0) (fun v37 => k .normal [(0, v0), (1, v1), (5, v5), (6, v6), (7, v7), (8, v8), (37, v37)] f0 u0))))))))

noncomputable def q62_15 (B : Sy) (C : Go.ScE.Callee) : Env → Fram → List Fram → KX → R0 := fun e fr up k =>
  headK (look' 0 e) (fun v0 => headK (look' 1 e) (fun v1 => headK (look' 5 e) (fun v5 => headK (look' 6 e) (fun v6 => headK (look' 7 e) (fun v7 => headK (.c (.p (pI 2))) (fun v8 => k .normal [(0, v0), (1, v1), (5, v5), (6, v6), (7, v7), (8, v8)] fr up))))))

noncomputable def q62_16 (B : Sy) (C : Go.ScE.Callee) : Env → Fram → List Fram → KX → R0 := fun e fr up k =>
  hBinS B .add false (demK (demK (look' 6 e))) (demK (demK (look' 8 e))) fr up (fun r2 f2 u2 =>
  headK (look' 0 e) (fun v0 => headK (look' 1 e) (fun v1 => headK (look' 5 e) (fun v5 => headK (demK r2) (fun v6 => headK (look' 7 e) (fun v7 => k .normal [(0, v0), (1, v1), (5, v5), (6, v6), (7, v7)] f2 u2))))))

noncomputable def q62_17 (B : Sy) (C : Go.ScE.Callee) : Env → Fram → List Fram → KX → R0 := fun e fr up k =>
  hBlds 1 [(pI 0)] 1 [0] [(demK (demK (look' 6 e)))] fr up (fun r2 f2 u2 =>
  hApp 1 8 (look' 5 e) (demK r2) f2 u2 (fun r3 f3 u3 =>
  headK (look' 0 e) (fun v0 => headK (look' 1 e) (fun v1 => headK r3 (fun v5 => headK (look' 6 e) (fun v6 => headK (look' 7 e) (fun v7 => k .normal [(0, v0), (1, v1), (5, v5), (6, v6), (7, v7)] f3 u3)))))))

noncomputable def q62_18 (B : Sy) (C : Go.ScE.Callee) : Env → Fram → List Fram → KX → R0 := fun e fr up k =>
  hBinS B .add false (demK (demK (look' 7 e))) (.c (.p (pI 1))) fr up (fun r1 f1 u1 =>
  headK (look' 0 e) (fun v0 => headK (look' 1 e) (fun v1 => headK (look' 5 e) (fun v5 => headK (look' 6 e) (fun v6 => headK (demK r1) (fun v7 => k .normal [(0, v0), (1, v1), (5, v5), (6, v6), (7, v7)] f1 u1))))))

noncomputable def q62_19 (B : Sy) (C : Go.ScE.Callee) : Env → Fram → List Fram → KX → R0 := fun e fr up k =>
  headK (look' 5 e) (fun v4 => k .normal [(4, v4)] fr up)

noncomputable def s62 : KS := fun B C n => seqK (q62_0 B C) (seqK (q62_1 B C) (seqK (q62_2 B C) (seqK (seqK (q62_3 B C) (blockK 0 (loopsK [0, 1, 5, 6, 7] [] (seqK (seqK (q62_4 B C) (condK (.t 13) (skipK) (exitK 0))) (seqK (blockK 1 (seqK (q62_5 B C) (seqK (seqK (q62_6 B C) (blockK 2 (seqK (q62_7 B C) (condK (.t 21) (q62_8 B C) (seqK (q62_9 B C) (condK (.t 23) (seqK (q62_10 B C) (condK (.t 28) (q62_11 B C) (skipK))) (seqK (q62_12 B C) (condK (.t 29) (q62_13 B C) (seqK (q62_14 B C) (condK (.t 37) (q62_15 B C) (skipK))))))))))) (seqK (q62_16 B C) (q62_17 B C))))) (q62_18 B C))) n))) (seqK (q62_19 B C) (retK)))))
theorem s62_eq (B : Sy) (C : Go.ScE.Callee) (n : Nat) : s62 B C n = evS B C n x62.body := by kernel_rfl

noncomputable def q63_0 (B : Sy) (C : Go.ScE.Callee) : Env → Fram → List Fram → KX → R0 := fun e fr up k =>
  headK (look' 0 e) (fun v0 => headK (look' 1 e) (fun v1 => headK (look' 2 e) (fun v2 => k .normal [(0, v0), (1, v1), (2, v2)] fr up)))

noncomputable def q63_1 (B : Sy) (C : Go.ScE.Callee) : Env → Fram → List Fram → KX → R0 := fun e fr up k =>
  hBinS B .sub false (demK (demK (look' 2 e))) (.c (.p (pI 1))) fr up (fun r2 f2 u2 =>
  hBinS B .mul false (.c (.p (pI 16))) (demK r2) f2 u2 (fun r3 f3 u3 =>
  hCviS B .u64 (demK r3) f3 u3 (fun r4 f4 u4 =>
  hBinS B .shr false (demK (demK (look' 1 e))) (demK r4) f4 u4 (fun r5 f5 u5 =>
  headK (look' 0 e) (fun v0 => headK (look' 1 e) (fun v1 => headK (look' 2 e) (fun v2 => headK (demK r5) (fun v7 => k .normal [(0, v0), (1, v1), (2, v2), (7, v7)] f5 u5))))))))

noncomputable def q63_2 (B : Sy) (C : Go.ScE.Callee) : Env → Fram → List Fram → KX → R0 := fun e fr up k =>
  hBinS B .add false (demK (demK (look' 7 e))) (.c (.p (pI 32768))) fr up (fun r2 f2 u2 =>
  hBinS B .and false (demK r2) (.c (.p (pI 65535))) f2 u2 (fun r3 f3 u3 =>
  hBinS B .sub false (demK r3) (.c (.p (pI 32768))) f3 u3 (fun r4 f4 u4 =>
  hBld [(pI 0), (pI 0), (pI 0), (pI 0), (pI 0)] [(0, 1), (1, 1), (4, 1)] [(.c (.p (pI 20))), (demK (demK (look' 0 e))), (demK r4)] f4 u4 (fun r5 f5 u5 =>
  hBlds 5 [(pI 0), (pI 0), (pI 0), (pI 0), (pI 0)] 1 [0] [(demK r5)] f5 u5 (fun r6 f6 u6 =>
  headK (look' 0 e) (fun v0 => headK (look' 1 e) (fun v1 => headK (look' 2 e) (fun v2 => headK r6 (fun v8 => k .normal [(0, v0), (1, v1), (2, v2), (8, v8)] f6 u6)))))))))

noncomputable def q63_3 (B : Sy) (C : Go.ScE.Callee) : Env → Fram → List Fram → KX → R0 := fun e fr up k =>
  hBinS B .sub false (demK (demK (look' 2 e))) (.c (.p (pI 2))) fr up (fun r1 f1 u1 =>
  headK (look' 0 e) (fun v0 => headK (look' 1 e) (fun v1 => headK (look' 8 e) (fun v8 => headK (demK r1) (fun v9 => k .normal [(0, v0), (1, v1), (8, v8), (9, v9)] f1 u1)))))

noncomputable def q63_4 (B : Sy) (C : Go.ScE.Callee) : Env → Fram → List Fram → KX → R0 := fun e fr up k =>
  hBinS B .geq false (demK (demK (look' 9 e))) (.c (.p (pI 0))) fr up (fun r1 f1 u1 =>
  headK (look' 0 e) (fun v0 => headK (look' 1 e) (fun v1 => headK (look' 8 e) (fun v8 => headK (look' 9 e) (fun v9 => headK r1 (fun v26 => k .normal [(0, v0), (1, v1), (8, v8), (9, v9), (26, v26)] f1 u1))))))

noncomputable def q63_5 (B : Sy) (C : Go.ScE.Callee) : Env → Fram → List Fram → KX → R0 := fun e fr up k =>
  hBinS B .mul false (.c (.p (pI 16))) (demK (demK (look' 9 e))) fr up (fun r4 f4 u4 =>
  hCviS B .u64 (demK r4) f4 u4 (fun r5 f5 u5 =>
  hBinS B .shr false (demK (demK (look' 1 e))) (demK r5) f5 u5 (fun r6 f6 u6 =>
  hBinS B .and false (demK r6) (.c (.p (pI 65535))) f6 u6 (fun r7 f7 u7 =>
  hBld [(pI 0), (pI 0), (pI 0), (pI 0), (pI 0)] [(0, 1), (1, 1), (4, 1)] [(.c (.p (pI 21))), (demK (demK (look' 0 e))), (demK r7)] f7 u7 (fun r8 f8 u8 =>
  hBlds 5 [(pI 0), (pI 0), (pI 0), (pI 0), (pI 0)] 1 [0] [(demK r8)] f8 u8 (fun r9 f9 u9 =>
  hApp 5 40 (look' 8 e) (demK r9) f9 u9 (fun r10 f10 u10 =>
  headK (look' 0 e) (fun v0 => headK (look' 1 e) (fun v1 => headK r10 (fun v8 => headK (look' 9 e) (fun v9 => k .normal [(0, v0), (1, v1), (8, v8), (9, v9)] f10 u10)))))))))))

noncomputable def q63_6 (B : Sy) (C : Go.ScE.Callee) : Env → Fram → List Fram → KX → R0 := fun e fr up k =>
  hBinS B .sub false (demK (demK (look' 9 e))) (.c (.p (pI 1))) fr up (fun r1 f1 u1 =>
  headK (look' 0 e) (fun v0 => headK (look' 1 e) (fun v1 => headK (look' 8 e) (fun v8 => headK (demK r1) (fun v9 => k .normal [(0, v0), (1, v1), (8, v8), (9, v9)] f1 u1)))))

noncomputable def q63_7 (B : Sy) (C : Go.ScE.Callee) : Env → Fram → List Fram → KX → R0 := fun e fr up k =>
  headK (look' 8 e) (fun v6 => k .normal [(6, v6)] fr up)

noncomputable def s63 : KS := fun B C n => seqK (q63_0 B C) (seqK (q63_1 B C) (seqK (q63_2 B C) (seqK (seqK (q63_3 B C) (blockK 0 (loopsK [0, 1, 8, 9] [] (seqK (seqK (q63_4 B C) (condK (.t 26) (skipK) (exitK 0))) (seqK (blockK 1 (q63_5 B C)) (q63_6 B C))) n))) (seqK (q63_7 B C) (retK)))))
theorem s63_eq (B : Sy) (C : Go.ScE.Callee) (n : Nat) : s63 B C n = evS B C n x63.body := by kernel_rfl

noncomputable def q64_0 (B : Sy) (C : Go.ScE.Callee) : Env → Fram → List Fram → KX → R0 := fun e fr up k =>
  headK (look' 0 e) (fun v0 => k .normal [(0, v0)] fr up)

noncomputable def q64_1 (B : Sy) (C : Go.ScE.Callee) : Env → Fram → List Fram → KX → R0 := fun e fr up k =>
  headK (look' 0 e) (fun v0 => headK (.c (.p (pI 1))) (fun v3 => k .normal [(0, v0), (3, v3)] fr up))

noncomputable def q64_2 (B : Sy) (C : Go.ScE.Callee) : Env → Fram → List Fram → KX → R0 := fun e fr up k =>
  hBinS B .lss false (demK (demK (look' 3 e))) (.c (.p (pI 4))) fr up (fun r1 f1 u1 =>
  headK (look' 0 e) (fun v0 => headK (look' 3 e) (fun v3 => headK r1 (fun v6 => k .normal [(0, v0), (3, v3), (6, v6)] f1 u1))))

noncomputable def q64_3 (B : Sy) (C : Go.ScE.Callee) : Env → Fram → List Fram → KX → R0 := fun e fr up k =>
  hBinS B .sub false (demK (demK (look' 3 e))) (.c (.p (pI 1))) fr up (fun r2 f2 u2 =>
  hBinS B .mul false (.c (.p (pI 16))) (demK r2) f2 u2 (fun r3 f3 u3 =>
  hCviS B .u64 (demK r3) f3 u3 (fun r4 f4 u4 =>
  hBinS B .shr false (demK (demK (look' 0 e))) (demK r4) f4 u4 (fun r5 f5 u5 =>
  headK (look' 0 e) (fun v0 => headK (look' 3 e) (fun v3 => headK (demK r5) (fun v4 => k .normal [(0, v0), (3, v3), (4, v4)] f5 u5)))))))

noncomputable def q64_4 (B : Sy) (C : Go.ScE.Callee) : Env → Fram → List Fram → KX → R0 := fun e fr up k =>
  hBinS B .geq false (demK (demK (look' 4 e))) (.c (.p (pI (-32768)))) fr up (fun r1 f1 u1 =>
  guardK true (demK r1) (fun K => K (demK (look' 4 e)) f1 u1) f1 u1 (fun r3 f3 u3 =>
  guardK true (demK r1) (fun K => hBinS B .leq false (demK r3) (.c (.p (pI 32767))) f3 u3 K) f3 u3 (fun r4 f4 u4 =>
  hPick  (demK (demK r1)) (demK r4) (.c (.p (pB false))) f4 u4 (fun r5 f5 u5 =>
  headK (look' 0 e) (fun v0 => headK (look' 3 e) (fun v3 => headK r5 (fun v18 => k .normal [(0, v0), (3, v3), (18, v18)] f5 u5)))))))

noncomputable def q64_5 (B : Sy) (C : Go.ScE.Callee) : Env → Fram → List Fram → KX → R0 := fun e fr up k =>
  hBinS B .add false (demK (demK (look' 3 e))) (.c (.p (pI 1))) fr up (fun r1 f1 u1 =>
  headK (look' 0 e) (fun v0 => headK (demK r1) (fun v3 => k .normal [(0, v0), (3, v3)] f1 u1)))

noncomputable def q64_6 (B : Sy) (C : Go.ScE.Callee) : Env → Fram → List Fram → KX → R0 := fun e fr up k =>
  headK (demK (demK (look' 3 e))) (fun v2 => k .normal [(2, v2)] fr up)

noncomputable def s64 : KS := fun B C n => seqK (q64_0 B C) (seqK (q64_1 B C) (seqK (blockK 0 (loopsK [0, 3] [] (seqK (seqK (q64_2 B C) (condK (.t 6) (skipK) (exitK 0))) (blockK 1 (seqK (q64_3 B C) (seqK (seqK (q64_4 B C) (condK (.t 18) (exitK 0) (skipK))) (q64_5 B C))))) n)) (seqK (q64_6 B C) (retK))))
theorem s64_eq (B : Sy) (C : Go.ScE.Callee) (n : Nat) : s64 B C n = evS B C n x64.body := by kernel_rfl

noncomputable def q65_0 (B : Sy) (C : Go.ScE.Callee) : Env → Fram → List Fram → KX → R0 := fun e fr up k =>
  headK (look' 0 e) (fun v0 => headK (look' 1 e) (fun v1 => k .normal [(0, v0), (1, v1)] fr up))

noncomputable def q65_1 (B : Sy) (C : Go.ScE.Callee) : Env → Fram → List Fram → KX → R0 := fun e fr up k =>
  hGen C (.un .not) [(demK (demK (look' 1 e)))] fr up (fun r1 f1 u1 =>
  headK (look' 0 e) (fun v0 => headK r1 (fun v6 => k .normal [(0, v0), (6, v6)] f1 u1)))

noncomputable def q65_2 (B : Sy) (C : Go.ScE.Callee) : Env → Fram → List Fram → KX → R0 := fun e fr up k =>
  hBinS B .eql false (demK (demK (look' 0 e))) (.c (.p (pI 0))) fr up (fun r1 f1 u1 =>
  headK (demK r1) (fun v4 => k .normal [(4, v4)] f1 u1))

noncomputable def q65_3 (B : Sy) (C : Go.ScE.Callee) : Env → Fram → List Fram → KX → R0 := fun e fr up k =>
  hBinS B .geq false (demK (demK (look' 0 e))) (.c (.p (pI 0))) fr up (fun r1 f1 u1 =>
  guardK true (demK r1) (fun K => K (demK (look' 0 e)) f1 u1) f1 u1 (fun r3 f3 u3 =>
  guardK true (demK r1) (fun K => hBinS B .leq false (demK r3) (.c (.p (pI 31))) f3 u3 K) f3 u3 (fun r4 f4 u4 =>
  hPick  (demK (demK r1)) (demK r4) (.c (.p (pB false))) f4 u4 (fun r5 f5 u5 =>
  headK (demK r5) (fun v4 => k .normal [(4, v4)] f5 u5)))))

noncomputable def s65 : KS := fun B C n => seqK (q65_0 B C) (seqK (seqK (q65_1 B C) (condK (.t 6) (seqK (q65_2 B C) (retK)) (skipK))) (seqK (q65_3 B C) (retK)))
theorem s65_eq (B : Sy) (C : Go.ScE.Callee) (n : Nat) : s65 B C n = evS B C n x65.body := by kernel_rfl

noncomputable def q66_0 (B : Sy) (C : Go.ScE.Callee) : Env → Fram → List Fram → KX → R0 := fun e fr up k =>
  headK (look' 0 e) (fun v0 => headK (look' 1 e) (fun v1 => k .normal [(0, v0), (1, v1)] fr up))

noncomputable def q66_1 (B : Sy) (C : Go.ScE.Callee) : Env → Fram → List Fram → KX → R0 := fun e fr up k =>
  hBinS B .shr false (demK (demK (look' 0 e))) (.c (.p (pK .u64 32))) fr up (fun r1 f1 u1 =>
  hBinS B .and false (demK (demK (look' 0 e))) (.c (.p (pI 4294967295))) f1 u1 (fun r3 f3 u3 =>
  headK (look' 1 e) (fun v1 => headK (demK r1) (fun v5 => headK (demK r3) (fun v6 => k .normal [(1, v1), (5, v5), (6, v6)] f3 u3)))))

noncomputable def q66_2 (B : Sy) (C : Go.ScE.Callee) : Env → Fram → List Fram → KX → R0 := fun e fr up k =>
  hBinS B .shr false (demK (demK (look' 1 e))) (.c (.p (pK .u64 32))) fr up (fun r1 f1 u1 =>
  hBinS B .and false (demK (demK (look' 1 e))) (.c (.p (pI 4294967295))) f1 u1 (fun r3 f3 u3 =>
  headK (look' 5 e) (fun v5 => headK (look' 6 e) (fun v6 => headK (demK r1) (fun v7 => headK (demK r3) (fun v8 => k .normal [(5, v5), (6, v6), (7, v7), (8, v8)] f3 u3))))))

noncomputable def q66_3 (B : Sy) (C : Go.ScE.Callee) : Env → Fram → List Fram → KX → R0 := fun e fr up k =>
  hCviS B .u64 (demK (demK (look' 6 e))) fr up (fun r1 f1 u1 =>
  hCviS B .u64 (demK (demK (look' 8 e))) f1 u1 (fun r3 f3 u3 =>
  hBinS B .mul false (demK r1) (demK r3) f3 u3 (fun r4 f4 u4 =>
  headK (look' 5 e) (fun v5 => headK (look' 6 e) (fun v6 => headK (look' 7 e) (fun v7 => headK (look' 8 e) (fun v8 => headK (demK r4) (fun v9 => k .normal [(5, v5), (6, v6), (7, v7), (8, v8), (9, v9)] f4 u4))))))))

noncomputable def q66_4 (B : Sy) (C : Go.ScE.Callee) : Env → Fram → List Fram → KX → R0 := fun e fr up k =>
  hBinS B .mul false (demK (demK (look' 5 e))) (demK (demK (look' 8 e))) fr up (fun r2 f2 u2 =>
  hBinS B .shr false (demK (demK (look' 9 e))) (.c (.p (pK .u64 32))) f2 u2 (fun r4 f4 u4 =>
  hCviS B .i64 (demK r4) f4 u4 (fun r5 f5 u5 =>
  hBinS B .add false (demK r2) (demK r5) f5 u5 (fun r6 f6 u6 =>
  headK (look' 5 e) (fun v5 => headK (look' 6 e) (fun v6 => headK (look' 7 e) (fun v7 => headK (demK r6) (fun v10 => k .normal [(5, v5), (6, v6), (7, v7), (10, v10)] f6 u6))))))))

noncomputable def q66_5 (B : Sy) (C : Go.ScE.Callee) : Env → Fram → List Fram → KX → R0 := fun e fr up k =>
  hBinS B .mul false (demK (demK (look' 6 e))) (demK (demK (look' 7 e))) fr up (fun r2 f2 u2 =>
  hBinS B .and false (demK (demK (look' 10 e))) (.c (.p (pI 4294967295))) f2 u2 (fun r4 f4 u4 =>
  hBinS B .add false (demK r2) (demK r4) f4 u4 (fun r5 f5 u5 =>
  headK (look' 5 e) (fun v5 => headK (look' 7 e) (fun v7 => headK (look' 10 e) (fun v10 => headK (demK r5) (fun v11 => k .normal [(5, v5), (7, v7), (10, v10), (11, v11)] f5 u5)))))))

noncomputable def q66_6 (B : Sy) (C : Go.ScE.Callee) : Env → Fram → List Fram → KX → R0 := fun e fr up k =>
  hBinS B .mul false (demK (demK (look' 5 e))) (demK (demK (look' 7 e))) fr up (fun r2 f2 u2 =>
  hBinS B .shr false (demK (demK (look' 10 e))) (.c (.p (pK .u64 32))) f2 u2 (fun r4 f4 u4 =>
  hBinS B .add false (demK r2) (demK r4) f4 u4 (fun r5 f5 u5 =>
  hBinS B .shr false (demK (demK (look' 11 e))) (.c (.p (pK .u64 32))) f5 u5 (fun r7 f7 u7 =>
  hBinS B .add false (demK r5) (demK r7) f7 u7 (fun r8 f8 u8 =>
  headK (demK r8) (fun v4 => k .normal [(4, v4)] f8 u8))))))

noncomputable def s66 : KS := fun B C n => seqK (q66_0 B C) (seqK (q66_1 B C) (seqK (q66_2 B C) (seqK (q66_3 B C) (seqK (q66_4 B C) (seqK (q66_5 B C) (seqK (q66_6 B C) (retK)))))))
theorem s66_eq (B : Sy) (C : Go.ScE.Callee) (n : Nat) : s66 B C n = evS B C n x66.body := by kernel_rfl

end Go.ScX
