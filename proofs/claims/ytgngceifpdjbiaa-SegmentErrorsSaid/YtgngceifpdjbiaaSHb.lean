/- The small code laid out, with variables for slots. -/
import Derived.Test.YtgngceifpdjbiaaSX23
import Derived.Test.YtgngceifpdjbiaaSE25
set_option maxRecDepth 100000
set_option linter.unusedVariables false
namespace Go.ScX
open Go.ScE
noncomputable def g41_0 (C : Go.ScE.Callee) : Env → Fram → List Fram → KX → R0 := fun e fr up k =>
  headK (look' 0 e) (fun v0 => headK (look' 1 e) (fun v1 => headK (look' 2 e) (fun v2 => k .normal [(0, v0), (1, v1), (2, v2)] fr up)))

noncomputable def g41_1 (C : Go.ScE.Callee) : Env → Fram → List Fram → KX → R0 := fun e fr up k =>
  hBlds 8 [(pI 0), (pI 0), (pI 0), (pI 0), (pI 0), (pI 0), (pI 0), (pI 0)] 0 [] [] fr up (fun r0 f0 u0 =>
  headK (look' 0 e) (fun v0 => headK (look' 1 e) (fun v1 => headK (look' 2 e) (fun v2 => headK r0 (fun v7 => k .normal [(0, v0), (1, v1), (2, v2), (7, v7)] f0 u0)))))

noncomputable def g41_2 (C : Go.ScE.Callee) : Env → Fram → List Fram → KX → R0 := fun e fr up k =>
  headK (look' 0 e) (fun v0 => headK (look' 1 e) (fun v1 => headK (look' 2 e) (fun v2 => headK (look' 7 e) (fun v7 => headK (.c (.p (pI 0))) (fun v8 => k .normal [(0, v0), (1, v1), (2, v2), (7, v7), (8, v8)] fr up)))))

noncomputable def g41_3 (C : Go.ScE.Callee) : Env → Fram → List Fram → KX → R0 := fun e fr up k =>
  hBin .lss false (demK (demK (look' 8 e))) (demK (demK (look' 0 e))) fr up (fun r2 f2 u2 =>
  headK (look' 0 e) (fun v0 => headK (look' 1 e) (fun v1 => headK (look' 2 e) (fun v2 => headK (look' 7 e) (fun v7 => headK (look' 8 e) (fun v8 => headK r2 (fun v12 => k .normal [(0, v0), (1, v1), (2, v2), (7, v7), (8, v8), (12, v12)] f2 u2)))))))

noncomputable def g41_4 (C : Go.ScE.Callee) : Env → Fram → List Fram → KX → R0 := fun e fr up k =>
  hBin .add false (demK (demK (look' 1 e))) (demK (demK (look' 8 e))) fr up (fun r3 f3 u3 =>
  hBin .mul false (.c (.p (pI 8))) (demK r3) f3 u3 (fun r4 f4 u4 =>
  hCall C 17 [(.c (.p (pI 26))), (demK r4)] f4 u4 (fun r5 f5 u5 =>
  hCall C 14 [(.c (.p (pI 23))), (.c (.p (pI 26))), (.c (.p (pI 30))), (demK (demK (look' 8 e)))] f5 u5 (fun r7 f7 u7 =>
  hBlds 8 [(pI 0), (pI 0), (pI 0), (pI 0), (pI 0), (pI 0), (pI 0), (pI 0)] 2 [0, 1] [(demK r5), (demK r7)] f7 u7 (fun r8 f8 u8 =>
  hApp 8 64 (look' 7 e) (demK r8) f8 u8 (fun r9 f9 u9 =>
  headK (look' 0 e) (fun v0 => headK (look' 1 e) (fun v1 => headK (look' 2 e) (fun v2 => headK r9 (fun v7 => headK (look' 8 e) (fun v8 => k .normal [(0, v0), (1, v1), (2, v2), (7, v7), (8, v8)] f9 u9)))))))))))

noncomputable def g41_5 (C : Go.ScE.Callee) : Env → Fram → List Fram → KX → R0 := fun e fr up k =>
  hBin .add false (demK (demK (look' 8 e))) (.c (.p (pI 1))) fr up (fun r1 f1 u1 =>
  headK (look' 0 e) (fun v0 => headK (look' 1 e) (fun v1 => headK (look' 2 e) (fun v2 => headK (look' 7 e) (fun v7 => headK (demK r1) (fun v8 => k .normal [(0, v0), (1, v1), (2, v2), (7, v7), (8, v8)] f1 u1))))))

noncomputable def g41_6 (C : Go.ScE.Callee) : Env → Fram → List Fram → KX → R0 := fun e fr up k =>
  hCall C 16 [(.c (.p (pI 26))), (demK (demK (look' 2 e)))] fr up (fun r2 f2 u2 =>
  hCall C 14 [(.c (.p (pI 18))), (.c (.p (pI 26))), (.c (.p (pI 26))), (.c (.p (pI 15)))] f2 u2 (fun r3 f3 u3 =>
  hBin .mul false (.c (.p (pI 8))) (demK (demK (look' 0 e))) f3 u3 (fun r5 f5 u5 =>
  hCall C 14 [(.c (.p (pI 15))), (.c (.p (pI 26))), (.c (.p (pI 26))), (demK r5)] f5 u5 (fun r6 f6 u6 =>
  hCall C 14 [(.c (.p (pI 23))), (.c (.p (pI 26))), (.c (.p (pI 30))), (demK (demK (look' 0 e)))] f6 u6 (fun r8 f8 u8 =>
  hBin .add false (demK (demK (look' 0 e))) (.c (.p (pI 1))) f8 u8 (fun r10 f10 u10 =>
  hCall C 14 [(.c (.p (pI 15))), (.c (.p (pI 30))), (.c (.p (pI 30))), (demK r10)] f10 u10 (fun r11 f11 u11 =>
  hBlds 8 [(pI 0), (pI 0), (pI 0), (pI 0), (pI 0), (pI 0), (pI 0), (pI 0)] 5 [0, 1, 2, 3, 4] [(demK r2), (demK r3), (demK r6), (demK r8), (demK r11)] f11 u11 (fun r12 f12 u12 =>
  hApp 8 64 (look' 7 e) (demK r12) f12 u12 (fun r13 f13 u13 =>
  headK r13 (fun v6 => k .normal [(6, v6)] f13 u13))))))))))

noncomputable def h41 : KC := fun C n => seqK (g41_0 C) (seqK (g41_1 C) (seqK (seqK (g41_2 C) (blockK 0 (loopsK [0, 1, 2, 7, 8] [] (seqK (seqK (g41_3 C) (condK (.t 12) (skipK) (exitK 0))) (seqK (blockK 1 (g41_4 C)) (g41_5 C))) n))) (seqK (g41_6 C) (retK))))
theorem h41_eq (C : Go.ScE.Callee) (n : Nat) : h41 C n = evK C n x41.body := by kernel_rfl

noncomputable def g42_0 (C : Go.ScE.Callee) : Env → Fram → List Fram → KX → R0 := fun e fr up k =>
  hGen C (.alloc 0 true [(pI 0), (pI 0), (pI 0), (pI 0), (pI 0), (pI 0), (pI 0), (pI 0)]) [] fr up (fun r0 f0 u0 =>
  headK (look' 0 e) (fun v0 => headK (look' 1 e) (fun v1 => headK (look' 2 e) (fun v2 => headK (look' 3 e) (fun v3 => headK r0 (fun v8 => k .normal [(0, v0), (1, v1), (2, v2), (3, v3), (8, v8)] f0 u0))))))

noncomputable def g42_1 (C : Go.ScE.Callee) : Env → Fram → List Fram → KX → R0 := fun e fr up k =>
  hBld [(pI 0), (pI 0), (pI 0), (pI 0), (pI 0)] [(0, 1), (1, 1), (2, 1)] [(demK (demK (look' 0 e))), (demK (demK (look' 1 e))), (demK (demK (look' 2 e)))] fr up (fun r3 f3 u3 =>
  hBld [(pI 0), (pI 0), (pI 0), (pI 0), (pI 0), (pI 0), (pI 0), (pI 0)] [(0, 1), (1, 5), (6, 1)] [(.c (.p (pI 2))), (demK r3), (demK (demK (look' 3 e)))] f3 u3 (fun r5 f5 u5 =>
  hSt 8 (demK (look' 8 e)) (demK r5) f5 u5 (fun r6 f6 u6 =>
  headK (look' 8 e) (fun v8 => k .normal [(8, v8)] f6 u6))))

noncomputable def h42 : KC := fun C n => seqK (g42_0 C) (seqK (g42_1 C) (retK))
theorem h42_eq (C : Go.ScE.Callee) (n : Nat) : h42 C n = evK C n x42.body := by kernel_rfl

noncomputable def g43_0 (C : Go.ScE.Callee) : Env → Fram → List Fram → KX → R0 := fun e fr up k =>
  hGen C (.box 0) [(demK (look' 0 e))] fr up (fun r0 f0 u0 =>
  headK r0 (fun v1 => k .normal [(1, v1)] f0 u0))

noncomputable def g43_1 (C : Go.ScE.Callee) : Env → Fram → List Fram → KX → R0 := fun e fr up k =>
  hFa 0 (demK (look' 1 e)) fr up (fun r0 f0 u0 =>
  hLd false 1 false (demK r0) f0 u0 (fun r1 f1 u1 =>
  hBin .eql false (demK r1) (.c (.p (pI 2))) f1 u1 (fun r2 f2 u2 =>
  guardK false (demK r2) (fun K => hFa 0 (demK (look' 1 e)) f2 u2 K) f2 u2 (fun r4 f4 u4 =>
  guardK false (demK r2) (fun K => hLd false 1 false (demK r4) f4 u4 K) f4 u4 (fun r5 f5 u5 =>
  guardK false (demK r2) (fun K => hBin .eql false (demK r5) (.c (.p (pI 3))) f5 u5 K) f5 u5 (fun r6 f6 u6 =>
  hPick  (demK (demK r2)) (.c (.p (pB true))) (demK r6) f6 u6 (fun r7 f7 u7 =>
  guardK false (demK r7) (fun K => hFa 0 (demK (look' 1 e)) f7 u7 K) f7 u7 (fun r9 f9 u9 =>
  guardK false (demK r7) (fun K => hLd false 1 false (demK r9) f9 u9 K) f9 u9 (fun r10 f10 u10 =>
  guardK false (demK r7) (fun K => hBin .eql false (demK r10) (.c (.p (pI 5))) f10 u10 K) f10 u10 (fun r11 f11 u11 =>
  hPick  (demK (demK r7)) (.c (.p (pB true))) (demK r11) f11 u11 (fun r12 f12 u12 =>
  headK (demK r12) (fun v2 => k .normal [(2, v2)] f12 u12))))))))))))

noncomputable def h43 : KC := fun C n => seqK (g43_0 C) (seqK (g43_1 C) (retK))
theorem h43_eq (C : Go.ScE.Callee) (n : Nat) : h43 C n = evK C n x43.body := by kernel_rfl

noncomputable def g44_0 (C : Go.ScE.Callee) : Env → Fram → List Fram → KX → R0 := fun e fr up k =>
  headK (look' 0 e) (fun v0 => k .normal [(0, v0)] fr up)

noncomputable def g44_1 (C : Go.ScE.Callee) : Env → Fram → List Fram → KX → R0 := fun e fr up k =>
  hLenL  (demK (demK (look' 0 e))) fr up (fun r1 f1 u1 =>
  hBin .gtr false (demK r1) (.c (.p (pI 65536))) f1 u1 (fun r2 f2 u2 =>
  headK (look' 0 e) (fun v0 => headK r2 (fun v18 => k .normal [(0, v0), (18, v18)] f2 u2))))

noncomputable def g44_2 (C : Go.ScE.Callee) : Env → Fram → List Fram → KX → R0 := fun e fr up k =>
  headK (.c (.own 1 [])) (fun v2 => headK (.c (.own 1 [])) (fun v3 => headK (.c (.p (pI 213))) (fun v4 => k .normal [(2, v2), (3, v3), (4, v4)] fr up)))

noncomputable def g44_3 (C : Go.ScE.Callee) : Env → Fram → List Fram → KX → R0 := fun e fr up k =>
  headK (look' 0 e) (fun v0 => headK (.c (.p (pI 0))) (fun v5 => k .normal [(0, v0), (5, v5)] fr up))

noncomputable def g44_4 (C : Go.ScE.Callee) : Env → Fram → List Fram → KX → R0 := fun e fr up k =>
  hLenL  (demK (demK (look' 0 e))) fr up (fun r2 f2 u2 =>
  hBin .lss false (demK (demK (look' 5 e))) (demK r2) f2 u2 (fun r3 f3 u3 =>
  headK (look' 0 e) (fun v0 => headK (look' 5 e) (fun v5 => headK r3 (fun v22 => k .normal [(0, v0), (5, v5), (22, v22)] f3 u3)))))

noncomputable def g44_5 (C : Go.ScE.Callee) : Env → Fram → List Fram → KX → R0 := fun e fr up k =>
  hIa 8 (demK (demK (look' 0 e))) (demK (demK (look' 5 e))) fr up (fun r2 f2 u2 =>
  hLd true 8 false (demK r2) f2 u2 (fun r3 f3 u3 =>
  hCall C 54 [(demK r3)] f3 u3 (fun r4 f4 u4 =>
  hGen C (.un .not) [(demK r4)] f4 u4 (fun r5 f5 u5 =>
  headK (look' 0 e) (fun v0 => headK (look' 5 e) (fun v5 => headK r5 (fun v30 => k .normal [(0, v0), (5, v5), (30, v30)] f5 u5)))))))

noncomputable def g44_6 (C : Go.ScE.Callee) : Env → Fram → List Fram → KX → R0 := fun e fr up k =>
  headK (.c (.own 1 [])) (fun v2 => headK (.c (.own 1 [])) (fun v3 => headK (.c (.p (pI 210))) (fun v4 => k .normal [(2, v2), (3, v3), (4, v4)] fr up)))

noncomputable def g44_7 (C : Go.ScE.Callee) : Env → Fram → List Fram → KX → R0 := fun e fr up k =>
  hIa 8 (demK (demK (look' 0 e))) (demK (demK (look' 5 e))) fr up (fun r2 f2 u2 =>
  hFa 0 (demK r2) f2 u2 (fun r3 f3 u3 =>
  hLd false 1 false (demK r3) f3 u3 (fun r4 f4 u4 =>
  hBin .eql false (demK r4) (.c (.p (pI 1))) f4 u4 (fun r5 f5 u5 =>
  guardK true (demK r5) (fun K => K (demK (look' 0 e)) f5 u5) f5 u5 (fun r7 f7 u7 =>
  guardK true (demK r5) (fun K => K (demK (look' 5 e)) f7 u7) f7 u7 (fun r8 f8 u8 =>
  guardK true (demK r5) (fun K => hGen C (.slL 8 false true) [(demK r7), (demK r8)] f8 u8 K) f8 u8 (fun r9 f9 u9 =>
  guardK true (demK r5) (fun K => K (demK (look' 0 e)) f9 u9) f9 u9 (fun r10 f10 u10 =>
  guardK true (demK r5) (fun K => K (demK (look' 5 e)) f10 u10) f10 u10 (fun r11 f11 u11 =>
  guardK true (demK r5) (fun K => hIa 8 (demK r10) (demK r11) f11 u11 K) f11 u11 (fun r12 f12 u12 =>
  guardK true (demK r5) (fun K => hFa 6 (demK r12) f12 u12 K) f12 u12 (fun r13 f13 u13 =>
  guardK true (demK r5) (fun K => hLd false 1 false (demK r13) f13 u13 K) f13 u13 (fun r14 f14 u14 =>
  guardK true (demK r5) (fun K => Bool.rec (motive := fun _ => R0) fail0 (hCall C 55 [(demK r9), (demK r14)] f14 u14 K) (chkD (.call 55) false [] [(demK r9), (demK r14)])) f14 u14 (fun r15 f15 u15 =>
  guardK true (demK r5) (fun K => hBin .geq false (demK r15) (.c (.p (pI 0))) f15 u15 K) f15 u15 (fun r16 f16 u16 =>
  hPick  (demK (demK r5)) (demK r16) (.c (.p (pB false))) f16 u16 (fun r17 f17 u17 =>
  headK (look' 0 e) (fun v0 => headK (look' 5 e) (fun v5 => headK r17 (fun v48 => k .normal [(0, v0), (5, v5), (48, v48)] f17 u17))))))))))))))))))

noncomputable def g44_8 (C : Go.ScE.Callee) : Env → Fram → List Fram → KX → R0 := fun e fr up k =>
  headK (.c (.own 1 [])) (fun v2 => headK (.c (.own 1 [])) (fun v3 => headK (.c (.p (pI 211))) (fun v4 => k .normal [(2, v2), (3, v3), (4, v4)] fr up)))

noncomputable def g44_9 (C : Go.ScE.Callee) : Env → Fram → List Fram → KX → R0 := fun e fr up k =>
  hBin .add false (demK (demK (look' 5 e))) (.c (.p (pI 1))) fr up (fun r1 f1 u1 =>
  headK (look' 0 e) (fun v0 => headK (demK r1) (fun v5 => k .normal [(0, v0), (5, v5)] f1 u1)))

noncomputable def g44_10 (C : Go.ScE.Callee) : Env → Fram → List Fram → KX → R0 := fun e fr up k =>
  headK (look' 0 e) (fun v0 => headK (.c (.p (pI 0))) (fun v6 => k .normal [(0, v0), (6, v6)] fr up))

noncomputable def g44_11 (C : Go.ScE.Callee) : Env → Fram → List Fram → KX → R0 := fun e fr up k =>
  hLenL  (demK (demK (look' 0 e))) fr up (fun r2 f2 u2 =>
  hBin .lss false (demK (demK (look' 6 e))) (demK r2) f2 u2 (fun r3 f3 u3 =>
  headK (look' 0 e) (fun v0 => headK (look' 6 e) (fun v6 => headK r3 (fun v52 => k .normal [(0, v0), (6, v6), (52, v52)] f3 u3)))))

noncomputable def g44_12 (C : Go.ScE.Callee) : Env → Fram → List Fram → KX → R0 := fun e fr up k =>
  hIa 8 (demK (demK (look' 0 e))) (demK (demK (look' 6 e))) fr up (fun r2 f2 u2 =>
  hLd true 8 false (demK r2) f2 u2 (fun r3 f3 u3 =>
  hCall C 43 [(demK r3)] f3 u3 (fun r4 f4 u4 =>
  guardK true (demK r4) (fun K => K (demK (look' 0 e)) f4 u4) f4 u4 (fun r6 f6 u6 =>
  guardK true (demK r4) (fun K => K (demK (look' 0 e)) f6 u6) f6 u6 (fun r7 f7 u7 =>
  guardK true (demK r4) (fun K => K (demK (look' 6 e)) f7 u7) f7 u7 (fun r8 f8 u8 =>
  guardK true (demK r4) (fun K => hIa 8 (demK r7) (demK r8) f8 u8 K) f8 u8 (fun r9 f9 u9 =>
  guardK true (demK r4) (fun K => hFa 6 (demK r9) f9 u9 K) f9 u9 (fun r10 f10 u10 =>
  guardK true (demK r4) (fun K => hLd false 1 false (demK r10) f10 u10 K) f10 u10 (fun r11 f11 u11 =>
  guardK true (demK r4) (fun K => hCall C 55 [(demK r6), (demK r11)] f11 u11 K) f11 u11 (fun r12 f12 u12 =>
  guardK true (demK r4) (fun K => hBin .lss false (demK r12) (.c (.p (pI 0))) f12 u12 K) f12 u12 (fun r13 f13 u13 =>
  hPick  (demK (demK r4)) (demK r13) (.c (.p (pB false))) f13 u13 (fun r14 f14 u14 =>
  headK (look' 0 e) (fun v0 => headK (look' 6 e) (fun v6 => headK r14 (fun v69 => k .normal [(0, v0), (6, v6), (69, v69)] f14 u14)))))))))))))))

noncomputable def g44_13 (C : Go.ScE.Callee) : Env → Fram → List Fram → KX → R0 := fun e fr up k =>
  headK (.c (.own 1 [])) (fun v2 => headK (.c (.own 1 [])) (fun v3 => headK (.c (.p (pI 212))) (fun v4 => k .normal [(2, v2), (3, v3), (4, v4)] fr up)))

noncomputable def g44_14 (C : Go.ScE.Callee) : Env → Fram → List Fram → KX → R0 := fun e fr up k =>
  hBin .add false (demK (demK (look' 6 e))) (.c (.p (pI 1))) fr up (fun r1 f1 u1 =>
  headK (look' 0 e) (fun v0 => headK (demK r1) (fun v6 => k .normal [(0, v0), (6, v6)] f1 u1)))

noncomputable def g44_15 (C : Go.ScE.Callee) : Env → Fram → List Fram → KX → R0 := fun e fr up k =>
  hCall C 56 [(demK (look' 0 e))] fr up (fun r1 f1 u1 =>
  hGen C (.ext 0) [(demK r1)] f1 u1 (fun r3 f3 u3 =>
  hGen C (.ext 1) [r1] f3 u3 (fun r4 f4 u4 =>
  headK (look' 0 e) (fun v0 => headK r3 (fun v7 => headK r4 (fun v8 => k .normal [(0, v0), (7, v7), (8, v8)] f4 u4))))))

noncomputable def g44_16 (C : Go.ScE.Callee) : Env → Fram → List Fram → KX → R0 := fun e fr up k =>
  hBlds 1 [(pK .u32 0)] 0 [] [] fr up (fun r0 f0 u0 =>
  headK (look' 0 e) (fun v0 => headK (look' 7 e) (fun v7 => headK (look' 8 e) (fun v8 => headK r0 (fun v9 => k .normal [(0, v0), (7, v7), (8, v8), (9, v9)] f0 u0)))))

noncomputable def g44_17 (C : Go.ScE.Callee) : Env → Fram → List Fram → KX → R0 := fun e fr up k =>
  headK (look' 0 e) (fun v0 => headK (look' 7 e) (fun v7 => headK (look' 8 e) (fun v8 => headK (look' 9 e) (fun v9 => headK (.c (.p (pI 0))) (fun v10 => k .normal [(0, v0), (7, v7), (8, v8), (9, v9), (10, v10)] fr up)))))

noncomputable def g44_18 (C : Go.ScE.Callee) : Env → Fram → List Fram → KX → R0 := fun e fr up k =>
  hLenL  (demK (demK (look' 0 e))) fr up (fun r2 f2 u2 =>
  hBin .lss false (demK (demK (look' 10 e))) (demK r2) f2 u2 (fun r3 f3 u3 =>
  headK (look' 0 e) (fun v0 => headK (look' 7 e) (fun v7 => headK (look' 8 e) (fun v8 => headK (look' 9 e) (fun v9 => headK (look' 10 e) (fun v10 => headK r3 (fun v79 => k .normal [(0, v0), (7, v7), (8, v8), (9, v9), (10, v10), (79, v79)] f3 u3))))))))

noncomputable def g44_19 (C : Go.ScE.Callee) : Env → Fram → List Fram → KX → R0 := fun e fr up k =>
  headK (look' 0 e) (fun v0 => headK (look' 7 e) (fun v7 => headK (look' 8 e) (fun v8 => headK (look' 9 e) (fun v9 => headK (look' 10 e) (fun v10 => headK (.c (.p (pI 0))) (fun v11 => k .normal [(0, v0), (7, v7), (8, v8), (9, v9), (10, v10), (11, v11)] fr up))))))

noncomputable def g44_20 (C : Go.ScE.Callee) : Env → Fram → List Fram → KX → R0 := fun e fr up k =>
  hIa 8 (demK (demK (look' 0 e))) (demK (demK (look' 10 e))) fr up (fun r2 f2 u2 =>
  hLd true 8 false (demK r2) f2 u2 (fun r3 f3 u3 =>
  hCall C 43 [(demK r3)] f3 u3 (fun r4 f4 u4 =>
  headK (look' 0 e) (fun v0 => headK (look' 7 e) (fun v7 => headK (look' 8 e) (fun v8 => headK (look' 9 e) (fun v9 => headK (look' 10 e) (fun v10 => headK (look' 11 e) (fun v11 => headK r4 (fun v86 => k .normal [(0, v0), (7, v7), (8, v8), (9, v9), (10, v10), (11, v11), (86, v86)] f4 u4))))))))))

noncomputable def g44_21 (C : Go.ScE.Callee) : Env → Fram → List Fram → KX → R0 := fun e fr up k =>
  hIa 8 (demK (demK (look' 0 e))) (demK (demK (look' 10 e))) fr up (fun r4 f4 u4 =>
  hFa 6 (demK r4) f4 u4 (fun r5 f5 u5 =>
  hLd false 1 false (demK r5) f5 u5 (fun r6 f6 u6 =>
  hCall C 55 [(demK (look' 0 e)), (demK r6)] f6 u6 (fun r7 f7 u7 =>
  hIa 1 (demK (demK (look' 8 e))) (demK r7) f7 u7 (fun r8 f8 u8 =>
  hLd false 1 false (demK r8) f8 u8 (fun r9 f9 u9 =>
  headK (look' 0 e) (fun v0 => headK (look' 7 e) (fun v7 => headK (look' 8 e) (fun v8 => headK (look' 9 e) (fun v9 => headK (look' 10 e) (fun v10 => headK (demK r9) (fun v11 => k .normal [(0, v0), (7, v7), (8, v8), (9, v9), (10, v10), (11, v11)] f9 u9))))))))))))

noncomputable def g44_22 (C : Go.ScE.Callee) : Env → Fram → List Fram → KX → R0 := fun e fr up k =>
  hIa 8 (demK (demK (look' 0 e))) (demK (demK (look' 10 e))) fr up (fun r2 f2 u2 =>
  hLd true 8 false (demK r2) f2 u2 (fun r3 f3 u3 =>
  hIa 1 (demK (demK (look' 7 e))) (demK (demK (look' 10 e))) f3 u3 (fun r6 f6 u6 =>
  hLd false 1 false (demK r6) f6 u6 (fun r7 f7 u7 =>
  hIa 1 (demK (demK (look' 8 e))) (demK (demK (look' 10 e))) f7 u7 (fun r10 f10 u10 =>
  hLd false 1 false (demK r10) f10 u10 (fun r11 f11 u11 =>
  Bool.rec (motive := fun _ => R0) fail0 (hCall C 57 [(demK r3), (demK r7), (demK r11), (demK (demK (look' 11 e)))] f11 u11 (fun r13 f13 u13 =>
  headK (look' 0 e) (fun v0 => headK (look' 7 e) (fun v7 => headK (look' 8 e) (fun v8 => headK (look' 9 e) (fun v9 => headK (look' 10 e) (fun v10 => headK r13 (fun v12 => k .normal [(0, v0), (7, v7), (8, v8), (9, v9), (10, v10), (12, v12)] f13 u13)))))))) (chkD (.call 57) false [] [(demK r3), (demK r7), (demK r11), (demK (demK (look' 11 e)))])))))))

noncomputable def g44_23 (C : Go.ScE.Callee) : Env → Fram → List Fram → KX → R0 := fun e fr up k =>
  headK (look' 0 e) (fun v0 => headK (look' 7 e) (fun v7 => headK (look' 8 e) (fun v8 => headK (look' 9 e) (fun v9 => headK (look' 10 e) (fun v10 => headK (look' 12 e) (fun v12 => headK (.c (.p (pI 0))) (fun v13 => k .normal [(0, v0), (7, v7), (8, v8), (9, v9), (10, v10), (12, v12), (13, v13)] fr up)))))))

noncomputable def g44_24 (C : Go.ScE.Callee) : Env → Fram → List Fram → KX → R0 := fun e fr up k =>
  hLenL  (demK (demK (look' 12 e))) fr up (fun r2 f2 u2 =>
  hBin .lss false (demK (demK (look' 13 e))) (demK r2) f2 u2 (fun r3 f3 u3 =>
  headK (look' 0 e) (fun v0 => headK (look' 7 e) (fun v7 => headK (look' 8 e) (fun v8 => headK (look' 9 e) (fun v9 => headK (look' 10 e) (fun v10 => headK (look' 12 e) (fun v12 => headK (look' 13 e) (fun v13 => headK r3 (fun v114 => k .normal [(0, v0), (7, v7), (8, v8), (9, v9), (10, v10), (12, v12), (13, v13), (114, v114)] f3 u3))))))))))

noncomputable def g44_25 (C : Go.ScE.Callee) : Env → Fram → List Fram → KX → R0 := fun e fr up k =>
  hIa 5 (demK (demK (look' 12 e))) (demK (demK (look' 13 e))) fr up (fun r2 f2 u2 =>
  hLd true 5 false (demK r2) f2 u2 (fun r3 f3 u3 =>
  hCall C 58 [(demK r3)] f3 u3 (fun r4 f4 u4 =>
  hGen C (.ext 0) [(demK (demK r4))] f4 u4 (fun r6 f6 u6 =>
  hGen C (.ext 1) [(demK (demK r4))] f6 u6 (fun r7 f7 u7 =>
  headK (look' 0 e) (fun v0 => headK (look' 7 e) (fun v7 => headK (look' 8 e) (fun v8 => headK (look' 9 e) (fun v9 => headK (look' 10 e) (fun v10 => headK (look' 12 e) (fun v12 => headK (look' 13 e) (fun v13 => headK (demK r6) (fun v14 => k .normal [(0, v0), (7, v7), (8, v8), (9, v9), (10, v10), (12, v12), (13, v13), (14, v14)] f7 u7)))))))))))))

noncomputable def g44_26 (C : Go.ScE.Callee) : Env → Fram → List Fram → KX → R0 := fun e fr up k =>
  hBlds 1 [(pK .u32 0)] 1 [0] [(demK (demK (look' 14 e)))] fr up (fun r2 f2 u2 =>
  hApp 1 4 (look' 9 e) (demK r2) f2 u2 (fun r3 f3 u3 =>
  headK (look' 0 e) (fun v0 => headK (look' 7 e) (fun v7 => headK (look' 8 e) (fun v8 => headK r3 (fun v9 => headK (look' 10 e) (fun v10 => headK (look' 12 e) (fun v12 => headK (look' 13 e) (fun v13 => k .normal [(0, v0), (7, v7), (8, v8), (9, v9), (10, v10), (12, v12), (13, v13)] f3 u3)))))))))

noncomputable def g44_27 (C : Go.ScE.Callee) : Env → Fram → List Fram → KX → R0 := fun e fr up k =>
  hBin .add false (demK (demK (look' 13 e))) (.c (.p (pI 1))) fr up (fun r1 f1 u1 =>
  headK (look' 0 e) (fun v0 => headK (look' 7 e) (fun v7 => headK (look' 8 e) (fun v8 => headK (look' 9 e) (fun v9 => headK (look' 10 e) (fun v10 => headK (look' 12 e) (fun v12 => headK (demK r1) (fun v13 => k .normal [(0, v0), (7, v7), (8, v8), (9, v9), (10, v10), (12, v12), (13, v13)] f1 u1))))))))

noncomputable def g44_28 (C : Go.ScE.Callee) : Env → Fram → List Fram → KX → R0 := fun e fr up k =>
  hBin .add false (demK (demK (look' 10 e))) (.c (.p (pI 1))) fr up (fun r1 f1 u1 =>
  headK (look' 0 e) (fun v0 => headK (look' 7 e) (fun v7 => headK (look' 8 e) (fun v8 => headK (look' 9 e) (fun v9 => headK (demK r1) (fun v10 => k .normal [(0, v0), (7, v7), (8, v8), (9, v9), (10, v10)] f1 u1))))))

noncomputable def g44_29 (C : Go.ScE.Callee) : Env → Fram → List Fram → KX → R0 := fun e fr up k =>
  hLenL  (demK (look' 0 e)) fr up (fun r3 f3 u3 =>
  hGen C (.slL 1 false true) [(demK (look' 8 e)), (demK r3)] f3 u3 (fun r4 f4 u4 =>
  headK (look' 9 e) (fun v2 => headK r4 (fun v3 => headK (.c (.p (pI 0))) (fun v4 => k .normal [(2, v2), (3, v3), (4, v4)] f4 u4)))))

noncomputable def h44 : KC := fun C n => seqK (g44_0 C) (seqK (seqK (g44_1 C) (condK (.t 18) (seqK (g44_2 C) (retK)) (skipK))) (seqK (seqK (g44_3 C) (blockK 0 (loopsK [0, 5] [] (seqK (seqK (g44_4 C) (condK (.t 22) (skipK) (exitK 0))) (seqK (blockK 1 (seqK (seqK (g44_5 C) (condK (.t 30) (seqK (g44_6 C) (retK)) (skipK))) (seqK (g44_7 C) (condK (.t 48) (seqK (g44_8 C) (retK)) (skipK))))) (g44_9 C))) n))) (seqK (seqK (g44_10 C) (blockK 2 (loopsK [0, 6] [] (seqK (seqK (g44_11 C) (condK (.t 52) (skipK) (exitK 2))) (seqK (blockK 3 (seqK (g44_12 C) (condK (.t 69) (seqK (g44_13 C) (retK)) (skipK)))) (g44_14 C))) n))) (seqK (g44_15 C) (seqK (g44_16 C) (seqK (seqK (g44_17 C) (blockK 4 (loopsK [0, 7, 8, 9, 10] [] (seqK (seqK (g44_18 C) (condK (.t 79) (skipK) (exitK 4))) (seqK (blockK 5 (seqK (g44_19 C) (seqK (seqK (g44_20 C) (condK (.t 86) (g44_21 C) (skipK))) (seqK (g44_22 C) (seqK (g44_23 C) (blockK 6 (loopsK [0, 7, 8, 9, 10, 12, 13] [] (seqK (seqK (g44_24 C) (condK (.t 114) (skipK) (exitK 6))) (seqK (blockK 7 (seqK (g44_25 C) (g44_26 C))) (g44_27 C))) n))))))) (g44_28 C))) n))) (seqK (g44_29 C) (retK))))))))
theorem h44_eq (C : Go.ScE.Callee) (n : Nat) : h44 C n = evK C n x44.body := by kernel_rfl

noncomputable def g45_0 (C : Go.ScE.Callee) : Env → Fram → List Fram → KX → R0 := fun e fr up k =>
  hGen C (.alloc 0 true [(pI 0), (pI 0), (pI 0), (pI 0), (pI 0)]) [] fr up (fun r0 f0 u0 =>
  headK (look' 0 e) (fun v0 => headK r0 (fun v2 => k .normal [(0, v0), (2, v2)] f0 u0)))

noncomputable def g45_1 (C : Go.ScE.Callee) : Env → Fram → List Fram → KX → R0 := fun e fr up k =>
  hGen C (.cvi .i64) [(demK (demK (look' 0 e)))] fr up (fun r1 f1 u1 =>
  headK (look' 0 e) (fun v0 => headK (look' 2 e) (fun v2 => headK (demK r1) (fun v4 => k .normal [(0, v0), (2, v2), (4, v4)] f1 u1))))

noncomputable def g45_2 (C : Go.ScE.Callee) : Env → Fram → List Fram → KX → R0 := fun e fr up k =>
  hCall C 59 [] fr up (fun r0 f0 u0 =>
  headK (look' 0 e) (fun v0 => headK (look' 2 e) (fun v2 => headK (look' 4 e) (fun v4 => headK r0 (fun v5 => k .normal [(0, v0), (2, v2), (4, v4), (5, v5)] f0 u0)))))

noncomputable def g45_3 (C : Go.ScE.Callee) : Env → Fram → List Fram → KX → R0 := fun e fr up k =>
  hBin .quo false (demK (demK (look' 4 e))) (.c (.p (pI 67108864))) fr up (fun r1 f1 u1 =>
  hBld [(pI 0), (pI 0), (pI 0), (pI 0), (pI 0)] [(0, 1)] [(demK r1)] f1 u1 (fun r2 f2 u2 =>
  hGen C (.alloc 1 true [(pI 0), (pI 0), (pI 0), (pI 0), (pI 0)]) [] f2 u2 (fun r3 f3 u3 =>
  hSt 5 (demK r3) (demK r2) f3 u3 (fun r4 f4 u4 =>
  headK (look' 0 e) (fun v0 => headK (look' 2 e) (fun v2 => headK (look' 4 e) (fun v4 => headK (look' 5 e) (fun v5 => headK r3 (fun v6 => k .normal [(0, v0), (2, v2), (4, v4), (5, v5), (6, v6)] f4 u4)))))))))

noncomputable def g45_4 (C : Go.ScE.Callee) : Env → Fram → List Fram → KX → R0 := fun e fr up k =>
  hFa 0 (demK (look' 6 e)) fr up (fun r0 f0 u0 =>
  hLd false 1 false (demK r0) f0 u0 (fun r1 f1 u1 =>
  hLenL  (demK (demK (look' 5 e))) f1 u1 (fun r3 f3 u3 =>
  hBin .geq false (demK r1) (demK r3) f3 u3 (fun r4 f4 u4 =>
  headK (look' 0 e) (fun v0 => headK (look' 2 e) (fun v2 => headK (look' 4 e) (fun v4 => headK (look' 5 e) (fun v5 => headK (look' 6 e) (fun v6 => headK r4 (fun v20 => k .normal [(0, v0), (2, v2), (4, v4), (5, v5), (6, v6), (20, v20)] f4 u4))))))))))

noncomputable def g45_5 (C : Go.ScE.Callee) : Env → Fram → List Fram → KX → R0 := fun e fr up k =>
  hBld [(pI 0), (pI 0), (pI 0), (pI 0), (pI 0)] [] [] fr up (fun r0 f0 u0 =>
  hSt 5 (demK (look' 2 e)) (demK r0) f0 u0 (fun r1 f1 u1 =>
  headK (look' 2 e) (fun v2 => headK (.c (.p (pB false))) (fun v3 => k .normal [(2, v2), (3, v3)] f1 u1))))

noncomputable def g45_6 (C : Go.ScE.Callee) : Env → Fram → List Fram → KX → R0 := fun e fr up k =>
  hFa 0 (demK (look' 6 e)) fr up (fun r1 f1 u1 =>
  hLd false 1 false (demK r1) f1 u1 (fun r2 f2 u2 =>
  hIa 6 (demK (look' 5 e)) (demK r2) f2 u2 (fun r3 f3 u3 =>
  hLd true 6 false (demK r3) f3 u3 (fun r4 f4 u4 =>
  hGen C (.alloc 2 true [(pB false), (pB false), (pB false), (pK .u64 0), (pI 0), (pI 0)]) [] f4 u4 (fun r5 f5 u5 =>
  hSt 6 (demK r5) (demK r4) f5 u5 (fun r6 f6 u6 =>
  headK (look' 0 e) (fun v0 => headK (look' 2 e) (fun v2 => headK (look' 4 e) (fun v4 => headK (look' 6 e) (fun v6 => headK r5 (fun v7 => k .normal [(0, v0), (2, v2), (4, v4), (6, v6), (7, v7)] f6 u6)))))))))))

noncomputable def g45_7 (C : Go.ScE.Callee) : Env → Fram → List Fram → KX → R0 := fun e fr up k =>
  hBin .quo false (demK (demK (look' 4 e))) (.c (.p (pI 2097152))) fr up (fun r1 f1 u1 =>
  hBin .rem false (demK r1) (.c (.p (pI 32))) f1 u1 (fun r2 f2 u2 =>
  hFa 1 (demK (look' 6 e)) f2 u2 (fun r3 f3 u3 =>
  hSt 1 (demK r3) (demK r2) f3 u3 (fun r4 f4 u4 =>
  headK (look' 0 e) (fun v0 => headK (look' 2 e) (fun v2 => headK (look' 4 e) (fun v4 => headK (look' 6 e) (fun v6 => headK (look' 7 e) (fun v7 => k .normal [(0, v0), (2, v2), (4, v4), (6, v6), (7, v7)] f4 u4)))))))))

noncomputable def g45_8 (C : Go.ScE.Callee) : Env → Fram → List Fram → KX → R0 := fun e fr up k =>
  hFa 1 (demK (look' 7 e)) fr up (fun r0 f0 u0 =>
  hLd false 1 false (demK r0) f0 u0 (fun r1 f1 u1 =>
  headK (look' 0 e) (fun v0 => headK (look' 2 e) (fun v2 => headK (look' 4 e) (fun v4 => headK (look' 6 e) (fun v6 => headK (look' 7 e) (fun v7 => headK r1 (fun v32 => k .normal [(0, v0), (2, v2), (4, v4), (6, v6), (7, v7), (32, v32)] f1 u1))))))))

noncomputable def g45_9 (C : Go.ScE.Callee) : Env → Fram → List Fram → KX → R0 := fun e fr up k =>
  hBin .quo false (demK (demK (look' 4 e))) (.c (.p (pI 65536))) fr up (fun r1 f1 u1 =>
  hBin .rem false (demK r1) (.c (.p (pI 32))) f1 u1 (fun r2 f2 u2 =>
  hFa 2 (demK (look' 6 e)) f2 u2 (fun r3 f3 u3 =>
  hSt 1 (demK r3) (demK r2) f3 u3 (fun r4 f4 u4 =>
  headK (look' 0 e) (fun v0 => headK (look' 2 e) (fun v2 => headK (look' 4 e) (fun v4 => headK (look' 6 e) (fun v6 => headK (look' 7 e) (fun v7 => k .normal [(0, v0), (2, v2), (4, v4), (6, v6), (7, v7)] f4 u4)))))))))

noncomputable def g45_10 (C : Go.ScE.Callee) : Env → Fram → List Fram → KX → R0 := fun e fr up k =>
  hFa 2 (demK (look' 7 e)) fr up (fun r0 f0 u0 =>
  hLd false 1 false (demK r0) f0 u0 (fun r1 f1 u1 =>
  headK (look' 0 e) (fun v0 => headK (look' 2 e) (fun v2 => headK (look' 4 e) (fun v4 => headK (look' 6 e) (fun v6 => headK (look' 7 e) (fun v7 => headK r1 (fun v38 => k .normal [(0, v0), (2, v2), (4, v4), (6, v6), (7, v7), (38, v38)] f1 u1))))))))

noncomputable def g45_11 (C : Go.ScE.Callee) : Env → Fram → List Fram → KX → R0 := fun e fr up k =>
  hBin .quo false (demK (demK (look' 4 e))) (.c (.p (pI 2048))) fr up (fun r1 f1 u1 =>
  hBin .rem false (demK r1) (.c (.p (pI 32))) f1 u1 (fun r2 f2 u2 =>
  hFa 3 (demK (look' 6 e)) f2 u2 (fun r3 f3 u3 =>
  hSt 1 (demK r3) (demK r2) f3 u3 (fun r4 f4 u4 =>
  headK (look' 0 e) (fun v0 => headK (look' 2 e) (fun v2 => headK (look' 4 e) (fun v4 => headK (look' 6 e) (fun v6 => headK (look' 7 e) (fun v7 => k .normal [(0, v0), (2, v2), (4, v4), (6, v6), (7, v7)] f4 u4)))))))))

noncomputable def g45_12 (C : Go.ScE.Callee) : Env → Fram → List Fram → KX → R0 := fun e fr up k =>
  hFa 3 (demK (look' 7 e)) fr up (fun r0 f0 u0 =>
  hLd false 1 false (demK r0) f0 u0 (fun r1 f1 u1 =>
  hBin .gtr false (demK r1) (.c (.p (pK .u64 0))) f1 u1 (fun r2 f2 u2 =>
  headK (look' 0 e) (fun v0 => headK (look' 2 e) (fun v2 => headK (look' 4 e) (fun v4 => headK (look' 6 e) (fun v6 => headK (look' 7 e) (fun v7 => headK r2 (fun v45 => k .normal [(0, v0), (2, v2), (4, v4), (6, v6), (7, v7), (45, v45)] f2 u2)))))))))

noncomputable def g45_13 (C : Go.ScE.Callee) : Env → Fram → List Fram → KX → R0 := fun e fr up k =>
  hFa 3 (demK (look' 7 e)) fr up (fun r1 f1 u1 =>
  hLd false 1 false (demK r1) f1 u1 (fun r2 f2 u2 =>
  hBin .shl false (.c (.p (pI 1))) (demK r2) f2 u2 (fun r3 f3 u3 =>
  hBin .rem false (demK (demK (look' 4 e))) (demK r3) f3 u3 (fun r4 f4 u4 =>
  hFa 4 (demK (look' 6 e)) f4 u4 (fun r5 f5 u5 =>
  hSt 1 (demK r5) (demK r4) f5 u5 (fun r6 f6 u6 =>
  headK (look' 0 e) (fun v0 => headK (look' 2 e) (fun v2 => headK (look' 6 e) (fun v6 => headK (look' 7 e) (fun v7 => k .normal [(0, v0), (2, v2), (6, v6), (7, v7)] f6 u6))))))))))

noncomputable def g45_14 (C : Go.ScE.Callee) : Env → Fram → List Fram → KX → R0 := fun e fr up k =>
  hFa 4 (demK (look' 6 e)) fr up (fun r0 f0 u0 =>
  hLd false 1 false (demK r0) f0 u0 (fun r1 f1 u1 =>
  hFa 5 (demK (look' 7 e)) f1 u1 (fun r2 f2 u2 =>
  hLd false 1 false (demK r2) f2 u2 (fun r3 f3 u3 =>
  hBin .gtr false (demK r1) (demK r3) f3 u3 (fun r4 f4 u4 =>
  guardK true (demK r4) (fun K => hFa 4 (demK (look' 7 e)) f4 u4 K) f4 u4 (fun r6 f6 u6 =>
  guardK true (demK r4) (fun K => hLd false 1 false (demK r6) f6 u6 K) f6 u6 (fun r7 f7 u7 =>
  guardK true (demK r4) (fun K => hBin .lss false (demK r7) (.c (.p (pI 0))) f7 u7 K) f7 u7 (fun r8 f8 u8 =>
  hPick  (demK (demK r4)) (demK r8) (.c (.p (pB false))) f8 u8 (fun r9 f9 u9 =>
  headK (look' 0 e) (fun v0 => headK (look' 2 e) (fun v2 => headK (look' 6 e) (fun v6 => headK (look' 7 e) (fun v7 => headK r9 (fun v61 => k .normal [(0, v0), (2, v2), (6, v6), (7, v7), (61, v61)] f9 u9))))))))))))))

noncomputable def g45_15 (C : Go.ScE.Callee) : Env → Fram → List Fram → KX → R0 := fun e fr up k =>
  hFa 4 (demK (look' 6 e)) fr up (fun r0 f0 u0 =>
  hLd false 1 false (demK r0) f0 u0 (fun r1 f1 u1 =>
  hFa 3 (demK (look' 7 e)) f1 u1 (fun r2 f2 u2 =>
  hLd false 1 false (demK r2) f2 u2 (fun r3 f3 u3 =>
  hBin .shl false (.c (.p (pI 1))) (demK r3) f3 u3 (fun r4 f4 u4 =>
  hBin .sub false (demK r1) (demK r4) f4 u4 (fun r5 f5 u5 =>
  hFa 4 (demK (look' 6 e)) f5 u5 (fun r6 f6 u6 =>
  hSt 1 (demK r6) (demK r5) f6 u6 (fun r7 f7 u7 =>
  headK (look' 0 e) (fun v0 => headK (look' 2 e) (fun v2 => headK (look' 6 e) (fun v6 => k .normal [(0, v0), (2, v2), (6, v6)] f7 u7)))))))))))

noncomputable def g45_16 (C : Go.ScE.Callee) : Env → Fram → List Fram → KX → R0 := fun e fr up k =>
  hLd true 5 false (demK (look' 6 e)) fr up (fun r0 f0 u0 =>
  hCall C 58 [(demK r0)] f0 u0 (fun r1 f1 u1 =>
  hGen C (.ext 0) [(demK (demK r1))] f1 u1 (fun r3 f3 u3 =>
  hGen C (.ext 1) [(demK (demK r1))] f3 u3 (fun r4 f4 u4 =>
  headK (look' 0 e) (fun v0 => headK (look' 2 e) (fun v2 => headK (look' 6 e) (fun v6 => headK (demK r3) (fun v8 => headK (demK r4) (fun v9 => k .normal [(0, v0), (2, v2), (6, v6), (8, v8), (9, v9)] f4 u4)))))))))

noncomputable def g45_17 (C : Go.ScE.Callee) : Env → Fram → List Fram → KX → R0 := fun e fr up k =>
  hBin .neq false (demK (demK (look' 9 e))) (.c (.p (pI 0))) fr up (fun r1 f1 u1 =>
  guardK false (demK r1) (fun K => K (demK (look' 8 e)) f1 u1) f1 u1 (fun r3 f3 u3 =>
  guardK false (demK r1) (fun K => K (demK (look' 0 e)) f3 u3) f3 u3 (fun r4 f4 u4 =>
  guardK false (demK r1) (fun K => hBin .neq false (demK r3) (demK r4) f4 u4 K) f4 u4 (fun r5 f5 u5 =>
  hPick  (demK (demK r1)) (.c (.p (pB true))) (demK r5) f5 u5 (fun r6 f6 u6 =>
  headK (look' 2 e) (fun v2 => headK (look' 6 e) (fun v6 => headK r6 (fun v80 => k .normal [(2, v2), (6, v6), (80, v80)] f6 u6))))))))

noncomputable def g45_18 (C : Go.ScE.Callee) : Env → Fram → List Fram → KX → R0 := fun e fr up k =>
  hBld [(pI 0), (pI 0), (pI 0), (pI 0), (pI 0)] [] [] fr up (fun r0 f0 u0 =>
  hSt 5 (demK (look' 2 e)) (demK r0) f0 u0 (fun r1 f1 u1 =>
  headK (look' 2 e) (fun v2 => headK (.c (.p (pB false))) (fun v3 => k .normal [(2, v2), (3, v3)] f1 u1))))

noncomputable def g45_19 (C : Go.ScE.Callee) : Env → Fram → List Fram → KX → R0 := fun e fr up k =>
  hLd true 5 false (demK (look' 6 e)) fr up (fun r0 f0 u0 =>
  hSt 5 (demK (look' 2 e)) (demK r0) f0 u0 (fun r1 f1 u1 =>
  headK (look' 2 e) (fun v2 => headK (.c (.p (pB true))) (fun v3 => k .normal [(2, v2), (3, v3)] f1 u1))))

noncomputable def h45 : KC := fun C n => seqK (g45_0 C) (seqK (g45_1 C) (seqK (g45_2 C) (seqK (g45_3 C) (seqK (seqK (g45_4 C) (condK (.t 20) (seqK (g45_5 C) (retK)) (skipK))) (seqK (g45_6 C) (seqK (g45_7 C) (seqK (seqK (g45_8 C) (condK (.t 32) (g45_9 C) (skipK))) (seqK (seqK (g45_10 C) (condK (.t 38) (g45_11 C) (skipK))) (seqK (seqK (g45_12 C) (condK (.t 45) (seqK (g45_13 C) (seqK (g45_14 C) (condK (.t 61) (g45_15 C) (skipK)))) (skipK))) (seqK (g45_16 C) (seqK (seqK (g45_17 C) (condK (.t 80) (seqK (g45_18 C) (retK)) (skipK))) (seqK (g45_19 C) (retK)))))))))))))
theorem h45_eq (C : Go.ScE.Callee) (n : Nat) : h45 C n = evK C n x45.body := by kernel_rfl

noncomputable def g46_0 (C : Go.ScE.Callee) : Env → Fram → List Fram → KX → R0 := fun e fr up k =>
  hGen C (.box 0) [(demK (look' 1 e))] fr up (fun r0 f0 u0 =>
  headK (look' 0 e) (fun v0 => headK r0 (fun v3 => k .normal [(0, v0), (3, v3)] f0 u0)))

noncomputable def g46_1 (C : Go.ScE.Callee) : Env → Fram → List Fram → KX → R0 := fun e fr up k =>
  hFa 1 (demK (look' 3 e)) fr up (fun r1 f1 u1 =>
  hLd false 1 false (demK r1) f1 u1 (fun r2 f2 u2 =>
  hGen C (.nck) [(demK (demK (look' 0 e)))] f2 u2 (fun r3 f3 u3 =>
  hFa 0 (demK r3) f3 u3 (fun r4 f4 u4 =>
  hFa 5 (demK r4) f4 u4 (fun r5 f5 u5 =>
  hIaa 1 32 (demK r5) (demK r2) f5 u5 (fun r6 f6 u6 =>
  hLd false 1 false (demK r6) f6 u6 (fun r7 f7 u7 =>
  headK (look' 0 e) (fun v0 => headK (look' 3 e) (fun v3 => headK (demK r7) (fun v5 => k .normal [(0, v0), (3, v3), (5, v5)] f7 u7))))))))))

noncomputable def g46_2 (C : Go.ScE.Callee) : Env → Fram → List Fram → KX → R0 := fun e fr up k =>
  hFa 2 (demK (look' 3 e)) fr up (fun r1 f1 u1 =>
  hLd false 1 false (demK r1) f1 u1 (fun r2 f2 u2 =>
  hGen C (.nck) [(demK (demK (look' 0 e)))] f2 u2 (fun r3 f3 u3 =>
  hFa 0 (demK r3) f3 u3 (fun r4 f4 u4 =>
  hFa 5 (demK r4) f4 u4 (fun r5 f5 u5 =>
  hIaa 1 32 (demK r5) (demK r2) f5 u5 (fun r6 f6 u6 =>
  hLd false 1 false (demK r6) f6 u6 (fun r7 f7 u7 =>
  headK (look' 0 e) (fun v0 => headK (look' 3 e) (fun v3 => headK (look' 5 e) (fun v5 => headK (demK r7) (fun v6 => k .normal [(0, v0), (3, v3), (5, v5), (6, v6)] f7 u7)))))))))))

noncomputable def g46_3 (C : Go.ScE.Callee) : Env → Fram → List Fram → KX → R0 := fun e fr up k =>
  headK (look' 0 e) (fun v0 => headK (look' 3 e) (fun v3 => headK (look' 5 e) (fun v5 => headK (look' 6 e) (fun v6 => headK (.c (.p (pI 0))) (fun v7 => k .normal [(0, v0), (3, v3), (5, v5), (6, v6), (7, v7)] fr up)))))

noncomputable def g46_4 (C : Go.ScE.Callee) : Env → Fram → List Fram → KX → R0 := fun e fr up k =>
  headK (look' 0 e) (fun v0 => headK (look' 3 e) (fun v3 => headK (look' 5 e) (fun v5 => headK (look' 6 e) (fun v6 => headK (look' 7 e) (fun v7 => headK (.c (.p (pB true))) (fun v8 => k .normal [(0, v0), (3, v3), (5, v5), (6, v6), (7, v7), (8, v8)] fr up))))))

noncomputable def g46_5 (C : Go.ScE.Callee) : Env → Fram → List Fram → KX → R0 := fun e fr up k =>
  hGen C (.nck) [(demK (demK (look' 0 e)))] fr up (fun r1 f1 u1 =>
  hFa 0 (demK r1) f1 u1 (fun r2 f2 u2 =>
  hFa 4 (demK r2) f2 u2 (fun r3 f3 u3 =>
  hLd false 1 false (demK r3) f3 u3 (fun r4 f4 u4 =>
  hBin .add false (demK r4) (.c (.p (pI 1))) f4 u4 (fun r5 f5 u5 =>
  headK (look' 0 e) (fun v0 => headK (look' 3 e) (fun v3 => headK (look' 5 e) (fun v5 => headK (look' 6 e) (fun v6 => headK (look' 7 e) (fun v7 => headK (look' 8 e) (fun v8 => headK (demK r5) (fun v9 => k .normal [(0, v0), (3, v3), (5, v5), (6, v6), (7, v7), (8, v8), (9, v9)] f5 u5))))))))))))

noncomputable def g46_6 (C : Go.ScE.Callee) : Env → Fram → List Fram → KX → R0 := fun e fr up k =>
  hFa 0 (demK (look' 3 e)) fr up (fun r0 f0 u0 =>
  hLd false 1 false (demK r0) f0 u0 (fun r1 f1 u1 =>
  headK (look' 0 e) (fun v0 => headK (look' 3 e) (fun v3 => headK (look' 5 e) (fun v5 => headK (look' 6 e) (fun v6 => headK (look' 7 e) (fun v7 => headK (look' 8 e) (fun v8 => headK (look' 9 e) (fun v9 => headK r1 (fun v34 => k .normal [(0, v0), (3, v3), (5, v5), (6, v6), (7, v7), (8, v8), (9, v9), (34, v34)] f1 u1))))))))))

noncomputable def g46_7 (C : Go.ScE.Callee) : Env → Fram → List Fram → KX → R0 := fun e fr up k =>
  hBin .eql false (demK (look' 34 e)) (.c (.p (pI 0))) fr up (fun r0 f0 u0 =>
  headK (look' 0 e) (fun v0 => headK (look' 3 e) (fun v3 => headK (look' 5 e) (fun v5 => headK (look' 6 e) (fun v6 => headK (look' 7 e) (fun v7 => headK (look' 8 e) (fun v8 => headK (look' 9 e) (fun v9 => headK (look' 34 e) (fun v34 => headK (demK r0) (fun v47 => k .normal [(0, v0), (3, v3), (5, v5), (6, v6), (7, v7), (8, v8), (9, v9), (34, v34), (47, v47)] f0 u0))))))))))

noncomputable def g46_8 (C : Go.ScE.Callee) : Env → Fram → List Fram → KX → R0 := fun e fr up k =>
  hGen C (.nck) [(demK (demK (look' 0 e)))] fr up (fun r2 f2 u2 =>
  hFa 0 (demK r2) f2 u2 (fun r3 f3 u3 =>
  hFa 1 (demK r3) f3 u3 (fun r4 f4 u4 =>
  hSt 1 (demK r4) (demK (demK (look' 5 e))) f4 u4 (fun r5 f5 u5 =>
  headK (look' 0 e) (fun v0 => k .normal [(0, v0)] f5 u5)))))

noncomputable def g46_9 (C : Go.ScE.Callee) : Env → Fram → List Fram → KX → R0 := fun e fr up k =>
  hGen C (.nck) [(demK (demK (look' 0 e)))] fr up (fun r1 f1 u1 =>
  hFa 0 (demK r1) f1 u1 (fun r2 f2 u2 =>
  hFa 3 (demK r2) f2 u2 (fun r3 f3 u3 =>
  hLd false 1 false (demK r3) f3 u3 (fun r4 f4 u4 =>
  hBin .add false (demK r4) (.c (.p (pI 1))) f4 u4 (fun r5 f5 u5 =>
  hGen C (.nck) [(demK (demK (look' 0 e)))] f5 u5 (fun r6 f6 u6 =>
  hFa 0 (demK r6) f6 u6 (fun r7 f7 u7 =>
  hFa 3 (demK r7) f7 u7 (fun r8 f8 u8 =>
  hSt 1 (demK r8) (demK r5) f8 u8 (fun r9 f9 u9 =>
  k .normal [] f9 u9)))))))))

noncomputable def g46_10 (C : Go.ScE.Callee) : Env → Fram → List Fram → KX → R0 := fun e fr up k =>
  headK (.c (.p (pI 0))) (fun v4 => k .normal [(4, v4)] fr up)

noncomputable def g46_11 (C : Go.ScE.Callee) : Env → Fram → List Fram → KX → R0 := fun e fr up k =>
  hBin .eql false (demK (look' 34 e)) (.c (.p (pI 5))) fr up (fun r0 f0 u0 =>
  headK (look' 0 e) (fun v0 => headK (look' 3 e) (fun v3 => headK (look' 5 e) (fun v5 => headK (look' 6 e) (fun v6 => headK (look' 7 e) (fun v7 => headK (look' 8 e) (fun v8 => headK (look' 9 e) (fun v9 => headK (look' 34 e) (fun v34 => headK (demK r0) (fun v63 => k .normal [(0, v0), (3, v3), (5, v5), (6, v6), (7, v7), (8, v8), (9, v9), (34, v34), (63, v63)] f0 u0))))))))))

noncomputable def g46_12 (C : Go.ScE.Callee) : Env → Fram → List Fram → KX → R0 := fun e fr up k =>
  hBin .eql false (demK (look' 34 e)) (.c (.p (pI 6))) fr up (fun r0 f0 u0 =>
  headK (look' 0 e) (fun v0 => headK (look' 3 e) (fun v3 => headK (look' 5 e) (fun v5 => headK (look' 6 e) (fun v6 => headK (look' 7 e) (fun v7 => headK (look' 8 e) (fun v8 => headK (look' 9 e) (fun v9 => headK (look' 34 e) (fun v34 => headK (demK r0) (fun v63 => k .normal [(0, v0), (3, v3), (5, v5), (6, v6), (7, v7), (8, v8), (9, v9), (34, v34), (63, v63)] f0 u0))))))))))

noncomputable def g46_13 (C : Go.ScE.Callee) : Env → Fram → List Fram → KX → R0 := fun e fr up k =>
  hFa 3 (demK (look' 3 e)) fr up (fun r1 f1 u1 =>
  hLd false 1 false (demK r1) f1 u1 (fun r2 f2 u2 =>
  hGen C (.nck) [(demK (demK (look' 0 e)))] f2 u2 (fun r3 f3 u3 =>
  hFa 0 (demK r3) f3 u3 (fun r4 f4 u4 =>
  hFa 5 (demK r4) f4 u4 (fun r5 f5 u5 =>
  hIaa 1 32 (demK r5) (demK r2) f5 u5 (fun r6 f6 u6 =>
  hLd false 1 false (demK r6) f6 u6 (fun r7 f7 u7 =>
  hBin .eql false (demK r7) (.c (.p (pI 0))) f7 u7 (fun r8 f8 u8 =>
  headK (look' 0 e) (fun v0 => headK (look' 3 e) (fun v3 => headK (look' 6 e) (fun v6 => headK (look' 8 e) (fun v8 => headK (look' 9 e) (fun v9 => headK r8 (fun v74 => k .normal [(0, v0), (3, v3), (6, v6), (8, v8), (9, v9), (74, v74)] f8 u8))))))))))))))

noncomputable def g46_14 (C : Go.ScE.Callee) : Env → Fram → List Fram → KX → R0 := fun e fr up k =>
  headK (.c (.p (pI 4))) (fun v4 => k .normal [(4, v4)] fr up)

noncomputable def g46_15 (C : Go.ScE.Callee) : Env → Fram → List Fram → KX → R0 := fun e fr up k =>
  hFa 0 (demK (look' 3 e)) fr up (fun r0 f0 u0 =>
  hLd false 1 false (demK r0) f0 u0 (fun r1 f1 u1 =>
  hFa 3 (demK (look' 3 e)) f1 u1 (fun r4 f4 u4 =>
  hLd false 1 false (demK r4) f4 u4 (fun r5 f5 u5 =>
  hGen C (.nck) [(demK (demK (look' 0 e)))] f5 u5 (fun r6 f6 u6 =>
  hFa 0 (demK r6) f6 u6 (fun r7 f7 u7 =>
  hFa 5 (demK r7) f7 u7 (fun r8 f8 u8 =>
  hIaa 1 32 (demK r8) (demK r5) f8 u8 (fun r9 f9 u9 =>
  hLd false 1 false (demK r9) f9 u9 (fun r10 f10 u10 =>
  Bool.rec (motive := fun _ => R0) fail0 (hCall C 60 [(demK r1), (demK (demK (look' 6 e))), (demK r10)] f10 u10 (fun r11 f11 u11 =>
  headK (look' 0 e) (fun v0 => headK (look' 3 e) (fun v3 => headK (demK r11) (fun v7 => headK (look' 8 e) (fun v8 => headK (look' 9 e) (fun v9 => k .normal [(0, v0), (3, v3), (7, v7), (8, v8), (9, v9)] f11 u11))))))) (chkD (.call 60) false [] [(demK r1), (demK (demK (look' 6 e))), (demK r10)]))))))))))

noncomputable def g46_16 (C : Go.ScE.Callee) : Env → Fram → List Fram → KX → R0 := fun e fr up k =>
  hBin .eql false (demK (look' 34 e)) (.c (.p (pI 15))) fr up (fun r0 f0 u0 =>
  headK (look' 0 e) (fun v0 => headK (look' 3 e) (fun v3 => headK (look' 5 e) (fun v5 => headK (look' 6 e) (fun v6 => headK (look' 7 e) (fun v7 => headK (look' 8 e) (fun v8 => headK (look' 9 e) (fun v9 => headK (look' 34 e) (fun v34 => headK (demK r0) (fun v87 => k .normal [(0, v0), (3, v3), (5, v5), (6, v6), (7, v7), (8, v8), (9, v9), (34, v34), (87, v87)] f0 u0))))))))))

noncomputable def g46_17 (C : Go.ScE.Callee) : Env → Fram → List Fram → KX → R0 := fun e fr up k =>
  hFa 4 (demK (look' 3 e)) fr up (fun r1 f1 u1 =>
  hLd false 1 false (demK r1) f1 u1 (fun r2 f2 u2 =>
  hBin .add false (demK (demK (look' 6 e))) (demK r2) f2 u2 (fun r3 f3 u3 =>
  headK (look' 0 e) (fun v0 => headK (look' 3 e) (fun v3 => headK (demK r3) (fun v7 => headK (look' 8 e) (fun v8 => headK (look' 9 e) (fun v9 => k .normal [(0, v0), (3, v3), (7, v7), (8, v8), (9, v9)] f3 u3))))))))

noncomputable def g46_18 (C : Go.ScE.Callee) : Env → Fram → List Fram → KX → R0 := fun e fr up k =>
  hBin .eql false (demK (look' 34 e)) (.c (.p (pI 16))) fr up (fun r0 f0 u0 =>
  headK (look' 0 e) (fun v0 => headK (look' 3 e) (fun v3 => headK (look' 5 e) (fun v5 => headK (look' 6 e) (fun v6 => headK (look' 7 e) (fun v7 => headK (look' 8 e) (fun v8 => headK (look' 9 e) (fun v9 => headK (look' 34 e) (fun v34 => headK (demK r0) (fun v93 => k .normal [(0, v0), (3, v3), (5, v5), (6, v6), (7, v7), (8, v8), (9, v9), (34, v34), (93, v93)] f0 u0))))))))))

noncomputable def g46_19 (C : Go.ScE.Callee) : Env → Fram → List Fram → KX → R0 := fun e fr up k =>
  hFa 4 (demK (look' 3 e)) fr up (fun r1 f1 u1 =>
  hLd false 1 false (demK r1) f1 u1 (fun r2 f2 u2 =>
  hBin .and false (demK (demK (look' 6 e))) (demK r2) f2 u2 (fun r3 f3 u3 =>
  headK (look' 0 e) (fun v0 => headK (look' 3 e) (fun v3 => headK (demK r3) (fun v7 => headK (look' 8 e) (fun v8 => headK (look' 9 e) (fun v9 => k .normal [(0, v0), (3, v3), (7, v7), (8, v8), (9, v9)] f3 u3))))))))

noncomputable def g46_20 (C : Go.ScE.Callee) : Env → Fram → List Fram → KX → R0 := fun e fr up k =>
  hBin .eql false (demK (look' 34 e)) (.c (.p (pI 17))) fr up (fun r0 f0 u0 =>
  headK (look' 0 e) (fun v0 => headK (look' 3 e) (fun v3 => headK (look' 5 e) (fun v5 => headK (look' 6 e) (fun v6 => headK (look' 7 e) (fun v7 => headK (look' 8 e) (fun v8 => headK (look' 9 e) (fun v9 => headK (look' 34 e) (fun v34 => headK (demK r0) (fun v99 => k .normal [(0, v0), (3, v3), (5, v5), (6, v6), (7, v7), (8, v8), (9, v9), (34, v34), (99, v99)] f0 u0))))))))))

noncomputable def g46_21 (C : Go.ScE.Callee) : Env → Fram → List Fram → KX → R0 := fun e fr up k =>
  hFa 4 (demK (look' 3 e)) fr up (fun r1 f1 u1 =>
  hLd false 1 false (demK r1) f1 u1 (fun r2 f2 u2 =>
  hBin .or false (demK (demK (look' 6 e))) (demK r2) f2 u2 (fun r3 f3 u3 =>
  headK (look' 0 e) (fun v0 => headK (look' 3 e) (fun v3 => headK (demK r3) (fun v7 => headK (look' 8 e) (fun v8 => headK (look' 9 e) (fun v9 => k .normal [(0, v0), (3, v3), (7, v7), (8, v8), (9, v9)] f3 u3))))))))

noncomputable def g46_22 (C : Go.ScE.Callee) : Env → Fram → List Fram → KX → R0 := fun e fr up k =>
  hBin .eql false (demK (look' 34 e)) (.c (.p (pI 18))) fr up (fun r0 f0 u0 =>
  headK (look' 0 e) (fun v0 => headK (look' 3 e) (fun v3 => headK (look' 5 e) (fun v5 => headK (look' 6 e) (fun v6 => headK (look' 7 e) (fun v7 => headK (look' 8 e) (fun v8 => headK (look' 9 e) (fun v9 => headK (look' 34 e) (fun v34 => headK (demK r0) (fun v105 => k .normal [(0, v0), (3, v3), (5, v5), (6, v6), (7, v7), (8, v8), (9, v9), (34, v34), (105, v105)] f0 u0))))))))))

noncomputable def g46_23 (C : Go.ScE.Callee) : Env → Fram → List Fram → KX → R0 := fun e fr up k =>
  hFa 4 (demK (look' 3 e)) fr up (fun r1 f1 u1 =>
  hLd false 1 false (demK r1) f1 u1 (fun r2 f2 u2 =>
  hGen C (.cvi .u64) [(demK r2)] f2 u2 (fun r3 f3 u3 =>
  hBin .shl false (demK (demK (look' 6 e))) (demK r3) f3 u3 (fun r4 f4 u4 =>
  headK (look' 0 e) (fun v0 => headK (look' 3 e) (fun v3 => headK (demK r4) (fun v7 => headK (look' 8 e) (fun v8 => headK (look' 9 e) (fun v9 => k .normal [(0, v0), (3, v3), (7, v7), (8, v8), (9, v9)] f4 u4)))))))))

noncomputable def g46_24 (C : Go.ScE.Callee) : Env → Fram → List Fram → KX → R0 := fun e fr up k =>
  hBin .eql false (demK (look' 34 e)) (.c (.p (pI 19))) fr up (fun r0 f0 u0 =>
  headK (look' 0 e) (fun v0 => headK (look' 3 e) (fun v3 => headK (look' 5 e) (fun v5 => headK (look' 6 e) (fun v6 => headK (look' 7 e) (fun v7 => headK (look' 8 e) (fun v8 => headK (look' 9 e) (fun v9 => headK (look' 34 e) (fun v34 => headK (demK r0) (fun v112 => k .normal [(0, v0), (3, v3), (5, v5), (6, v6), (7, v7), (8, v8), (9, v9), (34, v34), (112, v112)] f0 u0))))))))))

noncomputable def g46_25 (C : Go.ScE.Callee) : Env → Fram → List Fram → KX → R0 := fun e fr up k =>
  hFa 4 (demK (look' 3 e)) fr up (fun r1 f1 u1 =>
  hLd false 1 false (demK r1) f1 u1 (fun r2 f2 u2 =>
  hGen C (.cvi .u64) [(demK r2)] f2 u2 (fun r3 f3 u3 =>
  hBin .shr false (demK (demK (look' 6 e))) (demK r3) f3 u3 (fun r4 f4 u4 =>
  headK (look' 0 e) (fun v0 => headK (look' 3 e) (fun v3 => headK (demK r4) (fun v7 => headK (look' 8 e) (fun v8 => headK (look' 9 e) (fun v9 => k .normal [(0, v0), (3, v3), (7, v7), (8, v8), (9, v9)] f4 u4)))))))))

noncomputable def g46_26 (C : Go.ScE.Callee) : Env → Fram → List Fram → KX → R0 := fun e fr up k =>
  hBin .eql false (demK (look' 34 e)) (.c (.p (pI 20))) fr up (fun r0 f0 u0 =>
  headK (look' 0 e) (fun v0 => headK (look' 3 e) (fun v3 => headK (look' 5 e) (fun v5 => headK (look' 6 e) (fun v6 => headK (look' 7 e) (fun v7 => headK (look' 8 e) (fun v8 => headK (look' 9 e) (fun v9 => headK (look' 34 e) (fun v34 => headK (demK r0) (fun v119 => k .normal [(0, v0), (3, v3), (5, v5), (6, v6), (7, v7), (8, v8), (9, v9), (34, v34), (119, v119)] f0 u0))))))))))

noncomputable def g46_27 (C : Go.ScE.Callee) : Env → Fram → List Fram → KX → R0 := fun e fr up k =>
  hFa 4 (demK (look' 3 e)) fr up (fun r0 f0 u0 =>
  hLd false 1 false (demK r0) f0 u0 (fun r1 f1 u1 =>
  headK (look' 0 e) (fun v0 => headK (look' 3 e) (fun v3 => headK (demK r1) (fun v7 => headK (look' 8 e) (fun v8 => headK (look' 9 e) (fun v9 => k .normal [(0, v0), (3, v3), (7, v7), (8, v8), (9, v9)] f1 u1)))))))

noncomputable def g46_28 (C : Go.ScE.Callee) : Env → Fram → List Fram → KX → R0 := fun e fr up k =>
  hBin .eql false (demK (look' 34 e)) (.c (.p (pI 21))) fr up (fun r0 f0 u0 =>
  headK (look' 0 e) (fun v0 => headK (look' 3 e) (fun v3 => headK (look' 5 e) (fun v5 => headK (look' 6 e) (fun v6 => headK (look' 7 e) (fun v7 => headK (look' 8 e) (fun v8 => headK (look' 9 e) (fun v9 => headK (look' 34 e) (fun v34 => headK (demK r0) (fun v123 => k .normal [(0, v0), (3, v3), (5, v5), (6, v6), (7, v7), (8, v8), (9, v9), (34, v34), (123, v123)] f0 u0))))))))))

noncomputable def g46_29 (C : Go.ScE.Callee) : Env → Fram → List Fram → KX → R0 := fun e fr up k =>
  hBin .mul false (demK (demK (look' 5 e))) (.c (.p (pI 65536))) fr up (fun r1 f1 u1 =>
  hFa 4 (demK (look' 3 e)) f1 u1 (fun r2 f2 u2 =>
  hLd false 1 false (demK r2) f2 u2 (fun r3 f3 u3 =>
  hBin .or false (demK r1) (demK r3) f3 u3 (fun r4 f4 u4 =>
  headK (look' 0 e) (fun v0 => headK (look' 3 e) (fun v3 => headK (demK r4) (fun v7 => headK (look' 8 e) (fun v8 => headK (look' 9 e) (fun v9 => k .normal [(0, v0), (3, v3), (7, v7), (8, v8), (9, v9)] f4 u4)))))))))

noncomputable def g46_30 (C : Go.ScE.Callee) : Env → Fram → List Fram → KX → R0 := fun e fr up k =>
  hBin .eql false (demK (look' 34 e)) (.c (.p (pI 22))) fr up (fun r0 f0 u0 =>
  headK (look' 0 e) (fun v0 => headK (look' 3 e) (fun v3 => headK (look' 5 e) (fun v5 => headK (look' 6 e) (fun v6 => headK (look' 7 e) (fun v7 => headK (look' 8 e) (fun v8 => headK (look' 9 e) (fun v9 => headK (look' 34 e) (fun v34 => headK (demK r0) (fun v130 => k .normal [(0, v0), (3, v3), (5, v5), (6, v6), (7, v7), (8, v8), (9, v9), (34, v34), (130, v130)] f0 u0))))))))))

noncomputable def g46_31 (C : Go.ScE.Callee) : Env → Fram → List Fram → KX → R0 := fun e fr up k =>
  hBin .eql false (demK (look' 34 e)) (.c (.p (pI 23))) fr up (fun r0 f0 u0 =>
  headK (look' 0 e) (fun v0 => headK (look' 3 e) (fun v3 => headK (look' 5 e) (fun v5 => headK (look' 6 e) (fun v6 => headK (look' 7 e) (fun v7 => headK (look' 8 e) (fun v8 => headK (look' 9 e) (fun v9 => headK (look' 34 e) (fun v34 => headK (demK r0) (fun v130 => k .normal [(0, v0), (3, v3), (5, v5), (6, v6), (7, v7), (8, v8), (9, v9), (34, v34), (130, v130)] f0 u0))))))))))

noncomputable def g46_32 (C : Go.ScE.Callee) : Env → Fram → List Fram → KX → R0 := fun e fr up k =>
  hFa 4 (demK (look' 3 e)) fr up (fun r1 f1 u1 =>
  hLd false 1 false (demK r1) f1 u1 (fun r2 f2 u2 =>
  hBin .add false (demK (demK (look' 6 e))) (demK r2) f2 u2 (fun r3 f3 u3 =>
  headK (look' 0 e) (fun v0 => headK (look' 3 e) (fun v3 => headK (look' 5 e) (fun v5 => headK (look' 7 e) (fun v7 => headK (look' 8 e) (fun v8 => headK (look' 9 e) (fun v9 => headK (demK r3) (fun v10 => k .normal [(0, v0), (3, v3), (5, v5), (7, v7), (8, v8), (9, v9), (10, v10)] f3 u3))))))))))

noncomputable def g46_33 (C : Go.ScE.Callee) : Env → Fram → List Fram → KX → R0 := fun e fr up k =>
  hBin .lss false (demK (demK (look' 10 e))) (.c (.p (pI 0))) fr up (fun r1 f1 u1 =>
  guardK false (demK r1) (fun K => K (demK (look' 10 e)) f1 u1) f1 u1 (fun r3 f3 u3 =>
  guardK false (demK r1) (fun K => K (demK (look' 0 e)) f3 u3) f3 u3 (fun r4 f4 u4 =>
  guardK false (demK r1) (fun K => hGen C (.nck) [(demK r4)] f4 u4 K) f4 u4 (fun r5 f5 u5 =>
  guardK false (demK r1) (fun K => hFa 0 (demK r5) f5 u5 K) f5 u5 (fun r6 f6 u6 =>
  guardK false (demK r1) (fun K => hFa 37 (demK r6) f6 u6 K) f6 u6 (fun r7 f7 u7 =>
  guardK false (demK r1) (fun K => hLd false 1 false (demK r7) f7 u7 K) f7 u7 (fun r8 f8 u8 =>
  guardK false (demK r1) (fun K => hLenL  (demK r8) f8 u8 K) f8 u8 (fun r9 f9 u9 =>
  guardK false (demK r1) (fun K => hBin .geq false (demK r3) (demK r9) f9 u9 K) f9 u9 (fun r10 f10 u10 =>
  hPick  (demK (demK r1)) (.c (.p (pB true))) (demK r10) f10 u10 (fun r11 f11 u11 =>
  headK (look' 0 e) (fun v0 => headK (look' 3 e) (fun v3 => headK (look' 5 e) (fun v5 => headK (look' 7 e) (fun v7 => headK (look' 8 e) (fun v8 => headK (look' 9 e) (fun v9 => headK (look' 10 e) (fun v10 => headK r11 (fun v148 => k .normal [(0, v0), (3, v3), (5, v5), (7, v7), (8, v8), (9, v9), (10, v10), (148, v148)] f11 u11))))))))))))))))))

noncomputable def g46_34 (C : Go.ScE.Callee) : Env → Fram → List Fram → KX → R0 := fun e fr up k =>
  headK (.c (.p (pI 2))) (fun v4 => k .normal [(4, v4)] fr up)

noncomputable def g46_35 (C : Go.ScE.Callee) : Env → Fram → List Fram → KX → R0 := fun e fr up k =>
  hFa 0 (demK (look' 3 e)) fr up (fun r0 f0 u0 =>
  hLd false 1 false (demK r0) f0 u0 (fun r1 f1 u1 =>
  hBin .eql false (demK r1) (.c (.p (pI 23))) f1 u1 (fun r2 f2 u2 =>
  headK (look' 0 e) (fun v0 => headK (look' 3 e) (fun v3 => headK (look' 5 e) (fun v5 => headK (look' 7 e) (fun v7 => headK (look' 8 e) (fun v8 => headK (look' 9 e) (fun v9 => headK (look' 10 e) (fun v10 => headK r2 (fun v151 => k .normal [(0, v0), (3, v3), (5, v5), (7, v7), (8, v8), (9, v9), (10, v10), (151, v151)] f2 u2)))))))))))

noncomputable def g46_36 (C : Go.ScE.Callee) : Env → Fram → List Fram → KX → R0 := fun e fr up k =>
  hGen C (.nck) [(demK (demK (look' 0 e)))] fr up (fun r1 f1 u1 =>
  hFa 0 (demK r1) f1 u1 (fun r2 f2 u2 =>
  hFa 37 (demK r2) f2 u2 (fun r3 f3 u3 =>
  hLd false 1 false (demK r3) f3 u3 (fun r4 f4 u4 =>
  hIa 1 (demK r4) (demK (demK (look' 10 e))) f4 u4 (fun r7 f7 u7 =>
  hSt 1 (demK r7) (demK (demK (look' 5 e))) f7 u7 (fun r8 f8 u8 =>
  headK (look' 0 e) (fun v0 => headK (look' 3 e) (fun v3 => headK (look' 7 e) (fun v7 => headK (look' 9 e) (fun v9 => k .normal [(0, v0), (3, v3), (7, v7), (9, v9)] f8 u8))))))))))

noncomputable def g46_37 (C : Go.ScE.Callee) : Env → Fram → List Fram → KX → R0 := fun e fr up k =>
  headK (look' 0 e) (fun v0 => headK (look' 3 e) (fun v3 => headK (look' 7 e) (fun v7 => headK (.c (.p (pB false))) (fun v8 => headK (look' 9 e) (fun v9 => k .normal [(0, v0), (3, v3), (7, v7), (8, v8), (9, v9)] fr up)))))

noncomputable def g46_38 (C : Go.ScE.Callee) : Env → Fram → List Fram → KX → R0 := fun e fr up k =>
  hGen C (.nck) [(demK (demK (look' 0 e)))] fr up (fun r1 f1 u1 =>
  hFa 0 (demK r1) f1 u1 (fun r2 f2 u2 =>
  hFa 37 (demK r2) f2 u2 (fun r3 f3 u3 =>
  hLd false 1 false (demK r3) f3 u3 (fun r4 f4 u4 =>
  hIa 1 (demK r4) (demK (demK (look' 10 e))) f4 u4 (fun r6 f6 u6 =>
  hLd false 1 false (demK r6) f6 u6 (fun r7 f7 u7 =>
  headK (look' 0 e) (fun v0 => headK (look' 3 e) (fun v3 => headK (demK r7) (fun v7 => headK (look' 8 e) (fun v8 => headK (look' 9 e) (fun v9 => k .normal [(0, v0), (3, v3), (7, v7), (8, v8), (9, v9)] f7 u7)))))))))))

noncomputable def g46_39 (C : Go.ScE.Callee) : Env → Fram → List Fram → KX → R0 := fun e fr up k =>
  hBin .eql false (demK (look' 34 e)) (.c (.p (pI 24))) fr up (fun r0 f0 u0 =>
  headK (look' 0 e) (fun v0 => headK (look' 3 e) (fun v3 => headK (look' 5 e) (fun v5 => headK (look' 6 e) (fun v6 => headK (look' 7 e) (fun v7 => headK (look' 8 e) (fun v8 => headK (look' 9 e) (fun v9 => headK (look' 34 e) (fun v34 => headK (demK r0) (fun v168 => k .normal [(0, v0), (3, v3), (5, v5), (6, v6), (7, v7), (8, v8), (9, v9), (34, v34), (168, v168)] f0 u0))))))))))

noncomputable def g46_40 (C : Go.ScE.Callee) : Env → Fram → List Fram → KX → R0 := fun e fr up k =>
  hBin .eql false (demK (look' 34 e)) (.c (.p (pI 25))) fr up (fun r0 f0 u0 =>
  headK (look' 0 e) (fun v0 => headK (look' 3 e) (fun v3 => headK (look' 5 e) (fun v5 => headK (look' 6 e) (fun v6 => headK (look' 7 e) (fun v7 => headK (look' 8 e) (fun v8 => headK (look' 9 e) (fun v9 => headK (look' 34 e) (fun v34 => headK (demK r0) (fun v168 => k .normal [(0, v0), (3, v3), (5, v5), (6, v6), (7, v7), (8, v8), (9, v9), (34, v34), (168, v168)] f0 u0))))))))))

noncomputable def g46_41 (C : Go.ScE.Callee) : Env → Fram → List Fram → KX → R0 := fun e fr up k =>
  hBin .eql false (demK (look' 34 e)) (.c (.p (pI 26))) fr up (fun r0 f0 u0 =>
  headK (look' 0 e) (fun v0 => headK (look' 3 e) (fun v3 => headK (look' 5 e) (fun v5 => headK (look' 6 e) (fun v6 => headK (look' 7 e) (fun v7 => headK (look' 8 e) (fun v8 => headK (look' 9 e) (fun v9 => headK (look' 34 e) (fun v34 => headK (demK r0) (fun v168 => k .normal [(0, v0), (3, v3), (5, v5), (6, v6), (7, v7), (8, v8), (9, v9), (34, v34), (168, v168)] f0 u0))))))))))

noncomputable def g46_42 (C : Go.ScE.Callee) : Env → Fram → List Fram → KX → R0 := fun e fr up k =>
  hBin .eql false (demK (look' 34 e)) (.c (.p (pI 27))) fr up (fun r0 f0 u0 =>
  headK (look' 0 e) (fun v0 => headK (look' 3 e) (fun v3 => headK (look' 5 e) (fun v5 => headK (look' 6 e) (fun v6 => headK (look' 7 e) (fun v7 => headK (look' 8 e) (fun v8 => headK (look' 9 e) (fun v9 => headK (look' 34 e) (fun v34 => headK (demK r0) (fun v168 => k .normal [(0, v0), (3, v3), (5, v5), (6, v6), (7, v7), (8, v8), (9, v9), (34, v34), (168, v168)] f0 u0))))))))))

noncomputable def g46_43 (C : Go.ScE.Callee) : Env → Fram → List Fram → KX → R0 := fun e fr up k =>
  headK (look' 0 e) (fun v0 => headK (look' 3 e) (fun v3 => headK (look' 5 e) (fun v5 => headK (look' 6 e) (fun v6 => headK (look' 7 e) (fun v7 => headK (.c (.p (pB false))) (fun v8 => headK (look' 9 e) (fun v9 => k .normal [(0, v0), (3, v3), (5, v5), (6, v6), (7, v7), (8, v8), (9, v9)] fr up)))))))

noncomputable def g46_44 (C : Go.ScE.Callee) : Env → Fram → List Fram → KX → R0 := fun e fr up k =>
  hFa 0 (demK (look' 3 e)) fr up (fun r0 f0 u0 =>
  hLd false 1 false (demK r0) f0 u0 (fun r1 f1 u1 =>
  hBin .eql false (demK r1) (.c (.p (pI 24))) f1 u1 (fun r2 f2 u2 =>
  guardK true (demK r2) (fun K => K (demK (look' 5 e)) f2 u2) f2 u2 (fun r4 f4 u4 =>
  guardK true (demK r2) (fun K => K (demK (look' 6 e)) f4 u4) f4 u4 (fun r5 f5 u5 =>
  guardK true (demK r2) (fun K => hBin .eql false (demK r4) (demK r5) f5 u5 K) f5 u5 (fun r6 f6 u6 =>
  hPick  (demK (demK r2)) (demK r6) (.c (.p (pB false))) f6 u6 (fun r7 f7 u7 =>
  guardK false (demK r7) (fun K => hFa 0 (demK (look' 3 e)) f7 u7 K) f7 u7 (fun r9 f9 u9 =>
  guardK false (demK r7) (fun K => hLd false 1 false (demK r9) f9 u9 K) f9 u9 (fun r10 f10 u10 =>
  guardK false (demK r7) (fun K => hBin .eql false (demK r10) (.c (.p (pI 25))) f10 u10 K) f10 u10 (fun r11 f11 u11 =>
  guardK false (demK r7) (fun K => K (demK r11) f11 u11) f11 u11 (fun r12 f12 u12 =>
  guardK true r12 (fun K => K (demK (look' 5 e)) f12 u12) f12 u12 (fun r13 f13 u13 =>
  guardK true r12 (fun K => K (demK (look' 6 e)) f13 u13) f13 u13 (fun r14 f14 u14 =>
  guardK true r12 (fun K => hBin .neq false (demK r13) (demK r14) f14 u14 K) f14 u14 (fun r15 f15 u15 =>
  guardK false (demK r7) (fun K => hPick  (demK r12) (demK r15) (.c (.p (pB false))) f15 u15 K) f15 u15 (fun r16 f16 u16 =>
  hPick  (demK (demK r7)) (.c (.p (pB true))) (demK r16) f16 u16 (fun r17 f17 u17 =>
  guardK false (demK r17) (fun K => hFa 0 (demK (look' 3 e)) f17 u17 K) f17 u17 (fun r19 f19 u19 =>
  guardK false (demK r17) (fun K => hLd false 1 false (demK r19) f19 u19 K) f19 u19 (fun r20 f20 u20 =>
  guardK false (demK r17) (fun K => hBin .eql false (demK r20) (.c (.p (pI 26))) f20 u20 K) f20 u20 (fun r21 f21 u21 =>
  guardK false (demK r17) (fun K => K (demK r21) f21 u21) f21 u21 (fun r22 f22 u22 =>
  guardK true r22 (fun K => K (demK (look' 5 e)) f22 u22) f22 u22 (fun r23 f23 u23 =>
  guardK true r22 (fun K => K (demK (look' 6 e)) f23 u23) f23 u23 (fun r24 f24 u24 =>
  guardK true r22 (fun K => hBin .lss false (demK r23) (demK r24) f24 u24 K) f24 u24 (fun r25 f25 u25 =>
  guardK false (demK r17) (fun K => hPick  (demK r22) (demK r25) (.c (.p (pB false))) f25 u25 K) f25 u25 (fun r26 f26 u26 =>
  hPick  (demK (demK r17)) (.c (.p (pB true))) (demK r26) f26 u26 (fun r27 f27 u27 =>
  guardK false (demK r27) (fun K => hFa 0 (demK (look' 3 e)) f27 u27 K) f27 u27 (fun r29 f29 u29 =>
  guardK false (demK r27) (fun K => hLd false 1 false (demK r29) f29 u29 K) f29 u29 (fun r30 f30 u30 =>
  guardK false (demK r27) (fun K => hBin .eql false (demK r30) (.c (.p (pI 27))) f30 u30 K) f30 u30 (fun r31 f31 u31 =>
  guardK false (demK r27) (fun K => K (demK r31) f31 u31) f31 u31 (fun r32 f32 u32 =>
  guardK true r32 (fun K => K (demK (look' 5 e)) f32 u32) f32 u32 (fun r33 f33 u33 =>
  guardK true r32 (fun K => K (demK (look' 6 e)) f33 u33) f33 u33 (fun r34 f34 u34 =>
  guardK true r32 (fun K => hBin .geq false (demK r33) (demK r34) f34 u34 K) f34 u34 (fun r35 f35 u35 =>
  guardK false (demK r27) (fun K => hPick  (demK r32) (demK r35) (.c (.p (pB false))) f35 u35 K) f35 u35 (fun r36 f36 u36 =>
  hPick  (demK (demK r27)) (.c (.p (pB true))) (demK r36) f36 u36 (fun r37 f37 u37 =>
  headK (look' 0 e) (fun v0 => headK (look' 3 e) (fun v3 => headK (look' 7 e) (fun v7 => headK (look' 8 e) (fun v8 => headK (look' 9 e) (fun v9 => headK r37 (fun v210 => k .normal [(0, v0), (3, v3), (7, v7), (8, v8), (9, v9), (210, v210)] f37 u37))))))))))))))))))))))))))))))))))))))))

noncomputable def g46_45 (C : Go.ScE.Callee) : Env → Fram → List Fram → KX → R0 := fun e fr up k =>
  hGen C (.nck) [(demK (demK (look' 0 e)))] fr up (fun r1 f1 u1 =>
  hFa 0 (demK r1) f1 u1 (fun r2 f2 u2 =>
  hFa 4 (demK r2) f2 u2 (fun r3 f3 u3 =>
  hLd false 1 false (demK r3) f3 u3 (fun r4 f4 u4 =>
  hFa 4 (demK (look' 3 e)) f4 u4 (fun r5 f5 u5 =>
  hLd false 1 false (demK r5) f5 u5 (fun r6 f6 u6 =>
  hBin .add false (demK r4) (demK r6) f6 u6 (fun r7 f7 u7 =>
  headK (look' 0 e) (fun v0 => headK (look' 3 e) (fun v3 => headK (look' 7 e) (fun v7 => headK (look' 8 e) (fun v8 => headK (demK r7) (fun v9 => k .normal [(0, v0), (3, v3), (7, v7), (8, v8), (9, v9)] f7 u7))))))))))))

noncomputable def g46_46 (C : Go.ScE.Callee) : Env → Fram → List Fram → KX → R0 := fun e fr up k =>
  hBin .eql false (demK (look' 34 e)) (.c (.p (pI 28))) fr up (fun r0 f0 u0 =>
  headK (look' 0 e) (fun v0 => headK (look' 3 e) (fun v3 => headK (look' 5 e) (fun v5 => headK (look' 6 e) (fun v6 => headK (look' 7 e) (fun v7 => headK (look' 8 e) (fun v8 => headK (look' 9 e) (fun v9 => headK (look' 34 e) (fun v34 => headK (demK r0) (fun v219 => k .normal [(0, v0), (3, v3), (5, v5), (6, v6), (7, v7), (8, v8), (9, v9), (34, v34), (219, v219)] f0 u0))))))))))

noncomputable def g46_47 (C : Go.ScE.Callee) : Env → Fram → List Fram → KX → R0 := fun e fr up k =>
  headK (look' 0 e) (fun v0 => headK (look' 3 e) (fun v3 => headK (demK (demK (look' 9 e))) (fun v7 => headK (look' 8 e) (fun v8 => k .normal [(0, v0), (3, v3), (7, v7), (8, v8)] fr up))))

noncomputable def g46_48 (C : Go.ScE.Callee) : Env → Fram → List Fram → KX → R0 := fun e fr up k =>
  hGen C (.nck) [(demK (demK (look' 0 e)))] fr up (fun r1 f1 u1 =>
  hFa 0 (demK r1) f1 u1 (fun r2 f2 u2 =>
  hFa 4 (demK r2) f2 u2 (fun r3 f3 u3 =>
  hLd false 1 false (demK r3) f3 u3 (fun r4 f4 u4 =>
  hFa 4 (demK (look' 3 e)) f4 u4 (fun r5 f5 u5 =>
  hLd false 1 false (demK r5) f5 u5 (fun r6 f6 u6 =>
  hBin .add false (demK r4) (demK r6) f6 u6 (fun r7 f7 u7 =>
  headK (look' 0 e) (fun v0 => headK (look' 3 e) (fun v3 => headK (look' 7 e) (fun v7 => headK (look' 8 e) (fun v8 => headK (demK r7) (fun v9 => k .normal [(0, v0), (3, v3), (7, v7), (8, v8), (9, v9)] f7 u7))))))))))))

noncomputable def g46_49 (C : Go.ScE.Callee) : Env → Fram → List Fram → KX → R0 := fun e fr up k =>
  hBin .eql false (demK (look' 34 e)) (.c (.p (pI 29))) fr up (fun r0 f0 u0 =>
  headK (look' 0 e) (fun v0 => headK (look' 3 e) (fun v3 => headK (look' 5 e) (fun v5 => headK (look' 6 e) (fun v6 => headK (look' 7 e) (fun v7 => headK (look' 8 e) (fun v8 => headK (look' 9 e) (fun v9 => headK (look' 34 e) (fun v34 => headK (demK r0) (fun v230 => k .normal [(0, v0), (3, v3), (5, v5), (6, v6), (7, v7), (8, v8), (9, v9), (34, v34), (230, v230)] f0 u0))))))))))

noncomputable def g46_50 (C : Go.ScE.Callee) : Env → Fram → List Fram → KX → R0 := fun e fr up k =>
  headK (look' 0 e) (fun v0 => headK (look' 3 e) (fun v3 => headK (look' 6 e) (fun v6 => headK (demK (demK (look' 9 e))) (fun v7 => headK (look' 8 e) (fun v8 => k .normal [(0, v0), (3, v3), (6, v6), (7, v7), (8, v8)] fr up)))))

noncomputable def g46_51 (C : Go.ScE.Callee) : Env → Fram → List Fram → KX → R0 := fun e fr up k =>
  headK (look' 0 e) (fun v0 => headK (look' 3 e) (fun v3 => headK (look' 7 e) (fun v7 => headK (look' 8 e) (fun v8 => headK (demK (demK (look' 6 e))) (fun v9 => k .normal [(0, v0), (3, v3), (7, v7), (8, v8), (9, v9)] fr up)))))

noncomputable def g46_52 (C : Go.ScE.Callee) : Env → Fram → List Fram → KX → R0 := fun e fr up k =>
  hBin .eql false (demK (look' 34 e)) (.c (.p (pI 30))) fr up (fun r0 f0 u0 =>
  headK (look' 0 e) (fun v0 => headK (look' 3 e) (fun v3 => headK (look' 5 e) (fun v5 => headK (look' 6 e) (fun v6 => headK (look' 7 e) (fun v7 => headK (look' 8 e) (fun v8 => headK (look' 9 e) (fun v9 => headK (look' 34 e) (fun v34 => headK (demK r0) (fun v234 => k .normal [(0, v0), (3, v3), (5, v5), (6, v6), (7, v7), (8, v8), (9, v9), (34, v34), (234, v234)] f0 u0))))))))))

noncomputable def g46_53 (C : Go.ScE.Callee) : Env → Fram → List Fram → KX → R0 := fun e fr up k =>
  headK (look' 0 e) (fun v0 => headK (look' 3 e) (fun v3 => headK (.c (.p (pI (-1)))) (fun v7 => headK (look' 8 e) (fun v8 => headK (look' 9 e) (fun v9 => k .normal [(0, v0), (3, v3), (7, v7), (8, v8), (9, v9)] fr up)))))

noncomputable def g46_54 (C : Go.ScE.Callee) : Env → Fram → List Fram → KX → R0 := fun e fr up k =>
  hGen C (.nck) [(demK (demK (look' 0 e)))] fr up (fun r1 f1 u1 =>
  hFa 38 (demK r1) f1 u1 (fun r2 f2 u2 =>
  hLd false 1 false (demK r2) f2 u2 (fun r3 f3 u3 =>
  hGen C (.lenS) [(demK r3)] f3 u3 (fun r4 f4 u4 =>
  hBin .gtr false (demK r4) (.c (.p (pI 0))) f4 u4 (fun r5 f5 u5 =>
  headK (look' 0 e) (fun v0 => headK (look' 3 e) (fun v3 => headK (look' 7 e) (fun v7 => headK (look' 8 e) (fun v8 => headK (look' 9 e) (fun v9 => headK r5 (fun v241 => k .normal [(0, v0), (3, v3), (7, v7), (8, v8), (9, v9), (241, v241)] f5 u5)))))))))))

noncomputable def g46_55 (C : Go.ScE.Callee) : Env → Fram → List Fram → KX → R0 := fun e fr up k =>
  hGen C (.nck) [(demK (demK (look' 0 e)))] fr up (fun r1 f1 u1 =>
  hFa 38 (demK r1) f1 u1 (fun r2 f2 u2 =>
  hLd false 1 false (demK r2) f2 u2 (fun r3 f3 u3 =>
  hGen C (.ixs) [(demK r3), (.c (.p (pI 0)))] f3 u3 (fun r4 f4 u4 =>
  hGen C (.cvi .i64) [(demK r4)] f4 u4 (fun r5 f5 u5 =>
  headK (look' 0 e) (fun v0 => headK (look' 3 e) (fun v3 => headK (demK r5) (fun v7 => headK (look' 8 e) (fun v8 => headK (look' 9 e) (fun v9 => k .normal [(0, v0), (3, v3), (7, v7), (8, v8), (9, v9)] f5 u5))))))))))

noncomputable def g46_56 (C : Go.ScE.Callee) : Env → Fram → List Fram → KX → R0 := fun e fr up k =>
  hGen C (.nck) [(demK (demK (look' 0 e)))] fr up (fun r2 f2 u2 =>
  hFa 38 (demK r2) f2 u2 (fun r3 f3 u3 =>
  hLd false 1 false (demK r3) f3 u3 (fun r4 f4 u4 =>
  hGen C (.slS true false) [(demK r4), (.c (.p (pI 1)))] f4 u4 (fun r5 f5 u5 =>
  hGen C (.nck) [(demK (demK (look' 0 e)))] f5 u5 (fun r6 f6 u6 =>
  hFa 38 (demK r6) f6 u6 (fun r7 f7 u7 =>
  hSt 1 (demK r7) (demK r5) f7 u7 (fun r8 f8 u8 =>
  headK (look' 0 e) (fun v0 => headK (look' 3 e) (fun v3 => headK (look' 7 e) (fun v7 => headK (look' 8 e) (fun v8 => headK (look' 9 e) (fun v9 => k .normal [(0, v0), (3, v3), (7, v7), (8, v8), (9, v9)] f8 u8))))))))))))

noncomputable def g46_57 (C : Go.ScE.Callee) : Env → Fram → List Fram → KX → R0 := fun e fr up k =>
  hBin .eql false (demK (look' 34 e)) (.c (.p (pI 31))) fr up (fun r0 f0 u0 =>
  headK (look' 0 e) (fun v0 => headK (look' 3 e) (fun v3 => headK (look' 5 e) (fun v5 => headK (look' 6 e) (fun v6 => headK (look' 7 e) (fun v7 => headK (look' 8 e) (fun v8 => headK (look' 9 e) (fun v9 => headK (demK r0) (fun v256 => k .normal [(0, v0), (3, v3), (5, v5), (6, v6), (7, v7), (8, v8), (9, v9), (256, v256)] f0 u0)))))))))

noncomputable def g46_58 (C : Go.ScE.Callee) : Env → Fram → List Fram → KX → R0 := fun e fr up k =>
  hBin .lss false (demK (demK (look' 5 e))) (.c (.p (pI 0))) fr up (fun r1 f1 u1 =>
  guardK false (demK r1) (fun K => K (demK (look' 5 e)) f1 u1) f1 u1 (fun r3 f3 u3 =>
  guardK false (demK r1) (fun K => hBin .gtr false (demK r3) (.c (.p (pI 255))) f3 u3 K) f3 u3 (fun r4 f4 u4 =>
  hPick  (demK (demK r1)) (.c (.p (pB true))) (demK r4) f4 u4 (fun r5 f5 u5 =>
  headK (look' 0 e) (fun v0 => headK (look' 3 e) (fun v3 => headK (look' 5 e) (fun v5 => headK (look' 7 e) (fun v7 => headK (look' 9 e) (fun v9 => headK r5 (fun v263 => k .normal [(0, v0), (3, v3), (5, v5), (7, v7), (9, v9), (263, v263)] f5 u5))))))))))

noncomputable def g46_59 (C : Go.ScE.Callee) : Env → Fram → List Fram → KX → R0 := fun e fr up k =>
  headK (.c (.p (pI 5))) (fun v4 => k .normal [(4, v4)] fr up)

noncomputable def g46_60 (C : Go.ScE.Callee) : Env → Fram → List Fram → KX → R0 := fun e fr up k =>
  hGen C (.nck) [(demK (demK (look' 0 e)))] fr up (fun r2 f2 u2 =>
  hFa 39 (demK r2) f2 u2 (fun r3 f3 u3 =>
  hLd false 1 true (demK r3) f3 u3 (fun r4 f4 u4 =>
  hGen C (.cvi .u8) [(demK (demK (look' 5 e)))] f4 u4 (fun r6 f6 u6 =>
  hBlds 1 [(pK .u8 0)] 1 [0] [(demK r6)] f6 u6 (fun r7 f7 u7 =>
  hApp 1 1 r4 (demK r7) f7 u7 (fun r8 f8 u8 =>
  hGen C (.nck) [(demK (demK (look' 0 e)))] f8 u8 (fun r9 f9 u9 =>
  hFa 39 (demK r9) f9 u9 (fun r10 f10 u10 =>
  hSt 1 (demK r10) r8 f10 u10 (fun r11 f11 u11 =>
  headK (look' 0 e) (fun v0 => headK (look' 3 e) (fun v3 => headK (look' 7 e) (fun v7 => headK (look' 9 e) (fun v9 => k .normal [(0, v0), (3, v3), (7, v7), (9, v9)] f11 u11)))))))))))))

noncomputable def g46_61 (C : Go.ScE.Callee) : Env → Fram → List Fram → KX → R0 := fun e fr up k =>
  headK (look' 0 e) (fun v0 => headK (look' 3 e) (fun v3 => headK (look' 7 e) (fun v7 => headK (.c (.p (pB false))) (fun v8 => headK (look' 9 e) (fun v9 => k .normal [(0, v0), (3, v3), (7, v7), (8, v8), (9, v9)] fr up)))))

noncomputable def g46_62 (C : Go.ScE.Callee) : Env → Fram → List Fram → KX → R0 := fun e fr up k =>
  hFa 0 (demK (look' 3 e)) fr up (fun r0 f0 u0 =>
  hLd false 1 false (demK r0) f0 u0 (fun r1 f1 u1 =>
  hFa 3 (demK (look' 3 e)) f1 u1 (fun r4 f4 u4 =>
  hLd false 1 false (demK r4) f4 u4 (fun r5 f5 u5 =>
  hGen C (.nck) [(demK (demK (look' 0 e)))] f5 u5 (fun r6 f6 u6 =>
  hFa 0 (demK r6) f6 u6 (fun r7 f7 u7 =>
  hFa 5 (demK r7) f7 u7 (fun r8 f8 u8 =>
  hIaa 1 32 (demK r8) (demK r5) f8 u8 (fun r9 f9 u9 =>
  hLd false 1 false (demK r9) f9 u9 (fun r10 f10 u10 =>
  Bool.rec (motive := fun _ => R0) fail0 (hCall C 60 [(demK r1), (demK (demK (look' 6 e))), (demK r10)] f10 u10 (fun r11 f11 u11 =>
  headK (look' 0 e) (fun v0 => headK (look' 3 e) (fun v3 => headK (demK r11) (fun v7 => headK (look' 8 e) (fun v8 => headK (look' 9 e) (fun v9 => k .normal [(0, v0), (3, v3), (7, v7), (8, v8), (9, v9)] f11 u11))))))) (chkD (.call 60) false [] [(demK r1), (demK (demK (look' 6 e))), (demK r10)]))))))))))

noncomputable def g46_63 (C : Go.ScE.Callee) : Env → Fram → List Fram → KX → R0 := fun e fr up k =>
  guardK true (demK (demK (look' 8 e))) (fun K => hFa 1 (demK (look' 3 e)) fr up K) fr up (fun r2 f2 u2 =>
  guardK true (demK (demK (look' 8 e))) (fun K => hLd false 1 false (demK r2) f2 u2 K) f2 u2 (fun r3 f3 u3 =>
  guardK true (demK (demK (look' 8 e))) (fun K => hBin .neq false (demK r3) (.c (.p (pI 0))) f3 u3 K) f3 u3 (fun r4 f4 u4 =>
  hPick  (demK (demK (demK (look' 8 e)))) (demK r4) (.c (.p (pB false))) f4 u4 (fun r5 f5 u5 =>
  headK (look' 0 e) (fun v0 => headK (look' 3 e) (fun v3 => headK (look' 7 e) (fun v7 => headK (look' 9 e) (fun v9 => headK r5 (fun v280 => k .normal [(0, v0), (3, v3), (7, v7), (9, v9), (280, v280)] f5 u5)))))))))

noncomputable def g46_64 (C : Go.ScE.Callee) : Env → Fram → List Fram → KX → R0 := fun e fr up k =>
  hFa 1 (demK (look' 3 e)) fr up (fun r1 f1 u1 =>
  hLd false 1 false (demK r1) f1 u1 (fun r2 f2 u2 =>
  hGen C (.nck) [(demK (demK (look' 0 e)))] f2 u2 (fun r4 f4 u4 =>
  hFa 0 (demK r4) f4 u4 (fun r5 f5 u5 =>
  hFa 5 (demK r5) f5 u5 (fun r6 f6 u6 =>
  hIaa 1 32 (demK r6) (demK r2) f6 u6 (fun r7 f7 u7 =>
  hSt 1 (demK r7) (demK (demK (look' 7 e))) f7 u7 (fun r8 f8 u8 =>
  headK (look' 0 e) (fun v0 => headK (look' 9 e) (fun v9 => k .normal [(0, v0), (9, v9)] f8 u8)))))))))

noncomputable def g46_65 (C : Go.ScE.Callee) : Env → Fram → List Fram → KX → R0 := fun e fr up k =>
  hGen C (.nck) [(demK (demK (look' 0 e)))] fr up (fun r2 f2 u2 =>
  hFa 0 (demK r2) f2 u2 (fun r3 f3 u3 =>
  hFa 4 (demK r3) f3 u3 (fun r4 f4 u4 =>
  hSt 1 (demK r4) (demK (demK (look' 9 e))) f4 u4 (fun r5 f5 u5 =>
  headK (look' 0 e) (fun v0 => k .normal [(0, v0)] f5 u5)))))

noncomputable def g46_66 (C : Go.ScE.Callee) : Env → Fram → List Fram → KX → R0 := fun e fr up k =>
  hGen C (.nck) [(demK (demK (look' 0 e)))] fr up (fun r1 f1 u1 =>
  hFa 0 (demK r1) f1 u1 (fun r2 f2 u2 =>
  hFa 3 (demK r2) f2 u2 (fun r3 f3 u3 =>
  hLd false 1 false (demK r3) f3 u3 (fun r4 f4 u4 =>
  hBin .add false (demK r4) (.c (.p (pI 1))) f4 u4 (fun r5 f5 u5 =>
  hGen C (.nck) [(demK (demK (look' 0 e)))] f5 u5 (fun r6 f6 u6 =>
  hFa 0 (demK r6) f6 u6 (fun r7 f7 u7 =>
  hFa 3 (demK r7) f7 u7 (fun r8 f8 u8 =>
  hSt 1 (demK r8) (demK r5) f8 u8 (fun r9 f9 u9 =>
  k .normal [] f9 u9)))))))))

noncomputable def g46_67 (C : Go.ScE.Callee) : Env → Fram → List Fram → KX → R0 := fun e fr up k =>
  headK (.c (.p (pI 6))) (fun v4 => k .normal [(4, v4)] fr up)

noncomputable def h46 : KC := fun C n => seqK (g46_0 C) (seqK (g46_1 C) (seqK (g46_2 C) (seqK (g46_3 C) (seqK (g46_4 C) (seqK (g46_5 C) (seqK (seqK (g46_6 C) (blockK 0 (seqK (g46_7 C) (condK (.t 47) (seqK (g46_8 C) (seqK (g46_9 C) (seqK (g46_10 C) (retK)))) (seqK (seqK (g46_11 C) (condK (.t 63) (skipK) (g46_12 C))) (condK (.t 63) (seqK (seqK (g46_13 C) (condK (.t 74) (seqK (g46_14 C) (retK)) (skipK))) (g46_15 C)) (seqK (g46_16 C) (condK (.t 87) (g46_17 C) (seqK (g46_18 C) (condK (.t 93) (g46_19 C) (seqK (g46_20 C) (condK (.t 99) (g46_21 C) (seqK (g46_22 C) (condK (.t 105) (g46_23 C) (seqK (g46_24 C) (condK (.t 112) (g46_25 C) (seqK (g46_26 C) (condK (.t 119) (g46_27 C) (seqK (g46_28 C) (condK (.t 123) (g46_29 C) (seqK (seqK (g46_30 C) (condK (.t 130) (skipK) (g46_31 C))) (condK (.t 130) (seqK (g46_32 C) (seqK (seqK (g46_33 C) (condK (.t 148) (seqK (g46_34 C) (retK)) (skipK))) (seqK (g46_35 C) (condK (.t 151) (seqK (g46_36 C) (g46_37 C)) (g46_38 C))))) (seqK (seqK (g46_39 C) (condK (.t 168) (skipK) (seqK (g46_40 C) (condK (.t 168) (skipK) (seqK (g46_41 C) (condK (.t 168) (skipK) (g46_42 C))))))) (condK (.t 168) (seqK (g46_43 C) (seqK (g46_44 C) (condK (.t 210) (g46_45 C) (skipK)))) (seqK (g46_46 C) (condK (.t 219) (seqK (g46_47 C) (g46_48 C)) (seqK (g46_49 C) (condK (.t 230) (seqK (g46_50 C) (g46_51 C)) (seqK (g46_52 C) (condK (.t 234) (seqK (g46_53 C) (seqK (g46_54 C) (condK (.t 241) (seqK (g46_55 C) (g46_56 C)) (skipK)))) (seqK (g46_57 C) (condK (.t 256) (seqK (seqK (g46_58 C) (condK (.t 263) (seqK (g46_59 C) (retK)) (skipK))) (seqK (g46_60 C) (g46_61 C))) (g46_62 C))))))))))))))))))))))))))))))))) (seqK (seqK (g46_63 C) (condK (.t 280) (g46_64 C) (skipK))) (seqK (g46_65 C) (seqK (g46_66 C) (seqK (g46_67 C) (retK)))))))))))
theorem h46_eq (C : Go.ScE.Callee) (n : Nat) : h46 C n = evK C n x46.body := by kernel_rfl

noncomputable def g47_0 (C : Go.ScE.Callee) : Env → Fram → List Fram → KX → R0 := fun e fr up k =>
  hCall C 61 [(demK (demK (look' 0 e))), (demK (demK (look' 1 e))), (demK (demK (look' 2 e)))] fr up (fun r3 f3 u3 =>
  headK (look' 0 e) (fun v0 => headK (look' 1 e) (fun v1 => headK (look' 3 e) (fun v3 => k .normal [(0, v0), (1, v1), (3, v3)] f3 u3))))

noncomputable def g47_1 (C : Go.ScE.Callee) : Env → Fram → List Fram → KX → R0 := fun e fr up k =>
  hCall C 51 [(demK (demK (look' 0 e))), (.c (.p (pI 18))), (demK (demK (look' 1 e))), (demK (demK (look' 1 e))), (demK (demK (look' 3 e)))] fr up (fun r4 f4 u4 =>
  k .normal [] f4 u4)

noncomputable def h47 : KC := fun C n => seqK (g47_0 C) (g47_1 C)
theorem h47_eq (C : Go.ScE.Callee) (n : Nat) : h47 C n = evK C n x47.body := by kernel_rfl

noncomputable def g48_0 (C : Go.ScE.Callee) : Env → Fram → List Fram → KX → R0 := fun e fr up k =>
  hCall C 33 [(demK (demK (look' 0 e))), (.c (.p (pI 26))), (demK (demK (look' 1 e)))] fr up (fun r2 f2 u2 =>
  headK (look' 0 e) (fun v0 => k .normal [(0, v0)] f2 u2))

noncomputable def g48_1 (C : Go.ScE.Callee) : Env → Fram → List Fram → KX → R0 := fun e fr up k =>
  hCall C 34 [(demK (demK (look' 0 e))), (.c (.p (pI 31))), (.c (.p (pI 2)))] fr up (fun r1 f1 u1 =>
  k .normal [] f1 u1)

noncomputable def h48 : KC := fun C n => seqK (g48_0 C) (g48_1 C)
theorem h48_eq (C : Go.ScE.Callee) (n : Nat) : h48 C n = evK C n x48.body := by kernel_rfl

noncomputable def g49_0 (C : Go.ScE.Callee) : Env → Fram → List Fram → KX → R0 := fun e fr up k =>
  headK (look' 0 e) (fun v0 => headK (look' 1 e) (fun v1 => k .normal [(0, v0), (1, v1)] fr up))

noncomputable def g49_1 (C : Go.ScE.Callee) : Env → Fram → List Fram → KX → R0 := fun e fr up k =>
  hBin .shl false (demK (demK (look' 1 e))) (.c (.p (pK .u64 3))) fr up (fun r1 f1 u1 =>
  hBin .or false (demK r1) (demK (demK (look' 0 e))) f1 u1 (fun r3 f3 u3 =>
  hBin .shl false (demK r3) (.c (.p (pK .u64 3))) f3 u3 (fun r4 f4 u4 =>
  hBin .or false (demK r4) (.c (.p (pI 7))) f4 u4 (fun r5 f5 u5 =>
  headK (demK r5) (fun v4 => k .normal [(4, v4)] f5 u5)))))

noncomputable def h49 : KC := fun C n => seqK (g49_0 C) (seqK (g49_1 C) (retK))
theorem h49_eq (C : Go.ScE.Callee) (n : Nat) : h49 C n = evK C n x49.body := by kernel_rfl

noncomputable def g50_0 (C : Go.ScE.Callee) : Env → Fram → List Fram → KX → R0 := fun e fr up k =>
  hCall C 51 [(demK (demK (look' 0 e))), (.c (.p (pI 18))), (demK (demK (look' 1 e))), (.c (.p (pI 29))), (.c (.p (pI 3)))] fr up (fun r2 f2 u2 =>
  headK (look' 0 e) (fun v0 => headK (look' 1 e) (fun v1 => headK (look' 2 e) (fun v2 => k .normal [(0, v0), (1, v1), (2, v2)] f2 u2))))

noncomputable def g50_1 (C : Go.ScE.Callee) : Env → Fram → List Fram → KX → R0 := fun e fr up k =>
  hCall C 51 [(demK (demK (look' 0 e))), (.c (.p (pI 17))), (demK (demK (look' 1 e))), (demK (demK (look' 1 e))), (.c (.p (pI 1)))] fr up (fun r3 f3 u3 =>
  headK (look' 0 e) (fun v0 => headK (look' 2 e) (fun v2 => k .normal [(0, v0), (2, v2)] f3 u3)))

noncomputable def g50_2 (C : Go.ScE.Callee) : Env → Fram → List Fram → KX → R0 := fun e fr up k =>
  hCall C 51 [(demK (demK (look' 0 e))), (.c (.p (pI 15))), (.c (.p (pI 29))), (.c (.p (pI 29))), (demK (demK (look' 2 e)))] fr up (fun r2 f2 u2 =>
  k .normal [] f2 u2)

noncomputable def h50 : KC := fun C n => seqK (g50_0 C) (seqK (g50_1 C) (g50_2 C))
theorem h50_eq (C : Go.ScE.Callee) (n : Nat) : h50 C n = evK C n x50.body := by kernel_rfl

noncomputable def g51_0 (C : Go.ScE.Callee) : Env → Fram → List Fram → KX → R0 := fun e fr up k =>
  hBld [(pI 0), (pI 0), (pI 0), (pI 0), (pI 0)] [(0, 1), (1, 1), (2, 1), (4, 1)] [(demK (demK (look' 1 e))), (demK (demK (look' 2 e))), (demK (demK (look' 3 e))), (demK (demK (look' 4 e)))] fr up (fun r5 f5 u5 =>
  hBld [(pI 0), (pI 0), (pI 0), (pI 0), (pI 0), (pI 0), (pI 0), (pI 0)] [(1, 5)] [(demK r5)] f5 u5 (fun r6 f6 u6 =>
  hCall C 53 [(demK (demK (look' 0 e))), (demK r6)] f6 u6 (fun r7 f7 u7 =>
  k .normal [] f7 u7)))

noncomputable def h51 : KC := fun C n => g51_0 C
theorem h51_eq (C : Go.ScE.Callee) (n : Nat) : h51 C n = evK C n x51.body := by kernel_rfl

noncomputable def g52_0 (C : Go.ScE.Callee) : Env → Fram → List Fram → KX → R0 := fun e fr up k =>
  hCall C 31 [(demK (demK (look' 0 e))), (.c (.p (pI 26))), (.c (.p (pI 30))), (.c (.p (pI (-1))))] fr up (fun r1 f1 u1 =>
  headK (look' 0 e) (fun v0 => k .normal [(0, v0)] f1 u1))

noncomputable def g52_1 (C : Go.ScE.Callee) : Env → Fram → List Fram → KX → R0 := fun e fr up k =>
  hCall C 51 [(demK (demK (look' 0 e))), (.c (.p (pI 19))), (.c (.p (pI 26))), (.c (.p (pI 26))), (.c (.p (pI 3)))] fr up (fun r1 f1 u1 =>
  headK (look' 0 e) (fun v0 => k .normal [(0, v0)] f1 u1))

noncomputable def g52_2 (C : Go.ScE.Callee) : Env → Fram → List Fram → KX → R0 := fun e fr up k =>
  hCall C 51 [(demK (demK (look' 0 e))), (.c (.p (pI 16))), (.c (.p (pI 26))), (.c (.p (pI 26))), (.c (.p (pI 4095)))] fr up (fun r1 f1 u1 =>
  headK (look' 0 e) (fun v0 => k .normal [(0, v0)] f1 u1))

noncomputable def g52_3 (C : Go.ScE.Callee) : Env → Fram → List Fram → KX → R0 := fun e fr up k =>
  hCall C 51 [(demK (demK (look' 0 e))), (.c (.p (pI 15))), (.c (.p (pI 27))), (.c (.p (pI 26))), (.c (.p (pI 2)))] fr up (fun r1 f1 u1 =>
  headK (look' 0 e) (fun v0 => k .normal [(0, v0)] f1 u1))

noncomputable def g52_4 (C : Go.ScE.Callee) : Env → Fram → List Fram → KX → R0 := fun e fr up k =>
  hCall C 51 [(demK (demK (look' 0 e))), (.c (.p (pI 18))), (.c (.p (pI 27))), (.c (.p (pI 27))), (.c (.p (pI 3)))] fr up (fun r1 f1 u1 =>
  headK (look' 0 e) (fun v0 => k .normal [(0, v0)] f1 u1))

noncomputable def g52_5 (C : Go.ScE.Callee) : Env → Fram → List Fram → KX → R0 := fun e fr up k =>
  hCall C 51 [(demK (demK (look' 0 e))), (.c (.p (pI 17))), (.c (.p (pI 27))), (.c (.p (pI 27))), (.c (.p (pI 6)))] fr up (fun r1 f1 u1 =>
  headK (look' 0 e) (fun v0 => k .normal [(0, v0)] f1 u1))

noncomputable def g52_6 (C : Go.ScE.Callee) : Env → Fram → List Fram → KX → R0 := fun e fr up k =>
  hCall C 51 [(demK (demK (look' 0 e))), (.c (.p (pI 18))), (.c (.p (pI 27))), (.c (.p (pI 27))), (.c (.p (pI 3)))] fr up (fun r1 f1 u1 =>
  headK (look' 0 e) (fun v0 => k .normal [(0, v0)] f1 u1))

noncomputable def g52_7 (C : Go.ScE.Callee) : Env → Fram → List Fram → KX → R0 := fun e fr up k =>
  hCall C 51 [(demK (demK (look' 0 e))), (.c (.p (pI 17))), (.c (.p (pI 27))), (.c (.p (pI 27))), (.c (.p (pI 7)))] fr up (fun r1 f1 u1 =>
  headK (look' 0 e) (fun v0 => k .normal [(0, v0)] f1 u1))

noncomputable def g52_8 (C : Go.ScE.Callee) : Env → Fram → List Fram → KX → R0 := fun e fr up k =>
  hCall C 30 [(demK (demK (look' 0 e))), (.c (.p (pI 27))), (.c (.p (pI 29))), (.c (.p (pI 0)))] fr up (fun r1 f1 u1 =>
  headK (look' 0 e) (fun v0 => k .normal [(0, v0)] f1 u1))

noncomputable def g52_9 (C : Go.ScE.Callee) : Env → Fram → List Fram → KX → R0 := fun e fr up k =>
  hCall C 51 [(demK (demK (look' 0 e))), (.c (.p (pI 15))), (.c (.p (pI 26))), (.c (.p (pI 26))), (.c (.p (pI 1)))] fr up (fun r1 f1 u1 =>
  headK (look' 0 e) (fun v0 => k .normal [(0, v0)] f1 u1))

noncomputable def g52_10 (C : Go.ScE.Callee) : Env → Fram → List Fram → KX → R0 := fun e fr up k =>
  hCall C 38 [(demK (demK (look' 0 e))), (.c (.p (pI 2))), (.c (.p (pI 28))), (.c (.p (pI 30))), (.c (.p (pI 26)))] fr up (fun r1 f1 u1 =>
  headK (look' 0 e) (fun v0 => k .normal [(0, v0)] f1 u1))

noncomputable def g52_11 (C : Go.ScE.Callee) : Env → Fram → List Fram → KX → R0 := fun e fr up k =>
  hCall C 33 [(demK (demK (look' 0 e))), (.c (.p (pI 27))), (.c (.p (pI 33)))] fr up (fun r1 f1 u1 =>
  headK (look' 0 e) (fun v0 => k .normal [(0, v0)] f1 u1))

noncomputable def g52_12 (C : Go.ScE.Callee) : Env → Fram → List Fram → KX → R0 := fun e fr up k =>
  hCall C 35 [(demK (demK (look' 0 e))), (.c (.p (pI 24))), (.c (.p (pI 28))), (.c (.p (pI 27))), (.c (.p (pI 2005)))] fr up (fun r1 f1 u1 =>
  headK (look' 0 e) (fun v0 => k .normal [(0, v0)] f1 u1))

noncomputable def g52_13 (C : Go.ScE.Callee) : Env → Fram → List Fram → KX → R0 := fun e fr up k =>
  hCall C 38 [(demK (demK (look' 0 e))), (.c (.p (pI 1))), (.c (.p (pI 27))), (.c (.p (pI 29))), (.c (.p (pI 26)))] fr up (fun r1 f1 u1 =>
  headK (look' 0 e) (fun v0 => k .normal [(0, v0)] f1 u1))

noncomputable def g52_14 (C : Go.ScE.Callee) : Env → Fram → List Fram → KX → R0 := fun e fr up k =>
  hCall C 51 [(demK (demK (look' 0 e))), (.c (.p (pI 15))), (.c (.p (pI 27))), (.c (.p (pI 27))), (.c (.p (pI 2)))] fr up (fun r1 f1 u1 =>
  headK (look' 0 e) (fun v0 => k .normal [(0, v0)] f1 u1))

noncomputable def g52_15 (C : Go.ScE.Callee) : Env → Fram → List Fram → KX → R0 := fun e fr up k =>
  hCall C 51 [(demK (demK (look' 0 e))), (.c (.p (pI 18))), (.c (.p (pI 27))), (.c (.p (pI 27))), (.c (.p (pI 3)))] fr up (fun r1 f1 u1 =>
  headK (look' 0 e) (fun v0 => k .normal [(0, v0)] f1 u1))

noncomputable def g52_16 (C : Go.ScE.Callee) : Env → Fram → List Fram → KX → R0 := fun e fr up k =>
  hCall C 51 [(demK (demK (look' 0 e))), (.c (.p (pI 17))), (.c (.p (pI 27))), (.c (.p (pI 27))), (.c (.p (pI 1)))] fr up (fun r1 f1 u1 =>
  headK (look' 0 e) (fun v0 => k .normal [(0, v0)] f1 u1))

noncomputable def g52_17 (C : Go.ScE.Callee) : Env → Fram → List Fram → KX → R0 := fun e fr up k =>
  hCall C 30 [(demK (demK (look' 0 e))), (.c (.p (pI 27))), (.c (.p (pI 29))), (.c (.p (pI 1)))] fr up (fun r1 f1 u1 =>
  headK (look' 0 e) (fun v0 => k .normal [(0, v0)] f1 u1))

noncomputable def g52_18 (C : Go.ScE.Callee) : Env → Fram → List Fram → KX → R0 := fun e fr up k =>
  hCall C 36 [(demK (demK (look' 0 e))), (.c (.p (pI 2006)))] fr up (fun r1 f1 u1 =>
  headK (look' 0 e) (fun v0 => k .normal [(0, v0)] f1 u1))

noncomputable def g52_19 (C : Go.ScE.Callee) : Env → Fram → List Fram → KX → R0 := fun e fr up k =>
  hCall C 27 [(demK (demK (look' 0 e))), (.c (.p (pI 2005)))] fr up (fun r1 f1 u1 =>
  headK (look' 0 e) (fun v0 => k .normal [(0, v0)] f1 u1))

noncomputable def g52_20 (C : Go.ScE.Callee) : Env → Fram → List Fram → KX → R0 := fun e fr up k =>
  hCall C 30 [(demK (demK (look' 0 e))), (.c (.p (pI 31))), (.c (.p (pI 29))), (.c (.p (pI 1)))] fr up (fun r1 f1 u1 =>
  headK (look' 0 e) (fun v0 => k .normal [(0, v0)] f1 u1))

noncomputable def g52_21 (C : Go.ScE.Callee) : Env → Fram → List Fram → KX → R0 := fun e fr up k =>
  hCall C 27 [(demK (demK (look' 0 e))), (.c (.p (pI 2006)))] fr up (fun r1 f1 u1 =>
  headK (look' 0 e) (fun v0 => k .normal [(0, v0)] f1 u1))

noncomputable def g52_22 (C : Go.ScE.Callee) : Env → Fram → List Fram → KX → R0 := fun e fr up k =>
  hCall C 51 [(demK (demK (look' 0 e))), (.c (.p (pI 15))), (.c (.p (pI 29))), (.c (.p (pI 29))), (.c (.p (pI 2)))] fr up (fun r1 f1 u1 =>
  headK (look' 0 e) (fun v0 => k .normal [(0, v0)] f1 u1))

noncomputable def g52_23 (C : Go.ScE.Callee) : Env → Fram → List Fram → KX → R0 := fun e fr up k =>
  hCall C 32 [(demK (demK (look' 0 e))), (.c (.p (pI 30))), (.c (.p (pI 28)))] fr up (fun r1 f1 u1 =>
  headK (look' 0 e) (fun v0 => k .normal [(0, v0)] f1 u1))

noncomputable def g52_24 (C : Go.ScE.Callee) : Env → Fram → List Fram → KX → R0 := fun e fr up k =>
  hCall C 27 [(demK (demK (look' 0 e))), (.c (.p (pI 2002)))] fr up (fun r1 f1 u1 =>
  headK (look' 0 e) (fun v0 => k .normal [(0, v0)] f1 u1))

noncomputable def g52_25 (C : Go.ScE.Callee) : Env → Fram → List Fram → KX → R0 := fun e fr up k =>
  hCall C 35 [(demK (demK (look' 0 e))), (.c (.p (pI 24))), (.c (.p (pI 26))), (.c (.p (pI 0))), (.c (.p (pI 2003)))] fr up (fun r1 f1 u1 =>
  headK (look' 0 e) (fun v0 => k .normal [(0, v0)] f1 u1))

noncomputable def g52_26 (C : Go.ScE.Callee) : Env → Fram → List Fram → KX → R0 := fun e fr up k =>
  hCall C 31 [(demK (demK (look' 0 e))), (.c (.p (pI 27))), (.c (.p (pI 30))), (.c (.p (pI 0)))] fr up (fun r1 f1 u1 =>
  headK (look' 0 e) (fun v0 => k .normal [(0, v0)] f1 u1))

noncomputable def g52_27 (C : Go.ScE.Callee) : Env → Fram → List Fram → KX → R0 := fun e fr up k =>
  hCall C 30 [(demK (demK (look' 0 e))), (.c (.p (pI 27))), (.c (.p (pI 29))), (.c (.p (pI 0)))] fr up (fun r1 f1 u1 =>
  headK (look' 0 e) (fun v0 => k .normal [(0, v0)] f1 u1))

noncomputable def g52_28 (C : Go.ScE.Callee) : Env → Fram → List Fram → KX → R0 := fun e fr up k =>
  hCall C 51 [(demK (demK (look' 0 e))), (.c (.p (pI 15))), (.c (.p (pI 30))), (.c (.p (pI 30))), (.c (.p (pI 1)))] fr up (fun r1 f1 u1 =>
  headK (look' 0 e) (fun v0 => k .normal [(0, v0)] f1 u1))

noncomputable def g52_29 (C : Go.ScE.Callee) : Env → Fram → List Fram → KX → R0 := fun e fr up k =>
  hCall C 51 [(demK (demK (look' 0 e))), (.c (.p (pI 15))), (.c (.p (pI 29))), (.c (.p (pI 29))), (.c (.p (pI 1)))] fr up (fun r1 f1 u1 =>
  headK (look' 0 e) (fun v0 => k .normal [(0, v0)] f1 u1))

noncomputable def g52_30 (C : Go.ScE.Callee) : Env → Fram → List Fram → KX → R0 := fun e fr up k =>
  hCall C 51 [(demK (demK (look' 0 e))), (.c (.p (pI 15))), (.c (.p (pI 26))), (.c (.p (pI 26))), (.c (.p (pI (-1))))] fr up (fun r1 f1 u1 =>
  headK (look' 0 e) (fun v0 => k .normal [(0, v0)] f1 u1))

noncomputable def g52_31 (C : Go.ScE.Callee) : Env → Fram → List Fram → KX → R0 := fun e fr up k =>
  hCall C 36 [(demK (demK (look' 0 e))), (.c (.p (pI 2002)))] fr up (fun r1 f1 u1 =>
  headK (look' 0 e) (fun v0 => k .normal [(0, v0)] f1 u1))

noncomputable def g52_32 (C : Go.ScE.Callee) : Env → Fram → List Fram → KX → R0 := fun e fr up k =>
  hCall C 27 [(demK (demK (look' 0 e))), (.c (.p (pI 2003)))] fr up (fun r1 f1 u1 =>
  headK (look' 0 e) (fun v0 => k .normal [(0, v0)] f1 u1))

noncomputable def g52_33 (C : Go.ScE.Callee) : Env → Fram → List Fram → KX → R0 := fun e fr up k =>
  hCall C 32 [(demK (demK (look' 0 e))), (.c (.p (pI 30))), (.c (.p (pI 28)))] fr up (fun r1 f1 u1 =>
  k .normal [] f1 u1)

noncomputable def h52 : KC := fun C n => seqK (g52_0 C) (seqK (g52_1 C) (seqK (g52_2 C) (seqK (g52_3 C) (seqK (g52_4 C) (seqK (g52_5 C) (seqK (g52_6 C) (seqK (g52_7 C) (seqK (g52_8 C) (seqK (g52_9 C) (seqK (g52_10 C) (seqK (g52_11 C) (seqK (g52_12 C) (seqK (g52_13 C) (seqK (g52_14 C) (seqK (g52_15 C) (seqK (g52_16 C) (seqK (g52_17 C) (seqK (g52_18 C) (seqK (g52_19 C) (seqK (g52_20 C) (seqK (g52_21 C) (seqK (g52_22 C) (seqK (g52_23 C) (seqK (g52_24 C) (seqK (g52_25 C) (seqK (g52_26 C) (seqK (g52_27 C) (seqK (g52_28 C) (seqK (g52_29 C) (seqK (g52_30 C) (seqK (g52_31 C) (seqK (g52_32 C) (g52_33 C)))))))))))))))))))))))))))))))))
theorem h52_eq (C : Go.ScE.Callee) (n : Nat) : h52 C n = evK C n x52.body := by kernel_rfl

noncomputable def g53_0 (C : Go.ScE.Callee) : Env → Fram → List Fram → KX → R0 := fun e fr up k =>
  hGen C (.box 0) [(demK (look' 1 e))] fr up (fun r0 f0 u0 =>
  headK (look' 0 e) (fun v0 => headK r0 (fun v3 => k .normal [(0, v0), (3, v3)] f0 u0)))

noncomputable def g53_1 (C : Go.ScE.Callee) : Env → Fram → List Fram → KX → R0 := fun e fr up k =>
  hGen C (.nck) [(demK (demK (look' 0 e)))] fr up (fun r2 f2 u2 =>
  hFa 0 (demK r2) f2 u2 (fun r3 f3 u3 =>
  hLd false 1 true (demK r3) f3 u3 (fun r4 f4 u4 =>
  hLd true 8 false (demK (look' 3 e)) f4 u4 (fun r5 f5 u5 =>
  hBlds 8 [(pI 0), (pI 0), (pI 0), (pI 0), (pI 0), (pI 0), (pI 0), (pI 0)] 1 [0] [(demK r5)] f5 u5 (fun r6 f6 u6 =>
  hApp 8 64 r4 (demK r6) f6 u6 (fun r7 f7 u7 =>
  hGen C (.nck) [(demK (demK (look' 0 e)))] f7 u7 (fun r8 f8 u8 =>
  hFa 0 (demK r8) f8 u8 (fun r9 f9 u9 =>
  hSt 1 (demK r9) r7 f9 u9 (fun r10 f10 u10 =>
  k .normal [] f10 u10)))))))))

noncomputable def h53 : KC := fun C n => seqK (g53_0 C) (g53_1 C)
theorem h53_eq (C : Go.ScE.Callee) (n : Nat) : h53 C n = evK C n x53.body := by kernel_rfl

noncomputable def g54_0 (C : Go.ScE.Callee) : Env → Fram → List Fram → KX → R0 := fun e fr up k =>
  hGen C (.box 0) [(demK (look' 0 e))] fr up (fun r0 f0 u0 =>
  headK r0 (fun v1 => k .normal [(1, v1)] f0 u0))

noncomputable def g54_1 (C : Go.ScE.Callee) : Env → Fram → List Fram → KX → R0 := fun e fr up k =>
  hFa 1 (demK (look' 1 e)) fr up (fun r0 f0 u0 =>
  hLd true 5 false (demK r0) f0 u0 (fun r1 f1 u1 =>
  hGen C (.alloc 1 true [(pI 0), (pI 0), (pI 0), (pI 0), (pI 0)]) [] f1 u1 (fun r2 f2 u2 =>
  hSt 5 (demK r2) (demK r1) f2 u2 (fun r3 f3 u3 =>
  headK (look' 1 e) (fun v1 => headK r2 (fun v3 => k .normal [(1, v1), (3, v3)] f3 u3))))))

noncomputable def g54_2 (C : Go.ScE.Callee) : Env → Fram → List Fram → KX → R0 := fun e fr up k =>
  hLd true 5 false (demK (look' 3 e)) fr up (fun r0 f0 u0 =>
  hCall C 58 [(demK r0)] f0 u0 (fun r1 f1 u1 =>
  hGen C (.ext 0) [(demK (demK r1))] f1 u1 (fun r3 f3 u3 =>
  hGen C (.ext 1) [(demK (demK r1))] f3 u3 (fun r4 f4 u4 =>
  headK (look' 1 e) (fun v1 => headK (look' 3 e) (fun v3 => headK (demK r4) (fun v5 => k .normal [(1, v1), (3, v3), (5, v5)] f4 u4)))))))

noncomputable def g54_3 (C : Go.ScE.Callee) : Env → Fram → List Fram → KX → R0 := fun e fr up k =>
  hFa 0 (demK (look' 1 e)) fr up (fun r0 f0 u0 =>
  hLd false 1 false (demK r0) f0 u0 (fun r1 f1 u1 =>
  headK (look' 1 e) (fun v1 => headK (look' 3 e) (fun v3 => headK (look' 5 e) (fun v5 => headK r1 (fun v14 => k .normal [(1, v1), (3, v3), (5, v5), (14, v14)] f1 u1))))))

noncomputable def g54_4 (C : Go.ScE.Callee) : Env → Fram → List Fram → KX → R0 := fun e fr up k =>
  hBin .eql false (demK (look' 14 e)) (.c (.p (pI 0))) fr up (fun r0 f0 u0 =>
  headK (look' 1 e) (fun v1 => headK (look' 3 e) (fun v3 => headK (look' 5 e) (fun v5 => headK (look' 14 e) (fun v14 => headK (demK r0) (fun v15 => k .normal [(1, v1), (3, v3), (5, v5), (14, v14), (15, v15)] f0 u0))))))

noncomputable def g54_5 (C : Go.ScE.Callee) : Env → Fram → List Fram → KX → R0 := fun e fr up k =>
  hBin .eql false (demK (demK (look' 5 e))) (.c (.p (pI 0))) fr up (fun r1 f1 u1 =>
  guardK true (demK r1) (fun K => hFa 6 (demK (look' 1 e)) f1 u1 K) f1 u1 (fun r3 f3 u3 =>
  guardK true (demK r1) (fun K => hLd false 1 false (demK r3) f3 u3 K) f3 u3 (fun r4 f4 u4 =>
  guardK true (demK r1) (fun K => hBin .eql false (demK r4) (.c (.p (pI 0))) f4 u4 K) f4 u4 (fun r5 f5 u5 =>
  hPick  (demK (demK r1)) (demK r5) (.c (.p (pB false))) f5 u5 (fun r6 f6 u6 =>
  guardK true (demK r6) (fun K => hFa 7 (demK (look' 1 e)) f6 u6 K) f6 u6 (fun r8 f8 u8 =>
  guardK true (demK r6) (fun K => hLd false 1 false (demK r8) f8 u8 K) f8 u8 (fun r9 f9 u9 =>
  guardK true (demK r6) (fun K => hBin .eql false (demK r9) (.c (.p (pI 0))) f9 u9 K) f9 u9 (fun r10 f10 u10 =>
  hPick  (demK (demK r6)) (demK r10) (.c (.p (pB false))) f10 u10 (fun r11 f11 u11 =>
  headK (demK r11) (fun v2 => k .normal [(2, v2)] f11 u11))))))))))

noncomputable def g54_6 (C : Go.ScE.Callee) : Env → Fram → List Fram → KX → R0 := fun e fr up k =>
  hBin .eql false (demK (look' 14 e)) (.c (.p (pI 1))) fr up (fun r0 f0 u0 =>
  headK (look' 1 e) (fun v1 => headK (look' 3 e) (fun v3 => headK (look' 5 e) (fun v5 => headK (look' 14 e) (fun v14 => headK (demK r0) (fun v29 => k .normal [(1, v1), (3, v3), (5, v5), (14, v14), (29, v29)] f0 u0))))))

noncomputable def g54_7 (C : Go.ScE.Callee) : Env → Fram → List Fram → KX → R0 := fun e fr up k =>
  hLd true 5 false (demK (look' 3 e)) fr up (fun r0 f0 u0 =>
  hBld [(pI 0), (pI 0), (pI 0), (pI 0), (pI 0)] [] [] f0 u0 (fun r1 f1 u1 =>
  hGen C (.beq false 5) [(demK r0), (demK r1)] f1 u1 (fun r2 f2 u2 =>
  guardK true (demK r2) (fun K => hFa 7 (demK (look' 1 e)) f2 u2 K) f2 u2 (fun r4 f4 u4 =>
  guardK true (demK r2) (fun K => hLd false 1 false (demK r4) f4 u4 K) f4 u4 (fun r5 f5 u5 =>
  guardK true (demK r2) (fun K => hBin .eql false (demK r5) (.c (.p (pI 0))) f5 u5 K) f5 u5 (fun r6 f6 u6 =>
  hPick  (demK (demK r2)) (demK r6) (.c (.p (pB false))) f6 u6 (fun r7 f7 u7 =>
  headK (demK r7) (fun v2 => k .normal [(2, v2)] f7 u7))))))))

noncomputable def g54_8 (C : Go.ScE.Callee) : Env → Fram → List Fram → KX → R0 := fun e fr up k =>
  hBin .eql false (demK (look' 14 e)) (.c (.p (pI 2))) fr up (fun r0 f0 u0 =>
  headK (look' 1 e) (fun v1 => headK (look' 3 e) (fun v3 => headK (look' 5 e) (fun v5 => headK (look' 14 e) (fun v14 => headK (demK r0) (fun v39 => k .normal [(1, v1), (3, v3), (5, v5), (14, v14), (39, v39)] f0 u0))))))

noncomputable def g54_9 (C : Go.ScE.Callee) : Env → Fram → List Fram → KX → R0 := fun e fr up k =>
  hBin .eql false (demK (demK (look' 5 e))) (.c (.p (pI 0))) fr up (fun r1 f1 u1 =>
  guardK true (demK r1) (fun K => hFa 0 (demK (look' 3 e)) f1 u1 K) f1 u1 (fun r3 f3 u3 =>
  guardK true (demK r1) (fun K => hLd false 1 false (demK r3) f3 u3 K) f3 u3 (fun r4 f4 u4 =>
  guardK true (demK r1) (fun K => hBin .geq false (demK r4) (.c (.p (pI 24))) f4 u4 K) f4 u4 (fun r5 f5 u5 =>
  hPick  (demK (demK r1)) (demK r5) (.c (.p (pB false))) f5 u5 (fun r6 f6 u6 =>
  guardK true (demK r6) (fun K => hFa 0 (demK (look' 3 e)) f6 u6 K) f6 u6 (fun r8 f8 u8 =>
  guardK true (demK r6) (fun K => hLd false 1 false (demK r8) f8 u8 K) f8 u8 (fun r9 f9 u9 =>
  guardK true (demK r6) (fun K => hBin .leq false (demK r9) (.c (.p (pI 27))) f9 u9 K) f9 u9 (fun r10 f10 u10 =>
  hPick  (demK (demK r6)) (demK r10) (.c (.p (pB false))) f10 u10 (fun r11 f11 u11 =>
  guardK true (demK r11) (fun K => hFa 4 (demK (look' 3 e)) f11 u11 K) f11 u11 (fun r13 f13 u13 =>
  guardK true (demK r11) (fun K => hLd false 1 false (demK r13) f13 u13 K) f13 u13 (fun r14 f14 u14 =>
  guardK true (demK r11) (fun K => hBin .eql false (demK r14) (.c (.p (pI 0))) f14 u14 K) f14 u14 (fun r15 f15 u15 =>
  hPick  (demK (demK r11)) (demK r15) (.c (.p (pB false))) f15 u15 (fun r16 f16 u16 =>
  guardK true (demK r16) (fun K => hFa 7 (demK (look' 1 e)) f16 u16 K) f16 u16 (fun r18 f18 u18 =>
  guardK true (demK r16) (fun K => hLd false 1 false (demK r18) f18 u18 K) f18 u18 (fun r19 f19 u19 =>
  guardK true (demK r16) (fun K => hBin .eql false (demK r19) (.c (.p (pI 0))) f19 u19 K) f19 u19 (fun r20 f20 u20 =>
  hPick  (demK (demK r16)) (demK r20) (.c (.p (pB false))) f20 u20 (fun r21 f21 u21 =>
  headK (demK r21) (fun v2 => k .normal [(2, v2)] f21 u21))))))))))))))))))

noncomputable def g54_10 (C : Go.ScE.Callee) : Env → Fram → List Fram → KX → R0 := fun e fr up k =>
  hBin .eql false (demK (look' 14 e)) (.c (.p (pI 3))) fr up (fun r0 f0 u0 =>
  headK (look' 1 e) (fun v1 => headK (look' 3 e) (fun v3 => headK (look' 5 e) (fun v5 => headK (look' 14 e) (fun v14 => headK (demK r0) (fun v63 => k .normal [(1, v1), (3, v3), (5, v5), (14, v14), (63, v63)] f0 u0))))))

noncomputable def g54_11 (C : Go.ScE.Callee) : Env → Fram → List Fram → KX → R0 := fun e fr up k =>
  hBin .eql false (demK (demK (look' 5 e))) (.c (.p (pI 0))) fr up (fun r1 f1 u1 =>
  guardK true (demK r1) (fun K => hFa 0 (demK (look' 3 e)) f1 u1 K) f1 u1 (fun r3 f3 u3 =>
  guardK true (demK r1) (fun K => hLd false 1 false (demK r3) f3 u3 K) f3 u3 (fun r4 f4 u4 =>
  guardK true (demK r1) (fun K => hBin .eql false (demK r4) (.c (.p (pI 28))) f4 u4 K) f4 u4 (fun r5 f5 u5 =>
  hPick  (demK (demK r1)) (demK r5) (.c (.p (pB false))) f5 u5 (fun r6 f6 u6 =>
  guardK true (demK r6) (fun K => hFa 4 (demK (look' 3 e)) f6 u6 K) f6 u6 (fun r8 f8 u8 =>
  guardK true (demK r6) (fun K => hLd false 1 false (demK r8) f8 u8 K) f8 u8 (fun r9 f9 u9 =>
  guardK true (demK r6) (fun K => hBin .eql false (demK r9) (.c (.p (pI 0))) f9 u9 K) f9 u9 (fun r10 f10 u10 =>
  hPick  (demK (demK r6)) (demK r10) (.c (.p (pB false))) f10 u10 (fun r11 f11 u11 =>
  guardK true (demK r11) (fun K => hFa 7 (demK (look' 1 e)) f11 u11 K) f11 u11 (fun r13 f13 u13 =>
  guardK true (demK r11) (fun K => hLd false 1 false (demK r13) f13 u13 K) f13 u13 (fun r14 f14 u14 =>
  guardK true (demK r11) (fun K => hBin .eql false (demK r14) (.c (.p (pI 0))) f14 u14 K) f14 u14 (fun r15 f15 u15 =>
  hPick  (demK (demK r11)) (demK r15) (.c (.p (pB false))) f15 u15 (fun r16 f16 u16 =>
  headK (demK r16) (fun v2 => k .normal [(2, v2)] f16 u16))))))))))))))

noncomputable def g54_12 (C : Go.ScE.Callee) : Env → Fram → List Fram → KX → R0 := fun e fr up k =>
  hBin .eql false (demK (look' 14 e)) (.c (.p (pI 4))) fr up (fun r0 f0 u0 =>
  headK (look' 1 e) (fun v1 => headK (look' 3 e) (fun v3 => headK (look' 5 e) (fun v5 => headK (look' 14 e) (fun v14 => headK (demK r0) (fun v82 => k .normal [(1, v1), (3, v3), (5, v5), (14, v14), (82, v82)] f0 u0))))))

noncomputable def g54_13 (C : Go.ScE.Callee) : Env → Fram → List Fram → KX → R0 := fun e fr up k =>
  hBin .eql false (demK (demK (look' 5 e))) (.c (.p (pI 0))) fr up (fun r1 f1 u1 =>
  guardK true (demK r1) (fun K => hFa 0 (demK (look' 3 e)) f1 u1 K) f1 u1 (fun r3 f3 u3 =>
  guardK true (demK r1) (fun K => hLd false 1 false (demK r3) f3 u3 K) f3 u3 (fun r4 f4 u4 =>
  guardK true (demK r1) (fun K => hBin .eql false (demK r4) (.c (.p (pI 20))) f4 u4 K) f4 u4 (fun r5 f5 u5 =>
  hPick  (demK (demK r1)) (demK r5) (.c (.p (pB false))) f5 u5 (fun r6 f6 u6 =>
  guardK true (demK r6) (fun K => hFa 4 (demK (look' 3 e)) f6 u6 K) f6 u6 (fun r8 f8 u8 =>
  guardK true (demK r6) (fun K => hLd false 1 false (demK r8) f8 u8 K) f8 u8 (fun r9 f9 u9 =>
  guardK true (demK r6) (fun K => hBin .eql false (demK r9) (.c (.p (pI 0))) f9 u9 K) f9 u9 (fun r10 f10 u10 =>
  hPick  (demK (demK r6)) (demK r10) (.c (.p (pB false))) f10 u10 (fun r11 f11 u11 =>
  guardK true (demK r11) (fun K => hFa 6 (demK (look' 1 e)) f11 u11 K) f11 u11 (fun r13 f13 u13 =>
  guardK true (demK r11) (fun K => hLd false 1 false (demK r13) f13 u13 K) f13 u13 (fun r14 f14 u14 =>
  guardK true (demK r11) (fun K => hBin .eql false (demK r14) (.c (.p (pI 0))) f14 u14 K) f14 u14 (fun r15 f15 u15 =>
  hPick  (demK (demK r11)) (demK r15) (.c (.p (pB false))) f15 u15 (fun r16 f16 u16 =>
  headK (demK r16) (fun v2 => k .normal [(2, v2)] f16 u16))))))))))))))

noncomputable def g54_14 (C : Go.ScE.Callee) : Env → Fram → List Fram → KX → R0 := fun e fr up k =>
  hBin .eql false (demK (look' 14 e)) (.c (.p (pI 5))) fr up (fun r0 f0 u0 =>
  headK (look' 1 e) (fun v1 => headK (look' 3 e) (fun v3 => headK (look' 5 e) (fun v5 => headK (demK r0) (fun v101 => k .normal [(1, v1), (3, v3), (5, v5), (101, v101)] f0 u0)))))

noncomputable def g54_15 (C : Go.ScE.Callee) : Env → Fram → List Fram → KX → R0 := fun e fr up k =>
  hBin .eql false (demK (demK (look' 5 e))) (.c (.p (pI 0))) fr up (fun r1 f1 u1 =>
  guardK true (demK r1) (fun K => hFa 0 (demK (look' 3 e)) f1 u1 K) f1 u1 (fun r3 f3 u3 =>
  guardK true (demK r1) (fun K => hLd false 1 false (demK r3) f3 u3 K) f3 u3 (fun r4 f4 u4 =>
  guardK true (demK r1) (fun K => hBin .eql false (demK r4) (.c (.p (pI 20))) f4 u4 K) f4 u4 (fun r5 f5 u5 =>
  hPick  (demK (demK r1)) (demK r5) (.c (.p (pB false))) f5 u5 (fun r6 f6 u6 =>
  guardK true (demK r6) (fun K => hFa 4 (demK (look' 3 e)) f6 u6 K) f6 u6 (fun r8 f8 u8 =>
  guardK true (demK r6) (fun K => hLd false 1 false (demK r8) f8 u8 K) f8 u8 (fun r9 f9 u9 =>
  guardK true (demK r6) (fun K => hBin .eql false (demK r9) (.c (.p (pI 0))) f9 u9 K) f9 u9 (fun r10 f10 u10 =>
  hPick  (demK (demK r6)) (demK r10) (.c (.p (pB false))) f10 u10 (fun r11 f11 u11 =>
  guardK true (demK r11) (fun K => hFa 7 (demK (look' 1 e)) f11 u11 K) f11 u11 (fun r13 f13 u13 =>
  guardK true (demK r11) (fun K => hLd false 1 false (demK r13) f13 u13 K) f13 u13 (fun r14 f14 u14 =>
  guardK true (demK r11) (fun K => hBin .eql false (demK r14) (.c (.p (pI 0))) f14 u14 K) f14 u14 (fun r15 f15 u15 =>
  hPick  (demK (demK r11)) (demK r15) (.c (.p (pB false))) f15 u15 (fun r16 f16 u16 =>
  headK (demK r16) (fun v2 => k .normal [(2, v2)] f16 u16))))))))))))))

noncomputable def g54_16 (C : Go.ScE.Callee) : Env → Fram → List Fram → KX → R0 := fun e fr up k =>
  headK (.c (.p (pB false))) (fun v2 => k .normal [(2, v2)] fr up)

noncomputable def h54 : KC := fun C n => seqK (g54_0 C) (seqK (g54_1 C) (seqK (g54_2 C) (seqK (seqK (g54_3 C) (blockK 0 (seqK (g54_4 C) (condK (.t 15) (seqK (g54_5 C) (retK)) (seqK (g54_6 C) (condK (.t 29) (seqK (g54_7 C) (retK)) (seqK (g54_8 C) (condK (.t 39) (seqK (g54_9 C) (retK)) (seqK (g54_10 C) (condK (.t 63) (seqK (g54_11 C) (retK)) (seqK (g54_12 C) (condK (.t 82) (seqK (g54_13 C) (retK)) (seqK (g54_14 C) (condK (.t 101) (seqK (g54_15 C) (retK)) (skipK))))))))))))))) (seqK (g54_16 C) (retK)))))
theorem h54_eq (C : Go.ScE.Callee) (n : Nat) : h54 C n = evK C n x54.body := by kernel_rfl

noncomputable def g55_0 (C : Go.ScE.Callee) : Env → Fram → List Fram → KX → R0 := fun e fr up k =>
  headK (look' 0 e) (fun v0 => headK (look' 1 e) (fun v1 => k .normal [(0, v0), (1, v1)] fr up))

noncomputable def g55_1 (C : Go.ScE.Callee) : Env → Fram → List Fram → KX → R0 := fun e fr up k =>
  headK (look' 0 e) (fun v0 => headK (look' 1 e) (fun v1 => headK (.c (.p (pI 0))) (fun v5 => k .normal [(0, v0), (1, v1), (5, v5)] fr up)))

noncomputable def g55_2 (C : Go.ScE.Callee) : Env → Fram → List Fram → KX → R0 := fun e fr up k =>
  hLenL  (demK (demK (look' 0 e))) fr up (fun r2 f2 u2 =>
  hBin .lss false (demK (demK (look' 5 e))) (demK r2) f2 u2 (fun r3 f3 u3 =>
  headK (look' 0 e) (fun v0 => headK (look' 1 e) (fun v1 => headK (look' 5 e) (fun v5 => headK r3 (fun v9 => k .normal [(0, v0), (1, v1), (5, v5), (9, v9)] f3 u3))))))

noncomputable def g55_3 (C : Go.ScE.Callee) : Env → Fram → List Fram → KX → R0 := fun e fr up k =>
  hIa 8 (demK (demK (look' 0 e))) (demK (demK (look' 5 e))) fr up (fun r2 f2 u2 =>
  hFa 0 (demK r2) f2 u2 (fun r3 f3 u3 =>
  hLd false 1 false (demK r3) f3 u3 (fun r4 f4 u4 =>
  hBin .eql false (demK r4) (.c (.p (pI 1))) f4 u4 (fun r5 f5 u5 =>
  guardK true (demK r5) (fun K => K (demK (look' 0 e)) f5 u5) f5 u5 (fun r7 f7 u7 =>
  guardK true (demK r5) (fun K => K (demK (look' 5 e)) f7 u7) f7 u7 (fun r8 f8 u8 =>
  guardK true (demK r5) (fun K => hIa 8 (demK r7) (demK r8) f8 u8 K) f8 u8 (fun r9 f9 u9 =>
  guardK true (demK r5) (fun K => hFa 6 (demK r9) f9 u9 K) f9 u9 (fun r10 f10 u10 =>
  guardK true (demK r5) (fun K => hLd false 1 false (demK r10) f10 u10 K) f10 u10 (fun r11 f11 u11 =>
  guardK true (demK r5) (fun K => K (demK (look' 1 e)) f11 u11) f11 u11 (fun r12 f12 u12 =>
  guardK true (demK r5) (fun K => hBin .eql false (demK r11) (demK r12) f12 u12 K) f12 u12 (fun r13 f13 u13 =>
  hPick  (demK (demK r5)) (demK r13) (.c (.p (pB false))) f13 u13 (fun r14 f14 u14 =>
  headK (look' 0 e) (fun v0 => headK (look' 1 e) (fun v1 => headK (look' 5 e) (fun v5 => headK r14 (fun v26 => k .normal [(0, v0), (1, v1), (5, v5), (26, v26)] f14 u14))))))))))))))))

noncomputable def g55_4 (C : Go.ScE.Callee) : Env → Fram → List Fram → KX → R0 := fun e fr up k =>
  headK (demK (demK (look' 5 e))) (fun v4 => k .normal [(4, v4)] fr up)

noncomputable def g55_5 (C : Go.ScE.Callee) : Env → Fram → List Fram → KX → R0 := fun e fr up k =>
  hBin .add false (demK (demK (look' 5 e))) (.c (.p (pI 1))) fr up (fun r1 f1 u1 =>
  headK (look' 0 e) (fun v0 => headK (look' 1 e) (fun v1 => headK (demK r1) (fun v5 => k .normal [(0, v0), (1, v1), (5, v5)] f1 u1))))

noncomputable def g55_6 (C : Go.ScE.Callee) : Env → Fram → List Fram → KX → R0 := fun e fr up k =>
  headK (.c (.p (pI (-1)))) (fun v4 => k .normal [(4, v4)] fr up)

noncomputable def h55 : KC := fun C n => seqK (g55_0 C) (seqK (seqK (g55_1 C) (blockK 0 (loopsK [0, 1, 5] [] (seqK (seqK (g55_2 C) (condK (.t 9) (skipK) (exitK 0))) (seqK (blockK 1 (seqK (g55_3 C) (condK (.t 26) (seqK (g55_4 C) (retK)) (skipK)))) (g55_5 C))) n))) (seqK (g55_6 C) (retK)))
theorem h55_eq (C : Go.ScE.Callee) (n : Nat) : h55 C n = evK C n x55.body := by kernel_rfl

noncomputable def g56_0 (C : Go.ScE.Callee) : Env → Fram → List Fram → KX → R0 := fun e fr up k =>
  headK (look' 0 e) (fun v0 => k .normal [(0, v0)] fr up)

noncomputable def g56_1 (C : Go.ScE.Callee) : Env → Fram → List Fram → KX → R0 := fun e fr up k =>
  hLenL  (demK (demK (look' 0 e))) fr up (fun r1 f1 u1 =>
  hGen C (.mks 0 1 [(pB false)]) [(demK r1), (demK r1)] f1 u1 (fun r2 f2 u2 =>
  headK (look' 0 e) (fun v0 => headK r2 (fun v4 => k .normal [(0, v0), (4, v4)] f2 u2))))

noncomputable def g56_2 (C : Go.ScE.Callee) : Env → Fram → List Fram → KX → R0 := fun e fr up k =>
  hLenL  (demK (demK (look' 0 e))) fr up (fun r1 f1 u1 =>
  hGen C (.mks 1 1 [(pI 0)]) [(demK r1), (demK r1)] f1 u1 (fun r2 f2 u2 =>
  headK (look' 0 e) (fun v0 => headK (look' 4 e) (fun v4 => headK r2 (fun v5 => k .normal [(0, v0), (4, v4), (5, v5)] f2 u2)))))

noncomputable def g56_3 (C : Go.ScE.Callee) : Env → Fram → List Fram → KX → R0 := fun e fr up k =>
  headK (look' 0 e) (fun v0 => headK (look' 4 e) (fun v4 => headK (look' 5 e) (fun v5 => headK (.c (.p (pI 0))) (fun v6 => k .normal [(0, v0), (4, v4), (5, v5), (6, v6)] fr up))))

noncomputable def g56_4 (C : Go.ScE.Callee) : Env → Fram → List Fram → KX → R0 := fun e fr up k =>
  hLenL  (demK (demK (look' 0 e))) fr up (fun r2 f2 u2 =>
  hBin .lss false (demK (demK (look' 6 e))) (demK r2) f2 u2 (fun r3 f3 u3 =>
  headK (look' 0 e) (fun v0 => headK (look' 4 e) (fun v4 => headK (look' 5 e) (fun v5 => headK (look' 6 e) (fun v6 => headK r3 (fun v20 => k .normal [(0, v0), (4, v4), (5, v5), (6, v6), (20, v20)] f3 u3)))))))

noncomputable def g56_5 (C : Go.ScE.Callee) : Env → Fram → List Fram → KX → R0 := fun e fr up k =>
  hIa 8 (demK (demK (look' 0 e))) (demK (demK (look' 6 e))) fr up (fun r2 f2 u2 =>
  hLd true 8 false (demK r2) f2 u2 (fun r3 f3 u3 =>
  hCall C 43 [(demK r3)] f3 u3 (fun r4 f4 u4 =>
  headK (look' 0 e) (fun v0 => headK (look' 4 e) (fun v4 => headK (look' 5 e) (fun v5 => headK (look' 6 e) (fun v6 => headK r4 (fun v27 => k .normal [(0, v0), (4, v4), (5, v5), (6, v6), (27, v27)] f4 u4))))))))

noncomputable def g56_6 (C : Go.ScE.Callee) : Env → Fram → List Fram → KX → R0 := fun e fr up k =>
  hIa 8 (demK (demK (look' 0 e))) (demK (demK (look' 6 e))) fr up (fun r5 f5 u5 =>
  hFa 6 (demK r5) f5 u5 (fun r6 f6 u6 =>
  hLd false 1 false (demK r6) f6 u6 (fun r7 f7 u7 =>
  hCall C 55 [(demK (look' 0 e)), (demK r7)] f7 u7 (fun r8 f8 u8 =>
  hIa 1 (demK (demK (look' 5 e))) (demK (demK (look' 6 e))) f8 u8 (fun r9 f9 u9 =>
  hSt 1 (demK r9) (demK r8) f9 u9 (fun r10 f10 u10 =>
  headK (look' 0 e) (fun v0 => headK (look' 4 e) (fun v4 => headK (look' 5 e) (fun v5 => headK (look' 6 e) (fun v6 => k .normal [(0, v0), (4, v4), (5, v5), (6, v6)] f10 u10))))))))))

noncomputable def g56_7 (C : Go.ScE.Callee) : Env → Fram → List Fram → KX → R0 := fun e fr up k =>
  hBin .add false (demK (demK (look' 6 e))) (.c (.p (pI 1))) fr up (fun r1 f1 u1 =>
  headK (look' 0 e) (fun v0 => headK (look' 4 e) (fun v4 => headK (look' 5 e) (fun v5 => headK (demK r1) (fun v6 => k .normal [(0, v0), (4, v4), (5, v5), (6, v6)] f1 u1)))))

noncomputable def g56_8 (C : Go.ScE.Callee) : Env → Fram → List Fram → KX → R0 := fun e fr up k =>
  hCall C 62 [(demK (look' 0 e)), (demK (look' 4 e))] fr up (fun r2 f2 u2 =>
  headK (look' 0 e) (fun v0 => headK (look' 4 e) (fun v4 => headK (look' 5 e) (fun v5 => headK r2 (fun v7 => k .normal [(0, v0), (4, v4), (5, v5), (7, v7)] f2 u2)))))

noncomputable def g56_9 (C : Go.ScE.Callee) : Env → Fram → List Fram → KX → R0 := fun e fr up k =>
  headK (look' 0 e) (fun v0 => headK (look' 4 e) (fun v4 => headK (look' 5 e) (fun v5 => headK (look' 7 e) (fun v7 => headK (.c (.p (pB false))) (fun v8 => k .normal [(0, v0), (4, v4), (5, v5), (7, v7), (8, v8)] fr up)))))

noncomputable def g56_10 (C : Go.ScE.Callee) : Env → Fram → List Fram → KX → R0 := fun e fr up k =>
  headK (look' 0 e) (fun v0 => headK (look' 4 e) (fun v4 => headK (look' 5 e) (fun v5 => headK (look' 7 e) (fun v7 => headK (look' 8 e) (fun v8 => headK (.c (.p (pI 0))) (fun v9 => k .normal [(0, v0), (4, v4), (5, v5), (7, v7), (8, v8), (9, v9)] fr up))))))

noncomputable def g56_11 (C : Go.ScE.Callee) : Env → Fram → List Fram → KX → R0 := fun e fr up k =>
  hLenL  (demK (demK (look' 0 e))) fr up (fun r2 f2 u2 =>
  hBin .lss false (demK (demK (look' 9 e))) (demK r2) f2 u2 (fun r3 f3 u3 =>
  headK (look' 0 e) (fun v0 => headK (look' 4 e) (fun v4 => headK (look' 5 e) (fun v5 => headK (look' 7 e) (fun v7 => headK (look' 8 e) (fun v8 => headK (look' 9 e) (fun v9 => headK r3 (fun v44 => k .normal [(0, v0), (4, v4), (5, v5), (7, v7), (8, v8), (9, v9), (44, v44)] f3 u3)))))))))

noncomputable def g56_12 (C : Go.ScE.Callee) : Env → Fram → List Fram → KX → R0 := fun e fr up k =>
  hIa 8 (demK (demK (look' 0 e))) (demK (demK (look' 9 e))) fr up (fun r2 f2 u2 =>
  hFa 0 (demK r2) f2 u2 (fun r3 f3 u3 =>
  hLd false 1 false (demK r3) f3 u3 (fun r4 f4 u4 =>
  hBin .neq false (demK r4) (.c (.p (pI 2))) f4 u4 (fun r5 f5 u5 =>
  guardK false (demK r5) (fun K => K (demK (look' 4 e)) f5 u5) f5 u5 (fun r7 f7 u7 =>
  guardK false (demK r5) (fun K => K (demK (look' 9 e)) f7 u7) f7 u7 (fun r8 f8 u8 =>
  guardK false (demK r5) (fun K => hIa 1 (demK r7) (demK r8) f8 u8 K) f8 u8 (fun r9 f9 u9 =>
  guardK false (demK r5) (fun K => hLd false 1 false (demK r9) f9 u9 K) f9 u9 (fun r10 f10 u10 =>
  hPick  (demK (demK r5)) (.c (.p (pB true))) (demK r10) f10 u10 (fun r11 f11 u11 =>
  headK (look' 0 e) (fun v0 => headK (look' 4 e) (fun v4 => headK (look' 5 e) (fun v5 => headK (look' 7 e) (fun v7 => headK (look' 8 e) (fun v8 => headK (look' 9 e) (fun v9 => headK r11 (fun v58 => k .normal [(0, v0), (4, v4), (5, v5), (7, v7), (8, v8), (9, v9), (58, v58)] f11 u11))))))))))))))))

noncomputable def g56_13 (C : Go.ScE.Callee) : Env → Fram → List Fram → KX → R0 := fun e fr up k =>
  hIa 1 (demK (demK (look' 5 e))) (demK (demK (look' 9 e))) fr up (fun r3 f3 u3 =>
  hLd false 1 false (demK r3) f3 u3 (fun r4 f4 u4 =>
  hIa 1 (demK (demK (look' 7 e))) (demK r4) f4 u4 (fun r5 f5 u5 =>
  hLd false 1 false (demK r5) f5 u5 (fun r6 f6 u6 =>
  hIa 1 (demK (demK (look' 7 e))) (demK (demK (look' 9 e))) f6 u6 (fun r9 f9 u9 =>
  hLd false 1 false (demK r9) f9 u9 (fun r10 f10 u10 =>
  hBin .sub false (demK r6) (demK r10) f10 u10 (fun r11 f11 u11 =>
  headK (look' 0 e) (fun v0 => headK (look' 4 e) (fun v4 => headK (look' 5 e) (fun v5 => headK (look' 7 e) (fun v7 => headK (look' 8 e) (fun v8 => headK (look' 9 e) (fun v9 => headK (demK r11) (fun v10 => k .normal [(0, v0), (4, v4), (5, v5), (7, v7), (8, v8), (9, v9), (10, v10)] f11 u11))))))))))))))

noncomputable def g56_14 (C : Go.ScE.Callee) : Env → Fram → List Fram → KX → R0 := fun e fr up k =>
  hBin .lss false (demK (demK (look' 10 e))) (.c (.p (pI (-512)))) fr up (fun r1 f1 u1 =>
  guardK false (demK r1) (fun K => K (demK (look' 10 e)) f1 u1) f1 u1 (fun r3 f3 u3 =>
  guardK false (demK r1) (fun K => hBin .gtr false (demK r3) (.c (.p (pI 511))) f3 u3 K) f3 u3 (fun r4 f4 u4 =>
  hPick  (demK (demK r1)) (.c (.p (pB true))) (demK r4) f4 u4 (fun r5 f5 u5 =>
  headK (look' 0 e) (fun v0 => headK (look' 4 e) (fun v4 => headK (look' 5 e) (fun v5 => headK (look' 7 e) (fun v7 => headK (look' 8 e) (fun v8 => headK (look' 9 e) (fun v9 => headK r5 (fun v76 => k .normal [(0, v0), (4, v4), (5, v5), (7, v7), (8, v8), (9, v9), (76, v76)] f5 u5)))))))))))

noncomputable def g56_15 (C : Go.ScE.Callee) : Env → Fram → List Fram → KX → R0 := fun e fr up k =>
  hIa 1 (demK (demK (look' 4 e))) (demK (demK (look' 9 e))) fr up (fun r2 f2 u2 =>
  hSt 1 (demK r2) (.c (.p (pB true))) f2 u2 (fun r3 f3 u3 =>
  headK (look' 0 e) (fun v0 => headK (look' 4 e) (fun v4 => headK (look' 5 e) (fun v5 => headK (look' 7 e) (fun v7 => headK (look' 9 e) (fun v9 => k .normal [(0, v0), (4, v4), (5, v5), (7, v7), (9, v9)] f3 u3)))))))

noncomputable def g56_16 (C : Go.ScE.Callee) : Env → Fram → List Fram → KX → R0 := fun e fr up k =>
  headK (look' 0 e) (fun v0 => headK (look' 4 e) (fun v4 => headK (look' 5 e) (fun v5 => headK (look' 7 e) (fun v7 => headK (.c (.p (pB true))) (fun v8 => headK (look' 9 e) (fun v9 => k .normal [(0, v0), (4, v4), (5, v5), (7, v7), (8, v8), (9, v9)] fr up))))))

noncomputable def g56_17 (C : Go.ScE.Callee) : Env → Fram → List Fram → KX → R0 := fun e fr up k =>
  hBin .add false (demK (demK (look' 9 e))) (.c (.p (pI 1))) fr up (fun r1 f1 u1 =>
  headK (look' 0 e) (fun v0 => headK (look' 4 e) (fun v4 => headK (look' 5 e) (fun v5 => headK (look' 7 e) (fun v7 => headK (look' 8 e) (fun v8 => headK (demK r1) (fun v9 => k .normal [(0, v0), (4, v4), (5, v5), (7, v7), (8, v8), (9, v9)] f1 u1)))))))

noncomputable def g56_18 (C : Go.ScE.Callee) : Env → Fram → List Fram → KX → R0 := fun e fr up k =>
  hGen C (.un .not) [(demK (demK (look' 8 e)))] fr up (fun r1 f1 u1 =>
  headK (look' 0 e) (fun v0 => headK (look' 4 e) (fun v4 => headK (look' 5 e) (fun v5 => headK (look' 7 e) (fun v7 => headK r1 (fun v81 => k .normal [(0, v0), (4, v4), (5, v5), (7, v7), (81, v81)] f1 u1))))))

noncomputable def g56_19 (C : Go.ScE.Callee) : Env → Fram → List Fram → KX → R0 := fun e fr up k =>
  headK (look' 4 e) (fun v2 => headK (look' 7 e) (fun v3 => k .normal [(2, v2), (3, v3)] fr up))

noncomputable def h56 : KC := fun C n => seqK (g56_0 C) (seqK (g56_1 C) (seqK (g56_2 C) (seqK (seqK (g56_3 C) (blockK 0 (loopsK [0, 4, 5, 6] [0, 1] (seqK (seqK (g56_4 C) (condK (.t 20) (skipK) (exitK 0))) (seqK (blockK 1 (seqK (g56_5 C) (condK (.t 27) (g56_6 C) (skipK)))) (g56_7 C))) n))) (blockK 2 (loopsK [0, 4, 5] [0, 1] (blockK 3 (seqK (g56_8 C) (seqK (g56_9 C) (seqK (seqK (g56_10 C) (blockK 4 (loopsK [0, 4, 5, 7, 8, 9] [0, 1] (seqK (seqK (g56_11 C) (condK (.t 44) (skipK) (exitK 4))) (seqK (blockK 5 (seqK (seqK (g56_12 C) (condK (.t 58) (exitK 5) (skipK))) (seqK (g56_13 C) (seqK (g56_14 C) (condK (.t 76) (seqK (g56_15 C) (g56_16 C)) (skipK)))))) (g56_17 C))) n))) (seqK (g56_18 C) (condK (.t 81) (seqK (g56_19 C) (retK)) (skipK))))))) n)))))
theorem h56_eq (C : Go.ScE.Callee) (n : Nat) : h56 C n = evK C n x56.body := by kernel_rfl

noncomputable def g57_0 (C : Go.ScE.Callee) : Env → Fram → List Fram → KX → R0 := fun e fr up k =>
  hGen C (.box 0) [(demK (look' 0 e))] fr up (fun r0 f0 u0 =>
  headK (look' 1 e) (fun v1 => headK (look' 2 e) (fun v2 => headK (look' 3 e) (fun v3 => headK r0 (fun v4 => k .normal [(1, v1), (2, v2), (3, v3), (4, v4)] f0 u0)))))

noncomputable def g57_1 (C : Go.ScE.Callee) : Env → Fram → List Fram → KX → R0 := fun e fr up k =>
  hFa 1 (demK (look' 4 e)) fr up (fun r0 f0 u0 =>
  hLd true 5 false (demK r0) f0 u0 (fun r1 f1 u1 =>
  hGen C (.alloc 1 true [(pI 0), (pI 0), (pI 0), (pI 0), (pI 0)]) [] f1 u1 (fun r2 f2 u2 =>
  hSt 5 (demK r2) (demK r1) f2 u2 (fun r3 f3 u3 =>
  headK (look' 1 e) (fun v1 => headK (look' 2 e) (fun v2 => headK (look' 3 e) (fun v3 => headK (look' 4 e) (fun v4 => headK r2 (fun v9 => k .normal [(1, v1), (2, v2), (3, v3), (4, v4), (9, v9)] f3 u3)))))))))

noncomputable def g57_2 (C : Go.ScE.Callee) : Env → Fram → List Fram → KX → R0 := fun e fr up k =>
  hBlds 1 [(pI 0)] 4 [0, 1, 2, 3] [(.c (.p (pI 25))), (.c (.p (pI 24))), (.c (.p (pI 27))), (.c (.p (pI 26)))] fr up (fun r0 f0 u0 =>
  headK (look' 1 e) (fun v1 => headK (look' 2 e) (fun v2 => headK (look' 3 e) (fun v3 => headK (look' 4 e) (fun v4 => headK (look' 9 e) (fun v9 => headK r0 (fun v10 => k .normal [(1, v1), (2, v2), (3, v3), (4, v4), (9, v9), (10, v10)] f0 u0)))))))

noncomputable def g57_3 (C : Go.ScE.Callee) : Env → Fram → List Fram → KX → R0 := fun e fr up k =>
  hFa 0 (demK (look' 4 e)) fr up (fun r0 f0 u0 =>
  hLd false 1 false (demK r0) f0 u0 (fun r1 f1 u1 =>
  headK (look' 1 e) (fun v1 => headK (look' 2 e) (fun v2 => headK (look' 3 e) (fun v3 => headK (look' 4 e) (fun v4 => headK (look' 9 e) (fun v9 => headK (look' 10 e) (fun v10 => headK r1 (fun v15 => k .normal [(1, v1), (2, v2), (3, v3), (4, v4), (9, v9), (10, v10), (15, v15)] f1 u1)))))))))

noncomputable def g57_4 (C : Go.ScE.Callee) : Env → Fram → List Fram → KX → R0 := fun e fr up k =>
  hBin .eql false (demK (look' 15 e)) (.c (.p (pI 0))) fr up (fun r0 f0 u0 =>
  headK (look' 1 e) (fun v1 => headK (look' 2 e) (fun v2 => headK (look' 3 e) (fun v3 => headK (look' 4 e) (fun v4 => headK (look' 9 e) (fun v9 => headK (look' 10 e) (fun v10 => headK (look' 15 e) (fun v15 => headK (demK r0) (fun v16 => k .normal [(1, v1), (2, v2), (3, v3), (4, v4), (9, v9), (10, v10), (15, v15), (16, v16)] f0 u0)))))))))

noncomputable def g57_5 (C : Go.ScE.Callee) : Env → Fram → List Fram → KX → R0 := fun e fr up k =>
  hLd true 5 false (demK (look' 9 e)) fr up (fun r0 f0 u0 =>
  hBlds 5 [(pI 0), (pI 0), (pI 0), (pI 0), (pI 0)] 1 [0] [(demK r0)] f0 u0 (fun r1 f1 u1 =>
  headK r1 (fun v8 => k .normal [(8, v8)] f1 u1)))

noncomputable def g57_6 (C : Go.ScE.Callee) : Env → Fram → List Fram → KX → R0 := fun e fr up k =>
  hBin .eql false (demK (look' 15 e)) (.c (.p (pI 2))) fr up (fun r0 f0 u0 =>
  headK (look' 1 e) (fun v1 => headK (look' 2 e) (fun v2 => headK (look' 3 e) (fun v3 => headK (look' 4 e) (fun v4 => headK (look' 9 e) (fun v9 => headK (look' 10 e) (fun v10 => headK (look' 15 e) (fun v15 => headK (demK r0) (fun v20 => k .normal [(1, v1), (2, v2), (3, v3), (4, v4), (9, v9), (10, v10), (15, v15), (20, v20)] f0 u0)))))))))

noncomputable def g57_7 (C : Go.ScE.Callee) : Env → Fram → List Fram → KX → R0 := fun e fr up k =>
  headK (look' 2 e) (fun v2 => headK (look' 3 e) (fun v3 => headK (look' 9 e) (fun v9 => headK (look' 10 e) (fun v10 => headK (demK (look' 1 e)) (fun v22 => k .normal [(2, v2), (3, v3), (9, v9), (10, v10), (22, v22)] fr up)))))

noncomputable def g57_8 (C : Go.ScE.Callee) : Env → Fram → List Fram → KX → R0 := fun e fr up k =>
  hFa 0 (demK (look' 9 e)) fr up (fun r1 f1 u1 =>
  hLd false 1 false (demK r1) f1 u1 (fun r2 f2 u2 =>
  hBin .sub false (demK r2) (.c (.p (pI 24))) f2 u2 (fun r3 f3 u3 =>
  hIa 1 (demK (look' 10 e)) (demK r3) f3 u3 (fun r4 f4 u4 =>
  hLd false 1 false (demK r4) f4 u4 (fun r5 f5 u5 =>
  hFa 1 (demK (look' 9 e)) f5 u5 (fun r6 f6 u6 =>
  hLd false 1 false (demK r6) f6 u6 (fun r7 f7 u7 =>
  hFa 2 (demK (look' 9 e)) f7 u7 (fun r8 f8 u8 =>
  hLd false 1 false (demK r8) f8 u8 (fun r9 f9 u9 =>
  hBld [(pI 0), (pI 0), (pI 0), (pI 0), (pI 0)] [(0, 1), (1, 1), (2, 1), (4, 1)] [(demK r5), (demK r7), (demK r9), (.c (.p (pI 2)))] f9 u9 (fun r10 f10 u10 =>
  hBin .sub false (demK (demK (look' 3 e))) (demK (demK (look' 2 e))) f10 u10 (fun r13 f13 u13 =>
  hBin .sub false (demK r13) (.c (.p (pI 1))) f13 u13 (fun r14 f14 u14 =>
  hBld [(pI 0), (pI 0), (pI 0), (pI 0), (pI 0)] [(0, 1), (4, 1)] [(.c (.p (pI 28))), (demK r14)] f14 u14 (fun r15 f15 u15 =>
  hBlds 5 [(pI 0), (pI 0), (pI 0), (pI 0), (pI 0)] 2 [0, 1] [(demK r10), (demK r15)] f15 u15 (fun r16 f16 u16 =>
  headK r16 (fun v8 => k .normal [(8, v8)] f16 u16)))))))))))))))

noncomputable def g57_9 (C : Go.ScE.Callee) : Env → Fram → List Fram → KX → R0 := fun e fr up k =>
  hFa 0 (demK (look' 9 e)) fr up (fun r0 f0 u0 =>
  hLd false 1 false (demK r0) f0 u0 (fun r1 f1 u1 =>
  hFa 1 (demK (look' 9 e)) f1 u1 (fun r2 f2 u2 =>
  hLd false 1 false (demK r2) f2 u2 (fun r3 f3 u3 =>
  hFa 2 (demK (look' 9 e)) f3 u3 (fun r4 f4 u4 =>
  hLd false 1 false (demK r4) f4 u4 (fun r5 f5 u5 =>
  hBin .sub false (demK (demK (look' 3 e))) (demK (demK (look' 2 e))) f5 u5 (fun r8 f8 u8 =>
  hBld [(pI 0), (pI 0), (pI 0), (pI 0), (pI 0)] [(0, 1), (1, 1), (2, 1), (4, 1)] [(demK r1), (demK r3), (demK r5), (demK r8)] f8 u8 (fun r9 f9 u9 =>
  hBlds 5 [(pI 0), (pI 0), (pI 0), (pI 0), (pI 0)] 1 [0] [(demK r9)] f9 u9 (fun r10 f10 u10 =>
  headK r10 (fun v8 => k .normal [(8, v8)] f10 u10))))))))))

noncomputable def g57_10 (C : Go.ScE.Callee) : Env → Fram → List Fram → KX → R0 := fun e fr up k =>
  hBin .eql false (demK (look' 15 e)) (.c (.p (pI 3))) fr up (fun r0 f0 u0 =>
  headK (look' 2 e) (fun v2 => headK (look' 3 e) (fun v3 => headK (look' 4 e) (fun v4 => headK (look' 9 e) (fun v9 => headK (look' 15 e) (fun v15 => headK (demK r0) (fun v51 => k .normal [(2, v2), (3, v3), (4, v4), (9, v9), (15, v15), (51, v51)] f0 u0)))))))

noncomputable def g57_11 (C : Go.ScE.Callee) : Env → Fram → List Fram → KX → R0 := fun e fr up k =>
  hFa 1 (demK (look' 9 e)) fr up (fun r0 f0 u0 =>
  hLd false 1 false (demK r0) f0 u0 (fun r1 f1 u1 =>
  hBin .sub false (demK (demK (look' 3 e))) (demK (demK (look' 2 e))) f1 u1 (fun r4 f4 u4 =>
  hBld [(pI 0), (pI 0), (pI 0), (pI 0), (pI 0)] [(0, 1), (1, 1), (4, 1)] [(.c (.p (pI 28))), (demK r1), (demK r4)] f4 u4 (fun r5 f5 u5 =>
  hBlds 5 [(pI 0), (pI 0), (pI 0), (pI 0), (pI 0)] 1 [0] [(demK r5)] f5 u5 (fun r6 f6 u6 =>
  headK r6 (fun v8 => k .normal [(8, v8)] f6 u6))))))

noncomputable def g57_12 (C : Go.ScE.Callee) : Env → Fram → List Fram → KX → R0 := fun e fr up k =>
  hBin .eql false (demK (look' 15 e)) (.c (.p (pI 4))) fr up (fun r0 f0 u0 =>
  headK (look' 3 e) (fun v3 => headK (look' 4 e) (fun v4 => headK (look' 9 e) (fun v9 => headK (look' 15 e) (fun v15 => headK (demK r0) (fun v60 => k .normal [(3, v3), (4, v4), (9, v9), (15, v15), (60, v60)] f0 u0))))))

noncomputable def g57_13 (C : Go.ScE.Callee) : Env → Fram → List Fram → KX → R0 := fun e fr up k =>
  hFa 1 (demK (look' 9 e)) fr up (fun r0 f0 u0 =>
  hLd false 1 false (demK r0) f0 u0 (fun r1 f1 u1 =>
  hFa 7 (demK (look' 4 e)) f1 u1 (fun r2 f2 u2 =>
  hLd false 1 false (demK r2) f2 u2 (fun r3 f3 u3 =>
  hFa 7 (demK (look' 4 e)) f3 u3 (fun r4 f4 u4 =>
  hLd false 1 false (demK r4) f4 u4 (fun r5 f5 u5 =>
  Bool.rec (motive := fun _ => R0) fail0 (hCall C 64 [(demK r5)] f5 u5 (fun r6 f6 u6 =>
  Bool.rec (motive := fun _ => R0) fail0 (hCall C 63 [(demK r1), (demK r3), (demK r6)] f6 u6 (fun r7 f7 u7 =>
  headK r7 (fun v8 => k .normal [(8, v8)] f7 u7))) (chkD (.call 63) false [] [(demK r1), (demK r3), (demK r6)]))) (chkD (.call 64) false [] [(demK r5)])))))))

noncomputable def g57_14 (C : Go.ScE.Callee) : Env → Fram → List Fram → KX → R0 := fun e fr up k =>
  hBin .eql false (demK (look' 15 e)) (.c (.p (pI 5))) fr up (fun r0 f0 u0 =>
  headK (look' 3 e) (fun v3 => headK (look' 9 e) (fun v9 => headK (demK r0) (fun v70 => k .normal [(3, v3), (9, v9), (70, v70)] f0 u0))))

noncomputable def g57_15 (C : Go.ScE.Callee) : Env → Fram → List Fram → KX → R0 := fun e fr up k =>
  hFa 1 (demK (look' 9 e)) fr up (fun r0 f0 u0 =>
  hLd false 1 false (demK r0) f0 u0 (fun r1 f1 u1 =>
  hCall C 63 [(demK r1), (demK (demK (look' 3 e))), (.c (.p (pI 2)))] f1 u1 (fun r3 f3 u3 =>
  headK r3 (fun v8 => k .normal [(8, v8)] f3 u3))))

noncomputable def g57_16 (C : Go.ScE.Callee) : Env → Fram → List Fram → KX → R0 := fun e fr up k =>
  headK (.c (.own 5 [])) (fun v8 => k .normal [(8, v8)] fr up)

noncomputable def h57 : KC := fun C n => seqK (g57_0 C) (seqK (g57_1 C) (seqK (g57_2 C) (seqK (seqK (g57_3 C) (blockK 0 (seqK (g57_4 C) (condK (.t 16) (seqK (g57_5 C) (retK)) (seqK (g57_6 C) (condK (.t 20) (seqK (seqK (g57_7 C) (condK (.t 22) (seqK (g57_8 C) (retK)) (skipK))) (seqK (g57_9 C) (retK))) (seqK (g57_10 C) (condK (.t 51) (seqK (g57_11 C) (retK)) (seqK (g57_12 C) (condK (.t 60) (seqK (g57_13 C) (retK)) (seqK (g57_14 C) (condK (.t 70) (seqK (g57_15 C) (retK)) (skipK))))))))))))) (seqK (g57_16 C) (retK)))))
theorem h57_eq (C : Go.ScE.Callee) (n : Nat) : h57 C n = evK C n x57.body := by kernel_rfl

noncomputable def g58_0 (C : Go.ScE.Callee) : Env → Fram → List Fram → KX → R0 := fun e fr up k =>
  hGen C (.box 0) [(demK (look' 0 e))] fr up (fun r0 f0 u0 =>
  headK r0 (fun v1 => k .normal [(1, v1)] f0 u0))

noncomputable def g58_1 (C : Go.ScE.Callee) : Env → Fram → List Fram → KX → R0 := fun e fr up k =>
  hCall C 59 [] fr up (fun r0 f0 u0 =>
  headK (look' 1 e) (fun v1 => headK r0 (fun v4 => k .normal [(1, v1), (4, v4)] f0 u0)))

noncomputable def g58_2 (C : Go.ScE.Callee) : Env → Fram → List Fram → KX → R0 := fun e fr up k =>
  hFa 0 (demK (look' 1 e)) fr up (fun r0 f0 u0 =>
  hLd false 1 false (demK r0) f0 u0 (fun r1 f1 u1 =>
  hBin .lss false (demK r1) (.c (.p (pI 0))) f1 u1 (fun r2 f2 u2 =>
  guardK false (demK r2) (fun K => hFa 0 (demK (look' 1 e)) f2 u2 K) f2 u2 (fun r4 f4 u4 =>
  guardK false (demK r2) (fun K => hLd false 1 false (demK r4) f4 u4 K) f4 u4 (fun r5 f5 u5 =>
  guardK false (demK r2) (fun K => K (demK (look' 4 e)) f5 u5) f5 u5 (fun r6 f6 u6 =>
  guardK false (demK r2) (fun K => hLenL  (demK r6) f6 u6 K) f6 u6 (fun r7 f7 u7 =>
  guardK false (demK r2) (fun K => hBin .geq false (demK r5) (demK r7) f7 u7 K) f7 u7 (fun r8 f8 u8 =>
  hPick  (demK (demK r2)) (.c (.p (pB true))) (demK r8) f8 u8 (fun r9 f9 u9 =>
  headK (look' 1 e) (fun v1 => headK (look' 4 e) (fun v4 => headK r9 (fun v17 => k .normal [(1, v1), (4, v4), (17, v17)] f9 u9))))))))))))

noncomputable def g58_3 (C : Go.ScE.Callee) : Env → Fram → List Fram → KX → R0 := fun e fr up k =>
  headK (.c (.p (pK .u32 0))) (fun v2 => headK (.c (.p (pI 200))) (fun v3 => k .normal [(2, v2), (3, v3)] fr up))

noncomputable def g58_4 (C : Go.ScE.Callee) : Env → Fram → List Fram → KX → R0 := fun e fr up k =>
  hFa 0 (demK (look' 1 e)) fr up (fun r1 f1 u1 =>
  hLd false 1 false (demK r1) f1 u1 (fun r2 f2 u2 =>
  hIa 6 (demK (look' 4 e)) (demK r2) f2 u2 (fun r3 f3 u3 =>
  hLd true 6 false (demK r3) f3 u3 (fun r4 f4 u4 =>
  hGen C (.alloc 1 true [(pB false), (pB false), (pB false), (pK .u64 0), (pI 0), (pI 0)]) [] f4 u4 (fun r5 f5 u5 =>
  hSt 6 (demK r5) (demK r4) f5 u5 (fun r6 f6 u6 =>
  headK (look' 1 e) (fun v1 => headK r5 (fun v5 => k .normal [(1, v1), (5, v5)] f6 u6))))))))

noncomputable def g58_5 (C : Go.ScE.Callee) : Env → Fram → List Fram → KX → R0 := fun e fr up k =>
  hFa 1 (demK (look' 1 e)) fr up (fun r0 f0 u0 =>
  hLd false 1 false (demK r0) f0 u0 (fun r1 f1 u1 =>
  hFa 0 (demK (look' 5 e)) f1 u1 (fun r2 f2 u2 =>
  hLd false 1 false (demK r2) f2 u2 (fun r3 f3 u3 =>
  hCall C 65 [(demK r1), (demK r3)] f3 u3 (fun r4 f4 u4 =>
  hGen C (.un .not) [(demK r4)] f4 u4 (fun r5 f5 u5 =>
  guardK false (demK r5) (fun K => hFa 2 (demK (look' 1 e)) f5 u5 K) f5 u5 (fun r7 f7 u7 =>
  guardK false (demK r5) (fun K => hLd false 1 false (demK r7) f7 u7 K) f7 u7 (fun r8 f8 u8 =>
  guardK false (demK r5) (fun K => hFa 1 (demK (look' 5 e)) f8 u8 K) f8 u8 (fun r9 f9 u9 =>
  guardK false (demK r5) (fun K => hLd false 1 false (demK r9) f9 u9 K) f9 u9 (fun r10 f10 u10 =>
  guardK false (demK r5) (fun K => hCall C 65 [(demK r8), (demK r10)] f10 u10 K) f10 u10 (fun r11 f11 u11 =>
  guardK false (demK r5) (fun K => hGen C (.un .not) [(demK r11)] f11 u11 K) f11 u11 (fun r12 f12 u12 =>
  hPick  (demK (demK r5)) (.c (.p (pB true))) (demK r12) f12 u12 (fun r13 f13 u13 =>
  guardK false (demK r13) (fun K => hFa 3 (demK (look' 1 e)) f13 u13 K) f13 u13 (fun r15 f15 u15 =>
  guardK false (demK r13) (fun K => hLd false 1 false (demK r15) f15 u15 K) f15 u15 (fun r16 f16 u16 =>
  guardK false (demK r13) (fun K => hFa 2 (demK (look' 5 e)) f16 u16 K) f16 u16 (fun r17 f17 u17 =>
  guardK false (demK r13) (fun K => hLd false 1 false (demK r17) f17 u17 K) f17 u17 (fun r18 f18 u18 =>
  guardK false (demK r13) (fun K => hCall C 65 [(demK r16), (demK r18)] f18 u18 K) f18 u18 (fun r19 f19 u19 =>
  guardK false (demK r13) (fun K => hGen C (.un .not) [(demK r19)] f19 u19 K) f19 u19 (fun r20 f20 u20 =>
  hPick  (demK (demK r13)) (.c (.p (pB true))) (demK r20) f20 u20 (fun r21 f21 u21 =>
  guardK false (demK r21) (fun K => hFa 4 (demK (look' 1 e)) f21 u21 K) f21 u21 (fun r23 f23 u23 =>
  guardK false (demK r21) (fun K => hLd false 1 false (demK r23) f23 u23 K) f23 u23 (fun r24 f24 u24 =>
  guardK false (demK r21) (fun K => hFa 4 (demK (look' 5 e)) f24 u24 K) f24 u24 (fun r25 f25 u25 =>
  guardK false (demK r21) (fun K => hLd false 1 false (demK r25) f25 u25 K) f25 u25 (fun r26 f26 u26 =>
  guardK false (demK r21) (fun K => hBin .lss false (demK r24) (demK r26) f26 u26 K) f26 u26 (fun r27 f27 u27 =>
  hPick  (demK (demK r21)) (.c (.p (pB true))) (demK r27) f27 u27 (fun r28 f28 u28 =>
  guardK false (demK r28) (fun K => hFa 4 (demK (look' 1 e)) f28 u28 K) f28 u28 (fun r30 f30 u30 =>
  guardK false (demK r28) (fun K => hLd false 1 false (demK r30) f30 u30 K) f30 u30 (fun r31 f31 u31 =>
  guardK false (demK r28) (fun K => hFa 5 (demK (look' 5 e)) f31 u31 K) f31 u31 (fun r32 f32 u32 =>
  guardK false (demK r28) (fun K => hLd false 1 false (demK r32) f32 u32 K) f32 u32 (fun r33 f33 u33 =>
  guardK false (demK r28) (fun K => hBin .gtr false (demK r31) (demK r33) f33 u33 K) f33 u33 (fun r34 f34 u34 =>
  hPick  (demK (demK r28)) (.c (.p (pB true))) (demK r34) f34 u34 (fun r35 f35 u35 =>
  headK (look' 1 e) (fun v1 => headK (look' 5 e) (fun v5 => headK r35 (fun v58 => k .normal [(1, v1), (5, v5), (58, v58)] f35 u35)))))))))))))))))))))))))))))))))))

noncomputable def g58_6 (C : Go.ScE.Callee) : Env → Fram → List Fram → KX → R0 := fun e fr up k =>
  headK (.c (.p (pK .u32 0))) (fun v2 => headK (.c (.p (pI 200))) (fun v3 => k .normal [(2, v2), (3, v3)] fr up))

noncomputable def g58_7 (C : Go.ScE.Callee) : Env → Fram → List Fram → KX → R0 := fun e fr up k =>
  hFa 4 (demK (look' 1 e)) fr up (fun r0 f0 u0 =>
  hLd false 1 false (demK r0) f0 u0 (fun r1 f1 u1 =>
  headK (look' 1 e) (fun v1 => headK (look' 5 e) (fun v5 => headK (demK r1) (fun v6 => k .normal [(1, v1), (5, v5), (6, v6)] f1 u1)))))

noncomputable def g58_8 (C : Go.ScE.Callee) : Env → Fram → List Fram → KX → R0 := fun e fr up k =>
  hBin .lss false (demK (demK (look' 6 e))) (.c (.p (pI 0))) fr up (fun r1 f1 u1 =>
  headK (look' 1 e) (fun v1 => headK (look' 5 e) (fun v5 => headK (look' 6 e) (fun v6 => headK r1 (fun v62 => k .normal [(1, v1), (5, v5), (6, v6), (62, v62)] f1 u1)))))

noncomputable def g58_9 (C : Go.ScE.Callee) : Env → Fram → List Fram → KX → R0 := fun e fr up k =>
  hFa 3 (demK (look' 5 e)) fr up (fun r1 f1 u1 =>
  hLd false 1 false (demK r1) f1 u1 (fun r2 f2 u2 =>
  hBin .shl false (.c (.p (pI 1))) (demK r2) f2 u2 (fun r3 f3 u3 =>
  hBin .add false (demK (demK (look' 6 e))) (demK r3) f3 u3 (fun r4 f4 u4 =>
  headK (look' 1 e) (fun v1 => headK (demK r4) (fun v6 => k .normal [(1, v1), (6, v6)] f4 u4))))))

noncomputable def g58_10 (C : Go.ScE.Callee) : Env → Fram → List Fram → KX → R0 := fun e fr up k =>
  hFa 0 (demK (look' 1 e)) fr up (fun r0 f0 u0 =>
  hLd false 1 false (demK r0) f0 u0 (fun r1 f1 u1 =>
  hBin .mul false (demK r1) (.c (.p (pI 67108864))) f1 u1 (fun r2 f2 u2 =>
  hFa 1 (demK (look' 1 e)) f2 u2 (fun r3 f3 u3 =>
  hLd false 1 false (demK r3) f3 u3 (fun r4 f4 u4 =>
  hBin .mul false (demK r4) (.c (.p (pI 2097152))) f4 u4 (fun r5 f5 u5 =>
  hBin .add false (demK r2) (demK r5) f5 u5 (fun r6 f6 u6 =>
  hFa 2 (demK (look' 1 e)) f6 u6 (fun r7 f7 u7 =>
  hLd false 1 false (demK r7) f7 u7 (fun r8 f8 u8 =>
  hBin .mul false (demK r8) (.c (.p (pI 65536))) f8 u8 (fun r9 f9 u9 =>
  hBin .add false (demK r6) (demK r9) f9 u9 (fun r10 f10 u10 =>
  hFa 3 (demK (look' 1 e)) f10 u10 (fun r11 f11 u11 =>
  hLd false 1 false (demK r11) f11 u11 (fun r12 f12 u12 =>
  hBin .mul false (demK r12) (.c (.p (pI 2048))) f12 u12 (fun r13 f13 u13 =>
  hBin .add false (demK r10) (demK r13) f13 u13 (fun r14 f14 u14 =>
  hBin .add false (demK r14) (demK (demK (look' 6 e))) f14 u14 (fun r16 f16 u16 =>
  hGen C (.cvi .u32) [(demK r16)] f16 u16 (fun r17 f17 u17 =>
  headK (demK r17) (fun v2 => headK (.c (.p (pI 0))) (fun v3 => k .normal [(2, v2), (3, v3)] f17 u17)))))))))))))))))))

noncomputable def h58 : KC := fun C n => seqK (g58_0 C) (seqK (g58_1 C) (seqK (seqK (g58_2 C) (condK (.t 17) (seqK (g58_3 C) (retK)) (skipK))) (seqK (g58_4 C) (seqK (seqK (g58_5 C) (condK (.t 58) (seqK (g58_6 C) (retK)) (skipK))) (seqK (g58_7 C) (seqK (seqK (g58_8 C) (condK (.t 62) (g58_9 C) (skipK))) (seqK (g58_10 C) (retK))))))))
theorem h58_eq (C : Go.ScE.Callee) (n : Nat) : h58 C n = evK C n x58.body := by kernel_rfl

noncomputable def g59_0 (C : Go.ScE.Callee) : Env → Fram → List Fram → KX → R0 := fun e fr up k =>
  k .normal [] fr up

noncomputable def g59_1 (C : Go.ScE.Callee) : Env → Fram → List Fram → KX → R0 := fun e fr up k =>
  hBld [(pB false), (pB false), (pB false), (pK .u64 0), (pI 0), (pI 0)] [(0, 1)] [(.c (.p (pB true)))] fr up (fun r0 f0 u0 =>
  hGen C (.alloc 0 true [(pB false), (pB false), (pB false), (pK .u64 0), (pI 0), (pI 0)]) [] f0 u0 (fun r1 f1 u1 =>
  hSt 6 (demK r1) (demK r0) f1 u1 (fun r2 f2 u2 =>
  headK r1 (fun v1 => k .normal [(1, v1)] f2 u2))))

noncomputable def g59_2 (C : Go.ScE.Callee) : Env → Fram → List Fram → KX → R0 := fun e fr up k =>
  hBld [(pB false), (pB false), (pB false), (pK .u64 0), (pI 0), (pI 0)] [(0, 1), (1, 1), (2, 1)] [(.c (.p (pB true))), (.c (.p (pB true))), (.c (.p (pB true)))] fr up (fun r0 f0 u0 =>
  hGen C (.alloc 1 true [(pB false), (pB false), (pB false), (pK .u64 0), (pI 0), (pI 0)]) [] f0 u0 (fun r1 f1 u1 =>
  hSt 6 (demK r1) (demK r0) f1 u1 (fun r2 f2 u2 =>
  headK (look' 1 e) (fun v1 => headK r1 (fun v2 => k .normal [(1, v1), (2, v2)] f2 u2)))))

noncomputable def g59_3 (C : Go.ScE.Callee) : Env → Fram → List Fram → KX → R0 := fun e fr up k =>
  hBld [(pB false), (pB false), (pB false), (pK .u64 0), (pI 0), (pI 0)] [(0, 1), (1, 1), (3, 1), (4, 1), (5, 1)] [(.c (.p (pB true))), (.c (.p (pB true))), (.c (.p (pK .u64 16))), (.c (.p (pI (-32768)))), (.c (.p (pI 32767)))] fr up (fun r0 f0 u0 =>
  hGen C (.alloc 2 true [(pB false), (pB false), (pB false), (pK .u64 0), (pI 0), (pI 0)]) [] f0 u0 (fun r1 f1 u1 =>
  hSt 6 (demK r1) (demK r0) f1 u1 (fun r2 f2 u2 =>
  headK (look' 1 e) (fun v1 => headK (look' 2 e) (fun v2 => headK r1 (fun v3 => k .normal [(1, v1), (2, v2), (3, v3)] f2 u2))))))

noncomputable def g59_4 (C : Go.ScE.Callee) : Env → Fram → List Fram → KX → R0 := fun e fr up k =>
  hBld [(pB false), (pB false), (pB false), (pK .u64 0), (pI 0), (pI 0)] [(0, 1), (1, 1), (3, 1), (5, 1)] [(.c (.p (pB true))), (.c (.p (pB true))), (.c (.p (pK .u64 16))), (.c (.p (pI 65535)))] fr up (fun r0 f0 u0 =>
  hGen C (.alloc 3 true [(pB false), (pB false), (pB false), (pK .u64 0), (pI 0), (pI 0)]) [] f0 u0 (fun r1 f1 u1 =>
  hSt 6 (demK r1) (demK r0) f1 u1 (fun r2 f2 u2 =>
  headK (look' 1 e) (fun v1 => headK (look' 2 e) (fun v2 => headK (look' 3 e) (fun v3 => headK r1 (fun v4 => k .normal [(1, v1), (2, v2), (3, v3), (4, v4)] f2 u2)))))))

noncomputable def g59_5 (C : Go.ScE.Callee) : Env → Fram → List Fram → KX → R0 := fun e fr up k =>
  hBld [(pB false), (pB false), (pB false), (pK .u64 0), (pI 0), (pI 0)] [(0, 1), (1, 1), (3, 1), (5, 1)] [(.c (.p (pB true))), (.c (.p (pB true))), (.c (.p (pK .u64 16))), (.c (.p (pI 63)))] fr up (fun r0 f0 u0 =>
  hGen C (.alloc 4 true [(pB false), (pB false), (pB false), (pK .u64 0), (pI 0), (pI 0)]) [] f0 u0 (fun r1 f1 u1 =>
  hSt 6 (demK r1) (demK r0) f1 u1 (fun r2 f2 u2 =>
  headK (look' 1 e) (fun v1 => headK (look' 2 e) (fun v2 => headK (look' 3 e) (fun v3 => headK (look' 4 e) (fun v4 => headK r1 (fun v5 => k .normal [(1, v1), (2, v2), (3, v3), (4, v4), (5, v5)] f2 u2))))))))

noncomputable def g59_6 (C : Go.ScE.Callee) : Env → Fram → List Fram → KX → R0 := fun e fr up k =>
  hBld [(pB false), (pB false), (pB false), (pK .u64 0), (pI 0), (pI 0)] [(0, 1), (1, 1), (3, 1), (4, 1), (5, 1)] [(.c (.p (pB true))), (.c (.p (pB true))), (.c (.p (pK .u64 10))), (.c (.p (pI (-512)))), (.c (.p (pI 511)))] fr up (fun r0 f0 u0 =>
  hGen C (.alloc 5 true [(pB false), (pB false), (pB false), (pK .u64 0), (pI 0), (pI 0)]) [] f0 u0 (fun r1 f1 u1 =>
  hSt 6 (demK r1) (demK r0) f1 u1 (fun r2 f2 u2 =>
  headK (look' 1 e) (fun v1 => headK (look' 2 e) (fun v2 => headK (look' 3 e) (fun v3 => headK (look' 4 e) (fun v4 => headK (look' 5 e) (fun v5 => headK r1 (fun v6 => k .normal [(1, v1), (2, v2), (3, v3), (4, v4), (5, v5), (6, v6)] f2 u2)))))))))

noncomputable def g59_7 (C : Go.ScE.Callee) : Env → Fram → List Fram → KX → R0 := fun e fr up k =>
  hLd true 6 false (demK (look' 1 e)) fr up (fun r0 f0 u0 =>
  hBlds 6 [(pB false), (pB false), (pB false), (pK .u64 0), (pI 0), (pI 0)] 1 [0] [(demK r0)] f0 u0 (fun r1 f1 u1 =>
  headK (look' 1 e) (fun v1 => headK (look' 2 e) (fun v2 => headK (look' 3 e) (fun v3 => headK (look' 4 e) (fun v4 => headK (look' 5 e) (fun v5 => headK (look' 6 e) (fun v6 => headK r1 (fun v7 => k .normal [(1, v1), (2, v2), (3, v3), (4, v4), (5, v5), (6, v6), (7, v7)] f1 u1)))))))))

noncomputable def g59_8 (C : Go.ScE.Callee) : Env → Fram → List Fram → KX → R0 := fun e fr up k =>
  headK (look' 1 e) (fun v1 => headK (look' 2 e) (fun v2 => headK (look' 3 e) (fun v3 => headK (look' 4 e) (fun v4 => headK (look' 5 e) (fun v5 => headK (look' 6 e) (fun v6 => headK (look' 7 e) (fun v7 => headK (.c (.p (pI 0))) (fun v8 => k .normal [(1, v1), (2, v2), (3, v3), (4, v4), (5, v5), (6, v6), (7, v7), (8, v8)] fr up))))))))

noncomputable def g59_9 (C : Go.ScE.Callee) : Env → Fram → List Fram → KX → R0 := fun e fr up k =>
  hBin .lss false (demK (demK (look' 8 e))) (.c (.p (pI 14))) fr up (fun r1 f1 u1 =>
  headK (look' 1 e) (fun v1 => headK (look' 2 e) (fun v2 => headK (look' 3 e) (fun v3 => headK (look' 4 e) (fun v4 => headK (look' 5 e) (fun v5 => headK (look' 6 e) (fun v6 => headK (look' 7 e) (fun v7 => headK (look' 8 e) (fun v8 => headK r1 (fun v18 => k .normal [(1, v1), (2, v2), (3, v3), (4, v4), (5, v5), (6, v6), (7, v7), (8, v8), (18, v18)] f1 u1))))))))))

noncomputable def g59_10 (C : Go.ScE.Callee) : Env → Fram → List Fram → KX → R0 := fun e fr up k =>
  hLd true 6 false (demK (look' 2 e)) fr up (fun r1 f1 u1 =>
  hBlds 6 [(pB false), (pB false), (pB false), (pK .u64 0), (pI 0), (pI 0)] 1 [0] [(demK r1)] f1 u1 (fun r2 f2 u2 =>
  hApp 6 32 (look' 7 e) (demK r2) f2 u2 (fun r3 f3 u3 =>
  headK (look' 1 e) (fun v1 => headK (look' 2 e) (fun v2 => headK (look' 3 e) (fun v3 => headK (look' 4 e) (fun v4 => headK (look' 5 e) (fun v5 => headK (look' 6 e) (fun v6 => headK r3 (fun v7 => headK (look' 8 e) (fun v8 => k .normal [(1, v1), (2, v2), (3, v3), (4, v4), (5, v5), (6, v6), (7, v7), (8, v8)] f3 u3)))))))))))

noncomputable def g59_11 (C : Go.ScE.Callee) : Env → Fram → List Fram → KX → R0 := fun e fr up k =>
  hBin .add false (demK (demK (look' 8 e))) (.c (.p (pI 1))) fr up (fun r1 f1 u1 =>
  headK (look' 1 e) (fun v1 => headK (look' 2 e) (fun v2 => headK (look' 3 e) (fun v3 => headK (look' 4 e) (fun v4 => headK (look' 5 e) (fun v5 => headK (look' 6 e) (fun v6 => headK (look' 7 e) (fun v7 => headK (demK r1) (fun v8 => k .normal [(1, v1), (2, v2), (3, v3), (4, v4), (5, v5), (6, v6), (7, v7), (8, v8)] f1 u1)))))))))

noncomputable def g59_12 (C : Go.ScE.Callee) : Env → Fram → List Fram → KX → R0 := fun e fr up k =>
  hLd true 6 false (demK (look' 3 e)) fr up (fun r1 f1 u1 =>
  hLd true 6 false (demK (look' 4 e)) f1 u1 (fun r2 f2 u2 =>
  hLd true 6 false (demK (look' 4 e)) f2 u2 (fun r3 f3 u3 =>
  hLd true 6 false (demK (look' 5 e)) f3 u3 (fun r4 f4 u4 =>
  hLd true 6 false (demK (look' 5 e)) f4 u4 (fun r5 f5 u5 =>
  hBlds 6 [(pB false), (pB false), (pB false), (pK .u64 0), (pI 0), (pI 0)] 5 [0, 1, 2, 3, 4] [(demK r1), (demK r2), (demK r3), (demK r4), (demK r5)] f5 u5 (fun r6 f6 u6 =>
  hApp 6 32 (look' 7 e) (demK r6) f6 u6 (fun r7 f7 u7 =>
  headK (look' 1 e) (fun v1 => headK (look' 3 e) (fun v3 => headK (look' 6 e) (fun v6 => headK r7 (fun v7 => k .normal [(1, v1), (3, v3), (6, v6), (7, v7)] f7 u7)))))))))))

noncomputable def g59_13 (C : Go.ScE.Callee) : Env → Fram → List Fram → KX → R0 := fun e fr up k =>
  hBld [(pB false), (pB false), (pB false), (pK .u64 0), (pI 0), (pI 0)] [(0, 1), (3, 1), (4, 1), (5, 1)] [(.c (.p (pB true))), (.c (.p (pK .u64 16))), (.c (.p (pI (-32768)))), (.c (.p (pI 32767)))] fr up (fun r1 f1 u1 =>
  hBld [(pB false), (pB false), (pB false), (pK .u64 0), (pI 0), (pI 0)] [(0, 1), (3, 1), (5, 1)] [(.c (.p (pB true))), (.c (.p (pK .u64 16))), (.c (.p (pI 65535)))] f1 u1 (fun r2 f2 u2 =>
  hLd true 6 false (demK (look' 3 e)) f2 u2 (fun r3 f3 u3 =>
  hLd true 6 false (demK (look' 3 e)) f3 u3 (fun r4 f4 u4 =>
  hBlds 6 [(pB false), (pB false), (pB false), (pK .u64 0), (pI 0), (pI 0)] 4 [0, 1, 2, 3] [(demK r1), (demK r2), (demK r3), (demK r4)] f4 u4 (fun r5 f5 u5 =>
  hApp 6 32 (look' 7 e) (demK r5) f5 u5 (fun r6 f6 u6 =>
  headK (look' 1 e) (fun v1 => headK (look' 6 e) (fun v6 => headK r6 (fun v7 => k .normal [(1, v1), (6, v6), (7, v7)] f6 u6)))))))))

noncomputable def g59_14 (C : Go.ScE.Callee) : Env → Fram → List Fram → KX → R0 := fun e fr up k =>
  hLd true 6 false (demK (look' 6 e)) fr up (fun r1 f1 u1 =>
  hLd true 6 false (demK (look' 6 e)) f1 u1 (fun r2 f2 u2 =>
  hLd true 6 false (demK (look' 6 e)) f2 u2 (fun r3 f3 u3 =>
  hLd true 6 false (demK (look' 6 e)) f3 u3 (fun r4 f4 u4 =>
  hBlds 6 [(pB false), (pB false), (pB false), (pK .u64 0), (pI 0), (pI 0)] 4 [0, 1, 2, 3] [(demK r1), (demK r2), (demK r3), (demK r4)] f4 u4 (fun r5 f5 u5 =>
  hApp 6 32 (look' 7 e) (demK r5) f5 u5 (fun r6 f6 u6 =>
  headK (look' 1 e) (fun v1 => headK r6 (fun v7 => k .normal [(1, v1), (7, v7)] f6 u6))))))))

noncomputable def g59_15 (C : Go.ScE.Callee) : Env → Fram → List Fram → KX → R0 := fun e fr up k =>
  hBld [(pB false), (pB false), (pB false), (pK .u64 0), (pI 0), (pI 0)] [(0, 1), (3, 1), (4, 1), (5, 1)] [(.c (.p (pB true))), (.c (.p (pK .u64 21))), (.c (.p (pI (-1048576)))), (.c (.p (pI 1048575)))] fr up (fun r1 f1 u1 =>
  hBld [(pB false), (pB false), (pB false), (pK .u64 0), (pI 0), (pI 0)] [(0, 1), (1, 1)] [(.c (.p (pB true))), (.c (.p (pB true)))] f1 u1 (fun r2 f2 u2 =>
  hLd true 6 false (demK (look' 1 e)) f2 u2 (fun r3 f3 u3 =>
  hLd true 6 false (demK (look' 1 e)) f3 u3 (fun r4 f4 u4 =>
  hBlds 6 [(pB false), (pB false), (pB false), (pK .u64 0), (pI 0), (pI 0)] 4 [0, 1, 2, 3] [(demK r1), (demK r2), (demK r3), (demK r4)] f4 u4 (fun r5 f5 u5 =>
  hApp 6 32 (look' 7 e) (demK r5) f5 u5 (fun r6 f6 u6 =>
  headK r6 (fun v7 => k .normal [(7, v7)] f6 u6)))))))

noncomputable def g59_16 (C : Go.ScE.Callee) : Env → Fram → List Fram → KX → R0 := fun e fr up k =>
  headK (look' 7 e) (fun v0 => k .normal [(0, v0)] fr up)

noncomputable def h59 : KC := fun C n => seqK (g59_0 C) (seqK (g59_1 C) (seqK (g59_2 C) (seqK (g59_3 C) (seqK (g59_4 C) (seqK (g59_5 C) (seqK (g59_6 C) (seqK (g59_7 C) (seqK (seqK (g59_8 C) (blockK 0 (loopsK [1, 2, 3, 4, 5, 6, 7, 8] [0, 1, 2, 3, 4, 5] (seqK (seqK (g59_9 C) (condK (.t 18) (skipK) (exitK 0))) (seqK (blockK 1 (g59_10 C)) (g59_11 C))) n))) (seqK (g59_12 C) (seqK (g59_13 C) (seqK (g59_14 C) (seqK (g59_15 C) (seqK (g59_16 C) (retK))))))))))))))
theorem h59_eq (C : Go.ScE.Callee) (n : Nat) : h59 C n = evK C n x59.body := by kernel_rfl

noncomputable def g60_0 (C : Go.ScE.Callee) : Env → Fram → List Fram → KX → R0 := fun e fr up k =>
  headK (look' 0 e) (fun v0 => headK (look' 1 e) (fun v1 => headK (look' 2 e) (fun v2 => k .normal [(0, v0), (1, v1), (2, v2)] fr up)))

noncomputable def g60_1 (C : Go.ScE.Callee) : Env → Fram → List Fram → KX → R0 := fun e fr up k =>
  headK (look' 1 e) (fun v1 => headK (look' 2 e) (fun v2 => headK (demK (look' 0 e)) (fun v7 => k .normal [(1, v1), (2, v2), (7, v7)] fr up)))

noncomputable def g60_2 (C : Go.ScE.Callee) : Env → Fram → List Fram → KX → R0 := fun e fr up k =>
  hBin .eql false (demK (look' 7 e)) (.c (.p (pI 1))) fr up (fun r0 f0 u0 =>
  headK (look' 1 e) (fun v1 => headK (look' 2 e) (fun v2 => headK (look' 7 e) (fun v7 => headK (demK r0) (fun v8 => k .normal [(1, v1), (2, v2), (7, v7), (8, v8)] f0 u0)))))

noncomputable def g60_3 (C : Go.ScE.Callee) : Env → Fram → List Fram → KX → R0 := fun e fr up k =>
  hBin .add false (demK (demK (look' 1 e))) (demK (demK (look' 2 e))) fr up (fun r2 f2 u2 =>
  headK (demK r2) (fun v6 => k .normal [(6, v6)] f2 u2))

noncomputable def g60_4 (C : Go.ScE.Callee) : Env → Fram → List Fram → KX → R0 := fun e fr up k =>
  hBin .eql false (demK (look' 7 e)) (.c (.p (pI 2))) fr up (fun r0 f0 u0 =>
  headK (look' 1 e) (fun v1 => headK (look' 2 e) (fun v2 => headK (look' 7 e) (fun v7 => headK (demK r0) (fun v13 => k .normal [(1, v1), (2, v2), (7, v7), (13, v13)] f0 u0)))))

noncomputable def g60_5 (C : Go.ScE.Callee) : Env → Fram → List Fram → KX → R0 := fun e fr up k =>
  hBin .sub false (demK (demK (look' 1 e))) (demK (demK (look' 2 e))) fr up (fun r2 f2 u2 =>
  headK (demK r2) (fun v6 => k .normal [(6, v6)] f2 u2))

noncomputable def g60_6 (C : Go.ScE.Callee) : Env → Fram → List Fram → KX → R0 := fun e fr up k =>
  hBin .eql false (demK (look' 7 e)) (.c (.p (pI 3))) fr up (fun r0 f0 u0 =>
  headK (look' 1 e) (fun v1 => headK (look' 2 e) (fun v2 => headK (look' 7 e) (fun v7 => headK (demK r0) (fun v18 => k .normal [(1, v1), (2, v2), (7, v7), (18, v18)] f0 u0)))))

noncomputable def g60_7 (C : Go.ScE.Callee) : Env → Fram → List Fram → KX → R0 := fun e fr up k =>
  hBin .mul false (demK (demK (look' 1 e))) (demK (demK (look' 2 e))) fr up (fun r2 f2 u2 =>
  headK (demK r2) (fun v6 => k .normal [(6, v6)] f2 u2))

noncomputable def g60_8 (C : Go.ScE.Callee) : Env → Fram → List Fram → KX → R0 := fun e fr up k =>
  hBin .eql false (demK (look' 7 e)) (.c (.p (pI 4))) fr up (fun r0 f0 u0 =>
  headK (look' 1 e) (fun v1 => headK (look' 2 e) (fun v2 => headK (look' 7 e) (fun v7 => headK (demK r0) (fun v23 => k .normal [(1, v1), (2, v2), (7, v7), (23, v23)] f0 u0)))))

noncomputable def g60_9 (C : Go.ScE.Callee) : Env → Fram → List Fram → KX → R0 := fun e fr up k =>
  hCall C 66 [(demK (demK (look' 1 e))), (demK (demK (look' 2 e)))] fr up (fun r2 f2 u2 =>
  headK (demK r2) (fun v6 => k .normal [(6, v6)] f2 u2))

noncomputable def g60_10 (C : Go.ScE.Callee) : Env → Fram → List Fram → KX → R0 := fun e fr up k =>
  hBin .eql false (demK (look' 7 e)) (.c (.p (pI 5))) fr up (fun r0 f0 u0 =>
  headK (look' 1 e) (fun v1 => headK (look' 2 e) (fun v2 => headK (look' 7 e) (fun v7 => headK (demK r0) (fun v28 => k .normal [(1, v1), (2, v2), (7, v7), (28, v28)] f0 u0)))))

noncomputable def g60_11 (C : Go.ScE.Callee) : Env → Fram → List Fram → KX → R0 := fun e fr up k =>
  hBin .quo false (demK (demK (look' 1 e))) (demK (demK (look' 2 e))) fr up (fun r2 f2 u2 =>
  headK (demK r2) (fun v6 => k .normal [(6, v6)] f2 u2))

noncomputable def g60_12 (C : Go.ScE.Callee) : Env → Fram → List Fram → KX → R0 := fun e fr up k =>
  hBin .eql false (demK (look' 7 e)) (.c (.p (pI 6))) fr up (fun r0 f0 u0 =>
  headK (look' 1 e) (fun v1 => headK (look' 2 e) (fun v2 => headK (look' 7 e) (fun v7 => headK (demK r0) (fun v33 => k .normal [(1, v1), (2, v2), (7, v7), (33, v33)] f0 u0)))))

noncomputable def g60_13 (C : Go.ScE.Callee) : Env → Fram → List Fram → KX → R0 := fun e fr up k =>
  hBin .quo false (demK (demK (look' 1 e))) (demK (demK (look' 2 e))) fr up (fun r3 f3 u3 =>
  hBin .mul false (demK r3) (demK (demK (look' 2 e))) f3 u3 (fun r5 f5 u5 =>
  hBin .sub false (demK (demK (look' 1 e))) (demK r5) f5 u5 (fun r6 f6 u6 =>
  headK (demK r6) (fun v6 => k .normal [(6, v6)] f6 u6))))

noncomputable def g60_14 (C : Go.ScE.Callee) : Env → Fram → List Fram → KX → R0 := fun e fr up k =>
  hBin .eql false (demK (look' 7 e)) (.c (.p (pI 7))) fr up (fun r0 f0 u0 =>
  headK (look' 1 e) (fun v1 => headK (look' 2 e) (fun v2 => headK (look' 7 e) (fun v7 => headK (demK r0) (fun v42 => k .normal [(1, v1), (2, v2), (7, v7), (42, v42)] f0 u0)))))

noncomputable def g60_15 (C : Go.ScE.Callee) : Env → Fram → List Fram → KX → R0 := fun e fr up k =>
  hBin .and false (demK (demK (look' 1 e))) (demK (demK (look' 2 e))) fr up (fun r2 f2 u2 =>
  headK (demK r2) (fun v6 => k .normal [(6, v6)] f2 u2))

noncomputable def g60_16 (C : Go.ScE.Callee) : Env → Fram → List Fram → KX → R0 := fun e fr up k =>
  hBin .eql false (demK (look' 7 e)) (.c (.p (pI 8))) fr up (fun r0 f0 u0 =>
  headK (look' 1 e) (fun v1 => headK (look' 2 e) (fun v2 => headK (look' 7 e) (fun v7 => headK (demK r0) (fun v47 => k .normal [(1, v1), (2, v2), (7, v7), (47, v47)] f0 u0)))))

noncomputable def g60_17 (C : Go.ScE.Callee) : Env → Fram → List Fram → KX → R0 := fun e fr up k =>
  hBin .or false (demK (demK (look' 1 e))) (demK (demK (look' 2 e))) fr up (fun r2 f2 u2 =>
  headK (demK r2) (fun v6 => k .normal [(6, v6)] f2 u2))

noncomputable def g60_18 (C : Go.ScE.Callee) : Env → Fram → List Fram → KX → R0 := fun e fr up k =>
  hBin .eql false (demK (look' 7 e)) (.c (.p (pI 9))) fr up (fun r0 f0 u0 =>
  headK (look' 1 e) (fun v1 => headK (look' 2 e) (fun v2 => headK (look' 7 e) (fun v7 => headK (demK r0) (fun v52 => k .normal [(1, v1), (2, v2), (7, v7), (52, v52)] f0 u0)))))

noncomputable def g60_19 (C : Go.ScE.Callee) : Env → Fram → List Fram → KX → R0 := fun e fr up k =>
  hBin .xor false (demK (demK (look' 1 e))) (demK (demK (look' 2 e))) fr up (fun r2 f2 u2 =>
  headK (demK r2) (fun v6 => k .normal [(6, v6)] f2 u2))

noncomputable def g60_20 (C : Go.ScE.Callee) : Env → Fram → List Fram → KX → R0 := fun e fr up k =>
  hBin .eql false (demK (look' 7 e)) (.c (.p (pI 10))) fr up (fun r0 f0 u0 =>
  headK (look' 1 e) (fun v1 => headK (look' 2 e) (fun v2 => headK (look' 7 e) (fun v7 => headK (demK r0) (fun v57 => k .normal [(1, v1), (2, v2), (7, v7), (57, v57)] f0 u0)))))

noncomputable def g60_21 (C : Go.ScE.Callee) : Env → Fram → List Fram → KX → R0 := fun e fr up k =>
  hBin .and false (demK (demK (look' 2 e))) (.c (.p (pI 63))) fr up (fun r2 f2 u2 =>
  hGen C (.cvi .u64) [(demK r2)] f2 u2 (fun r3 f3 u3 =>
  hBin .shl false (demK (demK (look' 1 e))) (demK r3) f3 u3 (fun r4 f4 u4 =>
  headK (demK r4) (fun v6 => k .normal [(6, v6)] f4 u4))))

noncomputable def g60_22 (C : Go.ScE.Callee) : Env → Fram → List Fram → KX → R0 := fun e fr up k =>
  hBin .eql false (demK (look' 7 e)) (.c (.p (pI 11))) fr up (fun r0 f0 u0 =>
  headK (look' 1 e) (fun v1 => headK (look' 2 e) (fun v2 => headK (look' 7 e) (fun v7 => headK (demK r0) (fun v64 => k .normal [(1, v1), (2, v2), (7, v7), (64, v64)] f0 u0)))))

noncomputable def g60_23 (C : Go.ScE.Callee) : Env → Fram → List Fram → KX → R0 := fun e fr up k =>
  hBin .and false (demK (demK (look' 2 e))) (.c (.p (pI 63))) fr up (fun r2 f2 u2 =>
  hGen C (.cvi .u64) [(demK r2)] f2 u2 (fun r3 f3 u3 =>
  hBin .shr false (demK (demK (look' 1 e))) (demK r3) f3 u3 (fun r4 f4 u4 =>
  headK (demK r4) (fun v6 => k .normal [(6, v6)] f4 u4))))

noncomputable def g60_24 (C : Go.ScE.Callee) : Env → Fram → List Fram → KX → R0 := fun e fr up k =>
  hBin .eql false (demK (look' 7 e)) (.c (.p (pI 12))) fr up (fun r0 f0 u0 =>
  headK (look' 1 e) (fun v1 => headK (look' 2 e) (fun v2 => headK (look' 7 e) (fun v7 => headK (demK r0) (fun v71 => k .normal [(1, v1), (2, v2), (7, v7), (71, v71)] f0 u0)))))

noncomputable def g60_25 (C : Go.ScE.Callee) : Env → Fram → List Fram → KX → R0 := fun e fr up k =>
  hGen C (.cvi .u64) [(demK (demK (look' 1 e)))] fr up (fun r1 f1 u1 =>
  hBin .and false (demK (demK (look' 2 e))) (.c (.p (pI 63))) f1 u1 (fun r3 f3 u3 =>
  hGen C (.cvi .u64) [(demK r3)] f3 u3 (fun r4 f4 u4 =>
  hBin .shr false (demK r1) (demK r4) f4 u4 (fun r5 f5 u5 =>
  hGen C (.cvi .i64) [(demK r5)] f5 u5 (fun r6 f6 u6 =>
  headK (demK r6) (fun v6 => k .normal [(6, v6)] f6 u6))))))

noncomputable def g60_26 (C : Go.ScE.Callee) : Env → Fram → List Fram → KX → R0 := fun e fr up k =>
  hBin .eql false (demK (look' 7 e)) (.c (.p (pI 13))) fr up (fun r0 f0 u0 =>
  headK (look' 1 e) (fun v1 => headK (look' 2 e) (fun v2 => headK (demK r0) (fun v80 => k .normal [(1, v1), (2, v2), (80, v80)] f0 u0))))

noncomputable def g60_27 (C : Go.ScE.Callee) : Env → Fram → List Fram → KX → R0 := fun e fr up k =>
  hBin .lss false (demK (demK (look' 1 e))) (demK (demK (look' 2 e))) fr up (fun r2 f2 u2 =>
  headK r2 (fun v84 => k .normal [(84, v84)] f2 u2))

noncomputable def g60_28 (C : Go.ScE.Callee) : Env → Fram → List Fram → KX → R0 := fun e fr up k =>
  headK (.c (.p (pI 1))) (fun v6 => k .normal [(6, v6)] fr up)

noncomputable def g60_29 (C : Go.ScE.Callee) : Env → Fram → List Fram → KX → R0 := fun e fr up k =>
  headK (.c (.p (pI 0))) (fun v6 => k .normal [(6, v6)] fr up)

noncomputable def g60_30 (C : Go.ScE.Callee) : Env → Fram → List Fram → KX → R0 := fun e fr up k =>
  hGen C (.cvi .u64) [(demK (demK (look' 1 e)))] fr up (fun r1 f1 u1 =>
  hGen C (.cvi .u64) [(demK (demK (look' 2 e)))] f1 u1 (fun r3 f3 u3 =>
  hBin .lss false (demK r1) (demK r3) f3 u3 (fun r4 f4 u4 =>
  headK r4 (fun v89 => k .normal [(89, v89)] f4 u4))))

noncomputable def g60_31 (C : Go.ScE.Callee) : Env → Fram → List Fram → KX → R0 := fun e fr up k =>
  headK (.c (.p (pI 1))) (fun v6 => k .normal [(6, v6)] fr up)

noncomputable def g60_32 (C : Go.ScE.Callee) : Env → Fram → List Fram → KX → R0 := fun e fr up k =>
  headK (.c (.p (pI 0))) (fun v6 => k .normal [(6, v6)] fr up)

noncomputable def h60 : KC := fun C n => seqK (g60_0 C) (seqK (seqK (g60_1 C) (blockK 0 (seqK (g60_2 C) (condK (.t 8) (seqK (g60_3 C) (retK)) (seqK (g60_4 C) (condK (.t 13) (seqK (g60_5 C) (retK)) (seqK (g60_6 C) (condK (.t 18) (seqK (g60_7 C) (retK)) (seqK (g60_8 C) (condK (.t 23) (seqK (g60_9 C) (retK)) (seqK (g60_10 C) (condK (.t 28) (seqK (g60_11 C) (retK)) (seqK (g60_12 C) (condK (.t 33) (seqK (g60_13 C) (retK)) (seqK (g60_14 C) (condK (.t 42) (seqK (g60_15 C) (retK)) (seqK (g60_16 C) (condK (.t 47) (seqK (g60_17 C) (retK)) (seqK (g60_18 C) (condK (.t 52) (seqK (g60_19 C) (retK)) (seqK (g60_20 C) (condK (.t 57) (seqK (g60_21 C) (retK)) (seqK (g60_22 C) (condK (.t 64) (seqK (g60_23 C) (retK)) (seqK (g60_24 C) (condK (.t 71) (seqK (g60_25 C) (retK)) (seqK (g60_26 C) (condK (.t 80) (seqK (seqK (g60_27 C) (condK (.t 84) (seqK (g60_28 C) (retK)) (skipK))) (seqK (g60_29 C) (retK))) (skipK))))))))))))))))))))))))))))) (seqK (seqK (g60_30 C) (condK (.t 89) (seqK (g60_31 C) (retK)) (skipK))) (seqK (g60_32 C) (retK))))
theorem h60_eq (C : Go.ScE.Callee) (n : Nat) : h60 C n = evK C n x60.body := by kernel_rfl

noncomputable def g61_0 (C : Go.ScE.Callee) : Env → Fram → List Fram → KX → R0 := fun e fr up k =>
  hBld [(pI 0), (pI 0), (pI 0), (pI 0), (pI 0)] [(0, 1), (1, 1)] [(.c (.p (pI 20))), (demK (demK (look' 1 e)))] fr up (fun r2 f2 u2 =>
  hBld [(pI 0), (pI 0), (pI 0), (pI 0), (pI 0), (pI 0), (pI 0), (pI 0)] [(0, 1), (1, 5), (6, 1)] [(.c (.p (pI 5))), (demK r2), (demK (demK (look' 2 e)))] f2 u2 (fun r4 f4 u4 =>
  hCall C 53 [(demK (demK (look' 0 e))), (demK r4)] f4 u4 (fun r5 f5 u5 =>
  k .normal [] f5 u5)))

noncomputable def h61 : KC := fun C n => g61_0 C
theorem h61_eq (C : Go.ScE.Callee) (n : Nat) : h61 C n = evK C n x61.body := by kernel_rfl

noncomputable def g62_0 (C : Go.ScE.Callee) : Env → Fram → List Fram → KX → R0 := fun e fr up k =>
  headK (look' 0 e) (fun v0 => headK (look' 1 e) (fun v1 => k .normal [(0, v0), (1, v1)] fr up))

noncomputable def g62_1 (C : Go.ScE.Callee) : Env → Fram → List Fram → KX → R0 := fun e fr up k =>
  hBlds 1 [(pI 0)] 1 [0] [(.c (.p (pI 0)))] fr up (fun r0 f0 u0 =>
  headK (look' 0 e) (fun v0 => headK (look' 1 e) (fun v1 => headK r0 (fun v5 => k .normal [(0, v0), (1, v1), (5, v5)] f0 u0))))

noncomputable def g62_2 (C : Go.ScE.Callee) : Env → Fram → List Fram → KX → R0 := fun e fr up k =>
  headK (look' 0 e) (fun v0 => headK (look' 1 e) (fun v1 => headK (look' 5 e) (fun v5 => headK (.c (.p (pI 0))) (fun v6 => k .normal [(0, v0), (1, v1), (5, v5), (6, v6)] fr up))))

noncomputable def g62_3 (C : Go.ScE.Callee) : Env → Fram → List Fram → KX → R0 := fun e fr up k =>
  headK (look' 0 e) (fun v0 => headK (look' 1 e) (fun v1 => headK (look' 5 e) (fun v5 => headK (look' 6 e) (fun v6 => headK (.c (.p (pI 0))) (fun v7 => k .normal [(0, v0), (1, v1), (5, v5), (6, v6), (7, v7)] fr up)))))

noncomputable def g62_4 (C : Go.ScE.Callee) : Env → Fram → List Fram → KX → R0 := fun e fr up k =>
  hLenL  (demK (demK (look' 0 e))) fr up (fun r2 f2 u2 =>
  hBin .lss false (demK (demK (look' 7 e))) (demK r2) f2 u2 (fun r3 f3 u3 =>
  headK (look' 0 e) (fun v0 => headK (look' 1 e) (fun v1 => headK (look' 5 e) (fun v5 => headK (look' 6 e) (fun v6 => headK (look' 7 e) (fun v7 => headK r3 (fun v13 => k .normal [(0, v0), (1, v1), (5, v5), (6, v6), (7, v7), (13, v13)] f3 u3))))))))

noncomputable def g62_5 (C : Go.ScE.Callee) : Env → Fram → List Fram → KX → R0 := fun e fr up k =>
  headK (look' 0 e) (fun v0 => headK (look' 1 e) (fun v1 => headK (look' 5 e) (fun v5 => headK (look' 6 e) (fun v6 => headK (look' 7 e) (fun v7 => headK (.c (.p (pI 1))) (fun v8 => k .normal [(0, v0), (1, v1), (5, v5), (6, v6), (7, v7), (8, v8)] fr up))))))

noncomputable def g62_6 (C : Go.ScE.Callee) : Env → Fram → List Fram → KX → R0 := fun e fr up k =>
  hIa 8 (demK (demK (look' 0 e))) (demK (demK (look' 7 e))) fr up (fun r2 f2 u2 =>
  hFa 0 (demK r2) f2 u2 (fun r3 f3 u3 =>
  hLd false 1 false (demK r3) f3 u3 (fun r4 f4 u4 =>
  headK (look' 0 e) (fun v0 => headK (look' 1 e) (fun v1 => headK (look' 5 e) (fun v5 => headK (look' 6 e) (fun v6 => headK (look' 7 e) (fun v7 => headK (look' 8 e) (fun v8 => headK r4 (fun v20 => k .normal [(0, v0), (1, v1), (5, v5), (6, v6), (7, v7), (8, v8), (20, v20)] f4 u4))))))))))

noncomputable def g62_7 (C : Go.ScE.Callee) : Env → Fram → List Fram → KX → R0 := fun e fr up k =>
  hBin .eql false (demK (look' 20 e)) (.c (.p (pI 1))) fr up (fun r0 f0 u0 =>
  headK (look' 0 e) (fun v0 => headK (look' 1 e) (fun v1 => headK (look' 5 e) (fun v5 => headK (look' 6 e) (fun v6 => headK (look' 7 e) (fun v7 => headK (look' 8 e) (fun v8 => headK (look' 20 e) (fun v20 => headK (demK r0) (fun v21 => k .normal [(0, v0), (1, v1), (5, v5), (6, v6), (7, v7), (8, v8), (20, v20), (21, v21)] f0 u0)))))))))

noncomputable def g62_8 (C : Go.ScE.Callee) : Env → Fram → List Fram → KX → R0 := fun e fr up k =>
  headK (look' 0 e) (fun v0 => headK (look' 1 e) (fun v1 => headK (look' 5 e) (fun v5 => headK (look' 6 e) (fun v6 => headK (look' 7 e) (fun v7 => headK (.c (.p (pI 0))) (fun v8 => k .normal [(0, v0), (1, v1), (5, v5), (6, v6), (7, v7), (8, v8)] fr up))))))

noncomputable def g62_9 (C : Go.ScE.Callee) : Env → Fram → List Fram → KX → R0 := fun e fr up k =>
  hBin .eql false (demK (look' 20 e)) (.c (.p (pI 2))) fr up (fun r0 f0 u0 =>
  headK (look' 0 e) (fun v0 => headK (look' 1 e) (fun v1 => headK (look' 5 e) (fun v5 => headK (look' 6 e) (fun v6 => headK (look' 7 e) (fun v7 => headK (look' 8 e) (fun v8 => headK (look' 20 e) (fun v20 => headK (demK r0) (fun v23 => k .normal [(0, v0), (1, v1), (5, v5), (6, v6), (7, v7), (8, v8), (20, v20), (23, v23)] f0 u0)))))))))

noncomputable def g62_10 (C : Go.ScE.Callee) : Env → Fram → List Fram → KX → R0 := fun e fr up k =>
  hIa 1 (demK (demK (look' 1 e))) (demK (demK (look' 7 e))) fr up (fun r2 f2 u2 =>
  hLd false 1 false (demK r2) f2 u2 (fun r3 f3 u3 =>
  headK (look' 0 e) (fun v0 => headK (look' 1 e) (fun v1 => headK (look' 5 e) (fun v5 => headK (look' 6 e) (fun v6 => headK (look' 7 e) (fun v7 => headK (look' 8 e) (fun v8 => headK r3 (fun v28 => k .normal [(0, v0), (1, v1), (5, v5), (6, v6), (7, v7), (8, v8), (28, v28)] f3 u3)))))))))

noncomputable def g62_11 (C : Go.ScE.Callee) : Env → Fram → List Fram → KX → R0 := fun e fr up k =>
  headK (look' 0 e) (fun v0 => headK (look' 1 e) (fun v1 => headK (look' 5 e) (fun v5 => headK (look' 6 e) (fun v6 => headK (look' 7 e) (fun v7 => headK (.c (.p (pI 2))) (fun v8 => k .normal [(0, v0), (1, v1), (5, v5), (6, v6), (7, v7), (8, v8)] fr up))))))

noncomputable def g62_12 (C : Go.ScE.Callee) : Env → Fram → List Fram → KX → R0 := fun e fr up k =>
  hBin .eql false (demK (look' 20 e)) (.c (.p (pI 4))) fr up (fun r0 f0 u0 =>
  headK (look' 0 e) (fun v0 => headK (look' 1 e) (fun v1 => headK (look' 5 e) (fun v5 => headK (look' 6 e) (fun v6 => headK (look' 7 e) (fun v7 => headK (look' 8 e) (fun v8 => headK (look' 20 e) (fun v20 => headK (demK r0) (fun v29 => k .normal [(0, v0), (1, v1), (5, v5), (6, v6), (7, v7), (8, v8), (20, v20), (29, v29)] f0 u0)))))))))

noncomputable def g62_13 (C : Go.ScE.Callee) : Env → Fram → List Fram → KX → R0 := fun e fr up k =>
  hIa 8 (demK (demK (look' 0 e))) (demK (demK (look' 7 e))) fr up (fun r2 f2 u2 =>
  hFa 7 (demK r2) f2 u2 (fun r3 f3 u3 =>
  hLd false 1 false (demK r3) f3 u3 (fun r4 f4 u4 =>
  hCall C 64 [(demK r4)] f4 u4 (fun r5 f5 u5 =>
  headK (look' 0 e) (fun v0 => headK (look' 1 e) (fun v1 => headK (look' 5 e) (fun v5 => headK (look' 6 e) (fun v6 => headK (look' 7 e) (fun v7 => headK (demK r5) (fun v8 => k .normal [(0, v0), (1, v1), (5, v5), (6, v6), (7, v7), (8, v8)] f5 u5))))))))))

noncomputable def g62_14 (C : Go.ScE.Callee) : Env → Fram → List Fram → KX → R0 := fun e fr up k =>
  hBin .eql false (demK (look' 20 e)) (.c (.p (pI 5))) fr up (fun r0 f0 u0 =>
  headK (look' 0 e) (fun v0 => headK (look' 1 e) (fun v1 => headK (look' 5 e) (fun v5 => headK (look' 6 e) (fun v6 => headK (look' 7 e) (fun v7 => headK (look' 8 e) (fun v8 => headK (demK r0) (fun v37 => k .normal [(0, v0), (1, v1), (5, v5), (6, v6), (7, v7), (8, v8), (37, v37)] f0 u0))))))))

noncomputable def g62_15 (C : Go.ScE.Callee) : Env → Fram → List Fram → KX → R0 := fun e fr up k =>
  headK (look' 0 e) (fun v0 => headK (look' 1 e) (fun v1 => headK (look' 5 e) (fun v5 => headK (look' 6 e) (fun v6 => headK (look' 7 e) (fun v7 => headK (.c (.p (pI 2))) (fun v8 => k .normal [(0, v0), (1, v1), (5, v5), (6, v6), (7, v7), (8, v8)] fr up))))))

noncomputable def g62_16 (C : Go.ScE.Callee) : Env → Fram → List Fram → KX → R0 := fun e fr up k =>
  hBin .add false (demK (demK (look' 6 e))) (demK (demK (look' 8 e))) fr up (fun r2 f2 u2 =>
  headK (look' 0 e) (fun v0 => headK (look' 1 e) (fun v1 => headK (look' 5 e) (fun v5 => headK (demK r2) (fun v6 => headK (look' 7 e) (fun v7 => k .normal [(0, v0), (1, v1), (5, v5), (6, v6), (7, v7)] f2 u2))))))

noncomputable def g62_17 (C : Go.ScE.Callee) : Env → Fram → List Fram → KX → R0 := fun e fr up k =>
  hBlds 1 [(pI 0)] 1 [0] [(demK (demK (look' 6 e)))] fr up (fun r2 f2 u2 =>
  hApp 1 8 (look' 5 e) (demK r2) f2 u2 (fun r3 f3 u3 =>
  headK (look' 0 e) (fun v0 => headK (look' 1 e) (fun v1 => headK r3 (fun v5 => headK (look' 6 e) (fun v6 => headK (look' 7 e) (fun v7 => k .normal [(0, v0), (1, v1), (5, v5), (6, v6), (7, v7)] f3 u3)))))))

noncomputable def g62_18 (C : Go.ScE.Callee) : Env → Fram → List Fram → KX → R0 := fun e fr up k =>
  hBin .add false (demK (demK (look' 7 e))) (.c (.p (pI 1))) fr up (fun r1 f1 u1 =>
  headK (look' 0 e) (fun v0 => headK (look' 1 e) (fun v1 => headK (look' 5 e) (fun v5 => headK (look' 6 e) (fun v6 => headK (demK r1) (fun v7 => k .normal [(0, v0), (1, v1), (5, v5), (6, v6), (7, v7)] f1 u1))))))

noncomputable def g62_19 (C : Go.ScE.Callee) : Env → Fram → List Fram → KX → R0 := fun e fr up k =>
  headK (look' 5 e) (fun v4 => k .normal [(4, v4)] fr up)

noncomputable def h62 : KC := fun C n => seqK (g62_0 C) (seqK (g62_1 C) (seqK (g62_2 C) (seqK (seqK (g62_3 C) (blockK 0 (loopsK [0, 1, 5, 6, 7] [] (seqK (seqK (g62_4 C) (condK (.t 13) (skipK) (exitK 0))) (seqK (blockK 1 (seqK (g62_5 C) (seqK (seqK (g62_6 C) (blockK 2 (seqK (g62_7 C) (condK (.t 21) (g62_8 C) (seqK (g62_9 C) (condK (.t 23) (seqK (g62_10 C) (condK (.t 28) (g62_11 C) (skipK))) (seqK (g62_12 C) (condK (.t 29) (g62_13 C) (seqK (g62_14 C) (condK (.t 37) (g62_15 C) (skipK))))))))))) (seqK (g62_16 C) (g62_17 C))))) (g62_18 C))) n))) (seqK (g62_19 C) (retK)))))
theorem h62_eq (C : Go.ScE.Callee) (n : Nat) : h62 C n = evK C n x62.body := by kernel_rfl

noncomputable def g63_0 (C : Go.ScE.Callee) : Env → Fram → List Fram → KX → R0 := fun e fr up k =>
  headK (look' 0 e) (fun v0 => headK (look' 1 e) (fun v1 => headK (look' 2 e) (fun v2 => k .normal [(0, v0), (1, v1), (2, v2)] fr up)))

noncomputable def g63_1 (C : Go.ScE.Callee) : Env → Fram → List Fram → KX → R0 := fun e fr up k =>
  hBin .sub false (demK (demK (look' 2 e))) (.c (.p (pI 1))) fr up (fun r2 f2 u2 =>
  hBin .mul false (.c (.p (pI 16))) (demK r2) f2 u2 (fun r3 f3 u3 =>
  hGen C (.cvi .u64) [(demK r3)] f3 u3 (fun r4 f4 u4 =>
  hBin .shr false (demK (demK (look' 1 e))) (demK r4) f4 u4 (fun r5 f5 u5 =>
  headK (look' 0 e) (fun v0 => headK (look' 1 e) (fun v1 => headK (look' 2 e) (fun v2 => headK (demK r5) (fun v7 => k .normal [(0, v0), (1, v1), (2, v2), (7, v7)] f5 u5))))))))

noncomputable def g63_2 (C : Go.ScE.Callee) : Env → Fram → List Fram → KX → R0 := fun e fr up k =>
  hBin .add false (demK (demK (look' 7 e))) (.c (.p (pI 32768))) fr up (fun r2 f2 u2 =>
  hBin .and false (demK r2) (.c (.p (pI 65535))) f2 u2 (fun r3 f3 u3 =>
  hBin .sub false (demK r3) (.c (.p (pI 32768))) f3 u3 (fun r4 f4 u4 =>
  hBld [(pI 0), (pI 0), (pI 0), (pI 0), (pI 0)] [(0, 1), (1, 1), (4, 1)] [(.c (.p (pI 20))), (demK (demK (look' 0 e))), (demK r4)] f4 u4 (fun r5 f5 u5 =>
  hBlds 5 [(pI 0), (pI 0), (pI 0), (pI 0), (pI 0)] 1 [0] [(demK r5)] f5 u5 (fun r6 f6 u6 =>
  headK (look' 0 e) (fun v0 => headK (look' 1 e) (fun v1 => headK (look' 2 e) (fun v2 => headK r6 (fun v8 => k .normal [(0, v0), (1, v1), (2, v2), (8, v8)] f6 u6)))))))))

noncomputable def g63_3 (C : Go.ScE.Callee) : Env → Fram → List Fram → KX → R0 := fun e fr up k =>
  hBin .sub false (demK (demK (look' 2 e))) (.c (.p (pI 2))) fr up (fun r1 f1 u1 =>
  headK (look' 0 e) (fun v0 => headK (look' 1 e) (fun v1 => headK (look' 8 e) (fun v8 => headK (demK r1) (fun v9 => k .normal [(0, v0), (1, v1), (8, v8), (9, v9)] f1 u1)))))

noncomputable def g63_4 (C : Go.ScE.Callee) : Env → Fram → List Fram → KX → R0 := fun e fr up k =>
  hBin .geq false (demK (demK (look' 9 e))) (.c (.p (pI 0))) fr up (fun r1 f1 u1 =>
  headK (look' 0 e) (fun v0 => headK (look' 1 e) (fun v1 => headK (look' 8 e) (fun v8 => headK (look' 9 e) (fun v9 => headK r1 (fun v26 => k .normal [(0, v0), (1, v1), (8, v8), (9, v9), (26, v26)] f1 u1))))))

noncomputable def g63_5 (C : Go.ScE.Callee) : Env → Fram → List Fram → KX → R0 := fun e fr up k =>
  hBin .mul false (.c (.p (pI 16))) (demK (demK (look' 9 e))) fr up (fun r4 f4 u4 =>
  hGen C (.cvi .u64) [(demK r4)] f4 u4 (fun r5 f5 u5 =>
  hBin .shr false (demK (demK (look' 1 e))) (demK r5) f5 u5 (fun r6 f6 u6 =>
  hBin .and false (demK r6) (.c (.p (pI 65535))) f6 u6 (fun r7 f7 u7 =>
  hBld [(pI 0), (pI 0), (pI 0), (pI 0), (pI 0)] [(0, 1), (1, 1), (4, 1)] [(.c (.p (pI 21))), (demK (demK (look' 0 e))), (demK r7)] f7 u7 (fun r8 f8 u8 =>
  hBlds 5 [(pI 0), (pI 0), (pI 0), (pI 0), (pI 0)] 1 [0] [(demK r8)] f8 u8 (fun r9 f9 u9 =>
  hApp 5 40 (look' 8 e) (demK r9) f9 u9 (fun r10 f10 u10 =>
  headK (look' 0 e) (fun v0 => headK (look' 1 e) (fun v1 => headK r10 (fun v8 => headK (look' 9 e) (fun v9 => k .normal [(0, v0), (1, v1), (8, v8), (9, v9)] f10 u10)))))))))))

noncomputable def g63_6 (C : Go.ScE.Callee) : Env → Fram → List Fram → KX → R0 := fun e fr up k =>
  hBin .sub false (demK (demK (look' 9 e))) (.c (.p (pI 1))) fr up (fun r1 f1 u1 =>
  headK (look' 0 e) (fun v0 => headK (look' 1 e) (fun v1 => headK (look' 8 e) (fun v8 => headK (demK r1) (fun v9 => k .normal [(0, v0), (1, v1), (8, v8), (9, v9)] f1 u1)))))

noncomputable def g63_7 (C : Go.ScE.Callee) : Env → Fram → List Fram → KX → R0 := fun e fr up k =>
  headK (look' 8 e) (fun v6 => k .normal [(6, v6)] fr up)

noncomputable def h63 : KC := fun C n => seqK (g63_0 C) (seqK (g63_1 C) (seqK (g63_2 C) (seqK (seqK (g63_3 C) (blockK 0 (loopsK [0, 1, 8, 9] [] (seqK (seqK (g63_4 C) (condK (.t 26) (skipK) (exitK 0))) (seqK (blockK 1 (g63_5 C)) (g63_6 C))) n))) (seqK (g63_7 C) (retK)))))
theorem h63_eq (C : Go.ScE.Callee) (n : Nat) : h63 C n = evK C n x63.body := by kernel_rfl

noncomputable def g64_0 (C : Go.ScE.Callee) : Env → Fram → List Fram → KX → R0 := fun e fr up k =>
  headK (look' 0 e) (fun v0 => k .normal [(0, v0)] fr up)

noncomputable def g64_1 (C : Go.ScE.Callee) : Env → Fram → List Fram → KX → R0 := fun e fr up k =>
  headK (look' 0 e) (fun v0 => headK (.c (.p (pI 1))) (fun v3 => k .normal [(0, v0), (3, v3)] fr up))

noncomputable def g64_2 (C : Go.ScE.Callee) : Env → Fram → List Fram → KX → R0 := fun e fr up k =>
  hBin .lss false (demK (demK (look' 3 e))) (.c (.p (pI 4))) fr up (fun r1 f1 u1 =>
  headK (look' 0 e) (fun v0 => headK (look' 3 e) (fun v3 => headK r1 (fun v6 => k .normal [(0, v0), (3, v3), (6, v6)] f1 u1))))

noncomputable def g64_3 (C : Go.ScE.Callee) : Env → Fram → List Fram → KX → R0 := fun e fr up k =>
  hBin .sub false (demK (demK (look' 3 e))) (.c (.p (pI 1))) fr up (fun r2 f2 u2 =>
  hBin .mul false (.c (.p (pI 16))) (demK r2) f2 u2 (fun r3 f3 u3 =>
  hGen C (.cvi .u64) [(demK r3)] f3 u3 (fun r4 f4 u4 =>
  hBin .shr false (demK (demK (look' 0 e))) (demK r4) f4 u4 (fun r5 f5 u5 =>
  headK (look' 0 e) (fun v0 => headK (look' 3 e) (fun v3 => headK (demK r5) (fun v4 => k .normal [(0, v0), (3, v3), (4, v4)] f5 u5)))))))

noncomputable def g64_4 (C : Go.ScE.Callee) : Env → Fram → List Fram → KX → R0 := fun e fr up k =>
  hBin .geq false (demK (demK (look' 4 e))) (.c (.p (pI (-32768)))) fr up (fun r1 f1 u1 =>
  guardK true (demK r1) (fun K => K (demK (look' 4 e)) f1 u1) f1 u1 (fun r3 f3 u3 =>
  guardK true (demK r1) (fun K => hBin .leq false (demK r3) (.c (.p (pI 32767))) f3 u3 K) f3 u3 (fun r4 f4 u4 =>
  hPick  (demK (demK r1)) (demK r4) (.c (.p (pB false))) f4 u4 (fun r5 f5 u5 =>
  headK (look' 0 e) (fun v0 => headK (look' 3 e) (fun v3 => headK r5 (fun v18 => k .normal [(0, v0), (3, v3), (18, v18)] f5 u5)))))))

noncomputable def g64_5 (C : Go.ScE.Callee) : Env → Fram → List Fram → KX → R0 := fun e fr up k =>
  hBin .add false (demK (demK (look' 3 e))) (.c (.p (pI 1))) fr up (fun r1 f1 u1 =>
  headK (look' 0 e) (fun v0 => headK (demK r1) (fun v3 => k .normal [(0, v0), (3, v3)] f1 u1)))

noncomputable def g64_6 (C : Go.ScE.Callee) : Env → Fram → List Fram → KX → R0 := fun e fr up k =>
  headK (demK (demK (look' 3 e))) (fun v2 => k .normal [(2, v2)] fr up)

noncomputable def h64 : KC := fun C n => seqK (g64_0 C) (seqK (g64_1 C) (seqK (blockK 0 (loopsK [0, 3] [] (seqK (seqK (g64_2 C) (condK (.t 6) (skipK) (exitK 0))) (blockK 1 (seqK (g64_3 C) (seqK (seqK (g64_4 C) (condK (.t 18) (exitK 0) (skipK))) (g64_5 C))))) n)) (seqK (g64_6 C) (retK))))
theorem h64_eq (C : Go.ScE.Callee) (n : Nat) : h64 C n = evK C n x64.body := by kernel_rfl

noncomputable def g65_0 (C : Go.ScE.Callee) : Env → Fram → List Fram → KX → R0 := fun e fr up k =>
  headK (look' 0 e) (fun v0 => headK (look' 1 e) (fun v1 => k .normal [(0, v0), (1, v1)] fr up))

noncomputable def g65_1 (C : Go.ScE.Callee) : Env → Fram → List Fram → KX → R0 := fun e fr up k =>
  hGen C (.un .not) [(demK (demK (look' 1 e)))] fr up (fun r1 f1 u1 =>
  headK (look' 0 e) (fun v0 => headK r1 (fun v6 => k .normal [(0, v0), (6, v6)] f1 u1)))

noncomputable def g65_2 (C : Go.ScE.Callee) : Env → Fram → List Fram → KX → R0 := fun e fr up k =>
  hBin .eql false (demK (demK (look' 0 e))) (.c (.p (pI 0))) fr up (fun r1 f1 u1 =>
  headK (demK r1) (fun v4 => k .normal [(4, v4)] f1 u1))

noncomputable def g65_3 (C : Go.ScE.Callee) : Env → Fram → List Fram → KX → R0 := fun e fr up k =>
  hBin .geq false (demK (demK (look' 0 e))) (.c (.p (pI 0))) fr up (fun r1 f1 u1 =>
  guardK true (demK r1) (fun K => K (demK (look' 0 e)) f1 u1) f1 u1 (fun r3 f3 u3 =>
  guardK true (demK r1) (fun K => hBin .leq false (demK r3) (.c (.p (pI 31))) f3 u3 K) f3 u3 (fun r4 f4 u4 =>
  hPick  (demK (demK r1)) (demK r4) (.c (.p (pB false))) f4 u4 (fun r5 f5 u5 =>
  headK (demK r5) (fun v4 => k .normal [(4, v4)] f5 u5)))))

noncomputable def h65 : KC := fun C n => seqK (g65_0 C) (seqK (seqK (g65_1 C) (condK (.t 6) (seqK (g65_2 C) (retK)) (skipK))) (seqK (g65_3 C) (retK)))
theorem h65_eq (C : Go.ScE.Callee) (n : Nat) : h65 C n = evK C n x65.body := by kernel_rfl

noncomputable def g66_0 (C : Go.ScE.Callee) : Env → Fram → List Fram → KX → R0 := fun e fr up k =>
  headK (look' 0 e) (fun v0 => headK (look' 1 e) (fun v1 => k .normal [(0, v0), (1, v1)] fr up))

noncomputable def g66_1 (C : Go.ScE.Callee) : Env → Fram → List Fram → KX → R0 := fun e fr up k =>
  hBin .shr false (demK (demK (look' 0 e))) (.c (.p (pK .u64 32))) fr up (fun r1 f1 u1 =>
  hBin .and false (demK (demK (look' 0 e))) (.c (.p (pI 4294967295))) f1 u1 (fun r3 f3 u3 =>
  headK (look' 1 e) (fun v1 => headK (demK r1) (fun v5 => headK (demK r3) (fun v6 => k .normal [(1, v1), (5, v5), (6, v6)] f3 u3)))))

noncomputable def g66_2 (C : Go.ScE.Callee) : Env → Fram → List Fram → KX → R0 := fun e fr up k =>
  hBin .shr false (demK (demK (look' 1 e))) (.c (.p (pK .u64 32))) fr up (fun r1 f1 u1 =>
  hBin .and false (demK (demK (look' 1 e))) (.c (.p (pI 4294967295))) f1 u1 (fun r3 f3 u3 =>
  headK (look' 5 e) (fun v5 => headK (look' 6 e) (fun v6 => headK (demK r1) (fun v7 => headK (demK r3) (fun v8 => k .normal [(5, v5), (6, v6), (7, v7), (8, v8)] f3 u3))))))

noncomputable def g66_3 (C : Go.ScE.Callee) : Env → Fram → List Fram → KX → R0 := fun e fr up k =>
  hGen C (.cvi .u64) [(demK (demK (look' 6 e)))] fr up (fun r1 f1 u1 =>
  hGen C (.cvi .u64) [(demK (demK (look' 8 e)))] f1 u1 (fun r3 f3 u3 =>
  hBin .mul false (demK r1) (demK r3) f3 u3 (fun r4 f4 u4 =>
  headK (look' 5 e) (fun v5 => headK (look' 6 e) (fun v6 => headK (look' 7 e) (fun v7 => headK (look' 8 e) (fun v8 => headK (demK r4) (fun v9 => k .normal [(5, v5), (6, v6), (7, v7), (8, v8), (9, v9)] f4 u4))))))))

noncomputable def g66_4 (C : Go.ScE.Callee) : Env → Fram → List Fram → KX → R0 := fun e fr up k =>
  hBin .mul false (demK (demK (look' 5 e))) (demK (demK (look' 8 e))) fr up (fun r2 f2 u2 =>
  hBin .shr false (demK (demK (look' 9 e))) (.c (.p (pK .u64 32))) f2 u2 (fun r4 f4 u4 =>
  hGen C (.cvi .i64) [(demK r4)] f4 u4 (fun r5 f5 u5 =>
  hBin .add false (demK r2) (demK r5) f5 u5 (fun r6 f6 u6 =>
  headK (look' 5 e) (fun v5 => headK (look' 6 e) (fun v6 => headK (look' 7 e) (fun v7 => headK (demK r6) (fun v10 => k .normal [(5, v5), (6, v6), (7, v7), (10, v10)] f6 u6))))))))

noncomputable def g66_5 (C : Go.ScE.Callee) : Env → Fram → List Fram → KX → R0 := fun e fr up k =>
  hBin .mul false (demK (demK (look' 6 e))) (demK (demK (look' 7 e))) fr up (fun r2 f2 u2 =>
  hBin .and false (demK (demK (look' 10 e))) (.c (.p (pI 4294967295))) f2 u2 (fun r4 f4 u4 =>
  hBin .add false (demK r2) (demK r4) f4 u4 (fun r5 f5 u5 =>
  headK (look' 5 e) (fun v5 => headK (look' 7 e) (fun v7 => headK (look' 10 e) (fun v10 => headK (demK r5) (fun v11 => k .normal [(5, v5), (7, v7), (10, v10), (11, v11)] f5 u5)))))))

noncomputable def g66_6 (C : Go.ScE.Callee) : Env → Fram → List Fram → KX → R0 := fun e fr up k =>
  hBin .mul false (demK (demK (look' 5 e))) (demK (demK (look' 7 e))) fr up (fun r2 f2 u2 =>
  hBin .shr false (demK (demK (look' 10 e))) (.c (.p (pK .u64 32))) f2 u2 (fun r4 f4 u4 =>
  hBin .add false (demK r2) (demK r4) f4 u4 (fun r5 f5 u5 =>
  hBin .shr false (demK (demK (look' 11 e))) (.c (.p (pK .u64 32))) f5 u5 (fun r7 f7 u7 =>
  hBin .add false (demK r5) (demK r7) f7 u7 (fun r8 f8 u8 =>
  headK (demK r8) (fun v4 => k .normal [(4, v4)] f8 u8))))))

noncomputable def h66 : KC := fun C n => seqK (g66_0 C) (seqK (g66_1 C) (seqK (g66_2 C) (seqK (g66_3 C) (seqK (g66_4 C) (seqK (g66_5 C) (seqK (g66_6 C) (retK)))))))
theorem h66_eq (C : Go.ScE.Callee) (n : Nat) : h66 C n = evK C n x66.body := by kernel_rfl

end Go.ScX
