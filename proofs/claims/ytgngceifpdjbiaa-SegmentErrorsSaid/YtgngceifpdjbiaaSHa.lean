/- The small code laid out, with variables for slots. -/
import Derived.Test.YtgngceifpdjbiaaSX23
import Derived.Test.YtgngceifpdjbiaaSE25
set_option maxRecDepth 100000
set_option linter.unusedVariables false
namespace Go.ScX
open Go.ScE
noncomputable def g3_0 (C : Go.ScE.Callee) : Env → Fram → List Fram → KX → R0 := fun e fr up k =>
  headK (look' 0 e) (fun v0 => headK (look' 1 e) (fun v1 => headK (look' 2 e) (fun v2 => k .normal [(0, v0), (1, v1), (2, v2)] fr up)))

noncomputable def g3_1 (C : Go.ScE.Callee) : Env → Fram → List Fram → KX → R0 := fun e fr up k =>
  hLenL  (demK (demK (look' 0 e))) fr up (fun r1 f1 u1 =>
  hBin .gtr false (demK r1) (.c (.p (pI 30))) f1 u1 (fun r2 f2 u2 =>
  headK (look' 0 e) (fun v0 => headK (look' 1 e) (fun v1 => headK (look' 2 e) (fun v2 => headK r2 (fun v16 => k .normal [(0, v0), (1, v1), (2, v2), (16, v16)] f2 u2))))))

noncomputable def g3_2 (C : Go.ScE.Callee) : Env → Fram → List Fram → KX → R0 := fun e fr up k =>
  hGen C (.slL 3 false true) [(demK (look' 0 e)), (.c (.p (pI 30)))] fr up (fun r1 f1 u1 =>
  headK r1 (fun v0 => headK (look' 1 e) (fun v1 => headK (look' 2 e) (fun v2 => k .normal [(0, v0), (1, v1), (2, v2)] f1 u1))))

noncomputable def g3_3 (C : Go.ScE.Callee) : Env → Fram → List Fram → KX → R0 := fun e fr up k =>
  hCall C 7 [] fr up (fun r0 f0 u0 =>
  hGen C (.un .not) [(demK r0)] f0 u0 (fun r1 f1 u1 =>
  guardK false (demK r1) (fun K => K (demK (look' 1 e)) f1 u1) f1 u1 (fun r3 f3 u3 =>
  guardK false (demK r1) (fun K => hBin .lss false (demK r3) (.c (.p (pI 0))) f3 u3 K) f3 u3 (fun r4 f4 u4 =>
  hPick  (demK (demK r1)) (.c (.p (pB true))) (demK r4) f4 u4 (fun r5 f5 u5 =>
  guardK false (demK r5) (fun K => K (demK (look' 1 e)) f5 u5) f5 u5 (fun r7 f7 u7 =>
  guardK false (demK r5) (fun K => K (demK (look' 0 e)) f7 u7) f7 u7 (fun r8 f8 u8 =>
  guardK false (demK r5) (fun K => hLenL  (demK r8) f8 u8 K) f8 u8 (fun r9 f9 u9 =>
  guardK false (demK r5) (fun K => hBin .gtr false (demK r7) (demK r9) f9 u9 K) f9 u9 (fun r10 f10 u10 =>
  hPick  (demK (demK r5)) (.c (.p (pB true))) (demK r10) f10 u10 (fun r11 f11 u11 =>
  headK (look' 0 e) (fun v0 => headK (look' 1 e) (fun v1 => headK (look' 2 e) (fun v2 => headK r11 (fun v30 => k .normal [(0, v0), (1, v1), (2, v2), (30, v30)] f11 u11))))))))))))))

noncomputable def g3_4 (C : Go.ScE.Callee) : Env → Fram → List Fram → KX → R0 := fun e fr up k =>
  hCall C 7 [] fr up (fun r0 f0 u0 =>
  headK (demK r0) (fun v6 => k .normal [(6, v6)] f0 u0))

noncomputable def g3_5 (C : Go.ScE.Callee) : Env → Fram → List Fram → KX → R0 := fun e fr up k =>
  hBlds 3 [(pI 0), (pI 0), (pI 0)] 0 [] [] fr up (fun r0 f0 u0 =>
  hGen C (.slL 3 false true) [(demK (demK (look' 0 e))), (demK (demK (look' 1 e)))] f0 u0 (fun r3 f3 u3 =>
  hApp 3 24 r0 (demK r3) f3 u3 (fun r4 f4 u4 =>
  headK (look' 0 e) (fun v0 => headK (look' 1 e) (fun v1 => headK (look' 2 e) (fun v2 => headK r4 (fun v7 => k .normal [(0, v0), (1, v1), (2, v2), (7, v7)] f4 u4)))))))

noncomputable def g3_6 (C : Go.ScE.Callee) : Env → Fram → List Fram → KX → R0 := fun e fr up k =>
  hBin .rem false (demK (demK (look' 2 e))) (.c (.p (pI 3))) fr up (fun r2 f2 u2 =>
  hBin .add false (demK r2) (.c (.p (pI 3))) f2 u2 (fun r3 f3 u3 =>
  hBin .rem false (demK r3) (.c (.p (pI 3))) f3 u3 (fun r4 f4 u4 =>
  hBin .add false (.c (.p (pI 1))) (demK r4) f4 u4 (fun r5 f5 u5 =>
  hBld [(pI 0), (pI 0), (pI 0)] [(0, 1)] [(demK r5)] f5 u5 (fun r6 f6 u6 =>
  hBlds 3 [(pI 0), (pI 0), (pI 0)] 1 [0] [(demK r6)] f6 u6 (fun r7 f7 u7 =>
  hApp 3 24 (look' 7 e) (demK r7) f7 u7 (fun r8 f8 u8 =>
  headK (look' 0 e) (fun v0 => headK (look' 1 e) (fun v1 => headK r8 (fun v7 => k .normal [(0, v0), (1, v1), (7, v7)] f8 u8))))))))))

noncomputable def g3_7 (C : Go.ScE.Callee) : Env → Fram → List Fram → KX → R0 := fun e fr up k =>
  hGen C (.slL 3 true false) [(demK (demK (look' 0 e))), (demK (demK (look' 1 e)))] fr up (fun r3 f3 u3 =>
  hApp 3 24 (look' 7 e) (demK r3) f3 u3 (fun r4 f4 u4 =>
  headK (look' 0 e) (fun v0 => headK r4 (fun v7 => k .normal [(0, v0), (7, v7)] f4 u4))))

noncomputable def g3_8 (C : Go.ScE.Callee) : Env → Fram → List Fram → KX → R0 := fun e fr up k =>
  hCall C 8 [(demK (look' 7 e))] fr up (fun r1 f1 u1 =>
  headK (look' 0 e) (fun v0 => headK (look' 7 e) (fun v7 => headK (demK r1) (fun v8 => k .normal [(0, v0), (7, v7), (8, v8)] f1 u1))))

noncomputable def g3_9 (C : Go.ScE.Callee) : Env → Fram → List Fram → KX → R0 := fun e fr up k =>
  hBin .mul false (.c (.p (pI 8))) (demK (demK (look' 8 e))) fr up (fun r1 f1 u1 =>
  hBin .add false (demK r1) (.c (.p (pI 80))) f1 u1 (fun r2 f2 u2 =>
  headK (look' 0 e) (fun v0 => headK (look' 7 e) (fun v7 => headK (look' 8 e) (fun v8 => headK (demK r2) (fun v9 => k .normal [(0, v0), (7, v7), (8, v8), (9, v9)] f2 u2))))))

noncomputable def g3_10 (C : Go.ScE.Callee) : Env → Fram → List Fram → KX → R0 := fun e fr up k =>
  hCall C 10 [] fr up (fun r0 f0 u0 =>
  hCall C 11 [] f0 u0 (fun r1 f1 u1 =>
  hBin .add false (.c (.p (pI 32))) (demK (demK (look' 8 e))) f1 u1 (fun r4 f4 u4 =>
  hBin .mul false (.c (.p (pI 2))) (demK (demK (look' 9 e))) f4 u4 (fun r6 f6 u6 =>
  hBin .add false (demK r4) (demK r6) f6 u6 (fun r7 f7 u7 =>
  hCall C 12 [(look' 0 e), (demK r7)] f7 u7 (fun r8 f8 u8 =>
  hCall C 9 [r0, r1, r8, (demK (demK (look' 8 e))), (demK (demK (look' 9 e))), (.c (.p (pI 0)))] f8 u8 (fun r11 f11 u11 =>
  hGen C (.ext 0) [(demK r11)] f11 u11 (fun r13 f13 u13 =>
  hGen C (.ext 1) [r11] f13 u13 (fun r14 f14 u14 =>
  hGen C (.alloc 0 true [(pI 0), (pI 0), (pS []), (pI 0), (pI 0), (pI 0), (pI 0), (pI 0), (pI 0), (pI 0), (pI 0), (pI 0), (pI 0), (pI 0), (pI 0), (pI 0), (pI 0), (pI 0), (pI 0), (pI 0), (pI 0), (pI 0), (pI 0), (pI 0), (pI 0), (pI 0), (pI 0), (pI 0), (pI 0), (pI 0), (pI 0), (pI 0), (pI 0), (pI 0), (pI 0), (pI 0), (pI 0), (.sl 1 [])]) [] f14 u14 (fun r15 f15 u15 =>
  hSt 38 (demK r15) r13 f15 u15 (fun r16 f16 u16 =>
  headK (look' 7 e) (fun v7 => headK (look' 8 e) (fun v8 => headK (look' 9 e) (fun v9 => headK r15 (fun v10 => headK (demK r14) (fun v11 => k .normal [(7, v7), (8, v8), (9, v9), (10, v10), (11, v11)] f16 u16))))))))))))))))

noncomputable def g3_11 (C : Go.ScE.Callee) : Env → Fram → List Fram → KX → R0 := fun e fr up k =>
  hCall C 10 [] fr up (fun r0 f0 u0 =>
  hCall C 11 [] f0 u0 (fun r1 f1 u1 =>
  hBin .add false (.c (.p (pI 32))) (demK (demK (look' 8 e))) f1 u1 (fun r4 f4 u4 =>
  hBin .mul false (.c (.p (pI 2))) (demK (demK (look' 9 e))) f4 u4 (fun r6 f6 u6 =>
  hBin .add false (demK r4) (demK r6) f6 u6 (fun r7 f7 u7 =>
  hCall C 12 [(look' 7 e), (demK r7)] f7 u7 (fun r8 f8 u8 =>
  hCall C 9 [r0, r1, r8, (demK (demK (look' 8 e))), (demK (demK (look' 9 e))), (.c (.p (pI 0)))] f8 u8 (fun r11 f11 u11 =>
  hGen C (.ext 0) [(demK r11)] f11 u11 (fun r13 f13 u13 =>
  hGen C (.ext 1) [r11] f13 u13 (fun r14 f14 u14 =>
  hGen C (.alloc 1 true [(pI 0), (pI 0), (pS []), (pI 0), (pI 0), (pI 0), (pI 0), (pI 0), (pI 0), (pI 0), (pI 0), (pI 0), (pI 0), (pI 0), (pI 0), (pI 0), (pI 0), (pI 0), (pI 0), (pI 0), (pI 0), (pI 0), (pI 0), (pI 0), (pI 0), (pI 0), (pI 0), (pI 0), (pI 0), (pI 0), (pI 0), (pI 0), (pI 0), (pI 0), (pI 0), (pI 0), (pI 0), (.sl 1 [])]) [] f14 u14 (fun r15 f15 u15 =>
  hSt 38 (demK r15) r13 f15 u15 (fun r16 f16 u16 =>
  headK (look' 10 e) (fun v10 => headK (look' 11 e) (fun v11 => headK r15 (fun v12 => headK (demK r14) (fun v13 => k .normal [(10, v10), (11, v11), (12, v12), (13, v13)] f16 u16)))))))))))))))

noncomputable def g3_12 (C : Go.ScE.Callee) : Env → Fram → List Fram → KX → R0 := fun e fr up k =>
  guardK true (demK (demK (look' 11 e))) (fun K => K (demK (look' 13 e)) fr up) fr up (fun r2 f2 u2 =>
  hPick  (demK (demK (demK (look' 11 e)))) (demK r2) (.c (.p (pB false))) f2 u2 (fun r3 f3 u3 =>
  guardK true (demK r3) (fun K => hFa 0 (demK (look' 10 e)) f3 u3 K) f3 u3 (fun r5 f5 u5 =>
  guardK true (demK r3) (fun K => hLd false 1 false (demK r5) f5 u5 K) f5 u5 (fun r6 f6 u6 =>
  guardK true (demK r3) (fun K => hBin .eql false (demK r6) (.c (.p (pI 0))) f6 u6 K) f6 u6 (fun r7 f7 u7 =>
  hPick  (demK (demK r3)) (demK r7) (.c (.p (pB false))) f7 u7 (fun r8 f8 u8 =>
  guardK true (demK r8) (fun K => hFa 0 (demK (look' 12 e)) f8 u8 K) f8 u8 (fun r10 f10 u10 =>
  guardK true (demK r8) (fun K => hLd false 1 false (demK r10) f10 u10 K) f10 u10 (fun r11 f11 u11 =>
  guardK true (demK r8) (fun K => hBin .eql false (demK r11) (.c (.p (pI 0))) f11 u11 K) f11 u11 (fun r12 f12 u12 =>
  hPick  (demK (demK r8)) (demK r12) (.c (.p (pB false))) f12 u12 (fun r13 f13 u13 =>
  guardK true (demK r13) (fun K => hFa 1 (demK (look' 10 e)) f13 u13 K) f13 u13 (fun r15 f15 u15 =>
  guardK true (demK r13) (fun K => hLd false 1 false (demK r15) f15 u15 K) f15 u15 (fun r16 f16 u16 =>
  guardK true (demK r13) (fun K => hBin .eql false (demK r16) (.c (.p (pI 0))) f16 u16 K) f16 u16 (fun r17 f17 u17 =>
  hPick  (demK (demK r13)) (demK r17) (.c (.p (pB false))) f17 u17 (fun r18 f18 u18 =>
  guardK true (demK r18) (fun K => hFa 1 (demK (look' 12 e)) f18 u18 K) f18 u18 (fun r20 f20 u20 =>
  guardK true (demK r18) (fun K => hLd false 1 false (demK r20) f20 u20 K) f20 u20 (fun r21 f21 u21 =>
  guardK true (demK r18) (fun K => hBin .eql false (demK r21) (.c (.p (pI 0))) f21 u21 K) f21 u21 (fun r22 f22 u22 =>
  hPick  (demK (demK r18)) (demK r22) (.c (.p (pB false))) f22 u22 (fun r23 f23 u23 =>
  guardK true (demK r23) (fun K => hFa 2 (demK (look' 10 e)) f23 u23 K) f23 u23 (fun r25 f25 u25 =>
  guardK true (demK r23) (fun K => hLd false 1 false (demK r25) f25 u25 K) f25 u25 (fun r26 f26 u26 =>
  guardK true (demK r23) (fun K => hFa 2 (demK (look' 12 e)) f26 u26 K) f26 u26 (fun r27 f27 u27 =>
  guardK true (demK r23) (fun K => hLd false 1 false (demK r27) f27 u27 K) f27 u27 (fun r28 f28 u28 =>
  guardK true (demK r23) (fun K => hBin .eql false (demK r26) (demK r28) f28 u28 K) f28 u28 (fun r29 f29 u29 =>
  hPick  (demK (demK r23)) (demK r29) (.c (.p (pB false))) f29 u29 (fun r30 f30 u30 =>
  headK (demK r30) (fun v6 => k .normal [(6, v6)] f30 u30)))))))))))))))))))))))))

noncomputable def h3 : KC := fun C n => seqK (g3_0 C) (seqK (seqK (g3_1 C) (condK (.t 16) (g3_2 C) (skipK))) (seqK (seqK (g3_3 C) (condK (.t 30) (seqK (g3_4 C) (retK)) (skipK))) (seqK (g3_5 C) (seqK (g3_6 C) (seqK (g3_7 C) (seqK (g3_8 C) (seqK (g3_9 C) (seqK (g3_10 C) (seqK (g3_11 C) (seqK (g3_12 C) (retK)))))))))))
theorem h3_eq (C : Go.ScE.Callee) (n : Nat) : h3 C n = evK C n x3.body := by kernel_rfl

noncomputable def g4_0 (C : Go.ScE.Callee) : Env → Fram → List Fram → KX → R0 := fun e fr up k =>
  headK (look' 0 e) (fun v0 => headK (look' 1 e) (fun v1 => k .normal [(0, v0), (1, v1)] fr up))

noncomputable def g4_1 (C : Go.ScE.Callee) : Env → Fram → List Fram → KX → R0 := fun e fr up k =>
  hCall C 7 [] fr up (fun r0 f0 u0 =>
  hGen C (.un .not) [(demK r0)] f0 u0 (fun r1 f1 u1 =>
  guardK false (demK r1) (fun K => K (demK (look' 0 e)) f1 u1) f1 u1 (fun r3 f3 u3 =>
  guardK false (demK r1) (fun K => hBin .lss false (demK r3) (.c (.p (pI 1))) f3 u3 K) f3 u3 (fun r4 f4 u4 =>
  hPick  (demK (demK r1)) (.c (.p (pB true))) (demK r4) f4 u4 (fun r5 f5 u5 =>
  guardK false (demK r5) (fun K => K (demK (look' 0 e)) f5 u5) f5 u5 (fun r7 f7 u7 =>
  guardK false (demK r5) (fun K => hBin .gtr false (demK r7) (.c (.p (pI 300))) f7 u7 K) f7 u7 (fun r8 f8 u8 =>
  hPick  (demK (demK r5)) (.c (.p (pB true))) (demK r8) f8 u8 (fun r9 f9 u9 =>
  guardK false (demK r9) (fun K => K (demK (look' 1 e)) f9 u9) f9 u9 (fun r11 f11 u11 =>
  guardK false (demK r9) (fun K => hBin .lss false (demK r11) (.c (.p (pI 0))) f11 u11 K) f11 u11 (fun r12 f12 u12 =>
  hPick  (demK (demK r9)) (.c (.p (pB true))) (demK r12) f12 u12 (fun r13 f13 u13 =>
  guardK false (demK r13) (fun K => K (demK (look' 1 e)) f13 u13) f13 u13 (fun r15 f15 u15 =>
  guardK false (demK r13) (fun K => hBin .gtr false (demK r15) (.c (.p (pI 300))) f15 u15 K) f15 u15 (fun r16 f16 u16 =>
  hPick  (demK (demK r13)) (.c (.p (pB true))) (demK r16) f16 u16 (fun r17 f17 u17 =>
  headK (look' 0 e) (fun v0 => headK (look' 1 e) (fun v1 => headK r17 (fun v29 => k .normal [(0, v0), (1, v1), (29, v29)] f17 u17)))))))))))))))))

noncomputable def g4_2 (C : Go.ScE.Callee) : Env → Fram → List Fram → KX → R0 := fun e fr up k =>
  hCall C 7 [] fr up (fun r0 f0 u0 =>
  headK (demK r0) (fun v4 => k .normal [(4, v4)] f0 u0))

noncomputable def g4_3 (C : Go.ScE.Callee) : Env → Fram → List Fram → KX → R0 := fun e fr up k =>
  hCall C 10 [] fr up (fun r0 f0 u0 =>
  hCall C 11 [] f0 u0 (fun r1 f1 u1 =>
  hCall C 13 [(.c (.p (pI 10)))] f1 u1 (fun r2 f2 u2 =>
  hCall C 14 [(.c (.p (pI 0))), (.c (.p (pI 28))), (.c (.p (pI 0))), (.c (.p (pI 0)))] f2 u2 (fun r3 f3 u3 =>
  hBlds 8 [(pI 0), (pI 0), (pI 0), (pI 0), (pI 0), (pI 0), (pI 0), (pI 0)] 2 [0, 1] [(demK r2), (demK r3)] f3 u3 (fun r4 f4 u4 =>
  hCall C 9 [r0, r1, r4, (demK (demK (look' 0 e))), (demK (demK (look' 1 e))), (.c (.p (pI 0)))] f4 u4 (fun r7 f7 u7 =>
  hGen C (.ext 0) [(demK r7)] f7 u7 (fun r9 f9 u9 =>
  hGen C (.ext 1) [r7] f9 u9 (fun r10 f10 u10 =>
  hGen C (.alloc 0 true [(pI 0), (pI 0), (pS []), (pI 0), (pI 0), (pI 0), (pI 0), (pI 0), (pI 0), (pI 0), (pI 0), (pI 0), (pI 0), (pI 0), (pI 0), (pI 0), (pI 0), (pI 0), (pI 0), (pI 0), (pI 0), (pI 0), (pI 0), (pI 0), (pI 0), (pI 0), (pI 0), (pI 0), (pI 0), (pI 0), (pI 0), (pI 0), (pI 0), (pI 0), (pI 0), (pI 0), (pI 0), (.sl 1 [])]) [] f10 u10 (fun r11 f11 u11 =>
  hSt 38 (demK r11) r9 f11 u11 (fun r12 f12 u12 =>
  headK (look' 0 e) (fun v0 => headK (look' 1 e) (fun v1 => headK r11 (fun v5 => headK (demK r10) (fun v6 => k .normal [(0, v0), (1, v1), (5, v5), (6, v6)] f12 u12))))))))))))))

noncomputable def g4_4 (C : Go.ScE.Callee) : Env → Fram → List Fram → KX → R0 := fun e fr up k =>
  hBin .lss false (demK (demK (look' 1 e))) (.c (.p (pI 2))) fr up (fun r1 f1 u1 =>
  headK (look' 0 e) (fun v0 => headK (look' 5 e) (fun v5 => headK (look' 6 e) (fun v6 => headK r1 (fun v43 => k .normal [(0, v0), (5, v5), (6, v6), (43, v43)] f1 u1)))))

noncomputable def g4_5 (C : Go.ScE.Callee) : Env → Fram → List Fram → KX → R0 := fun e fr up k =>
  guardK true (demK (demK (look' 6 e))) (fun K => hFa 0 (demK (look' 5 e)) fr up K) fr up (fun r2 f2 u2 =>
  guardK true (demK (demK (look' 6 e))) (fun K => hLd false 1 false (demK r2) f2 u2 K) f2 u2 (fun r3 f3 u3 =>
  guardK true (demK (demK (look' 6 e))) (fun K => hBin .eql false (demK r3) (.c (.p (pI 0))) f3 u3 K) f3 u3 (fun r4 f4 u4 =>
  hPick  (demK (demK (demK (look' 6 e)))) (demK r4) (.c (.p (pB false))) f4 u4 (fun r5 f5 u5 =>
  guardK true (demK r5) (fun K => hFa 1 (demK (look' 5 e)) f5 u5 K) f5 u5 (fun r7 f7 u7 =>
  guardK true (demK r5) (fun K => hLd false 1 false (demK r7) f7 u7 K) f7 u7 (fun r8 f8 u8 =>
  guardK true (demK r5) (fun K => hBin .eql false (demK r8) (.c (.p (pI 95))) f8 u8 K) f8 u8 (fun r9 f9 u9 =>
  hPick  (demK (demK r5)) (demK r9) (.c (.p (pB false))) f9 u9 (fun r10 f10 u10 =>
  headK (demK r10) (fun v4 => k .normal [(4, v4)] f10 u10)))))))))

noncomputable def g4_6 (C : Go.ScE.Callee) : Env → Fram → List Fram → KX → R0 := fun e fr up k =>
  headK (look' 0 e) (fun v0 => headK (look' 5 e) (fun v5 => headK (look' 6 e) (fun v6 => headK (.c (.p (pI 18))) (fun v7 => k .normal [(0, v0), (5, v5), (6, v6), (7, v7)] fr up))))

noncomputable def g4_7 (C : Go.ScE.Callee) : Env → Fram → List Fram → KX → R0 := fun e fr up k =>
  hFa 5 (demK (look' 5 e)) fr up (fun r0 f0 u0 =>
  hIaa 1 32 (demK r0) (.c (.p (pI 25))) f0 u0 (fun r1 f1 u1 =>
  hLd false 1 false (demK r1) f1 u1 (fun r2 f2 u2 =>
  hBin .shr false (demK r2) (.c (.p (pK .u64 3))) f2 u2 (fun r3 f3 u3 =>
  headK (look' 0 e) (fun v0 => headK (look' 5 e) (fun v5 => headK (look' 6 e) (fun v6 => headK (look' 7 e) (fun v7 => headK (demK r3) (fun v8 => k .normal [(0, v0), (5, v5), (6, v6), (7, v7), (8, v8)] f3 u3)))))))))

noncomputable def g4_8 (C : Go.ScE.Callee) : Env → Fram → List Fram → KX → R0 := fun e fr up k =>
  hBin .add false (.c (.p (pI 32))) (demK (demK (look' 0 e))) fr up (fun r1 f1 u1 =>
  headK (look' 5 e) (fun v5 => headK (look' 6 e) (fun v6 => headK (look' 7 e) (fun v7 => headK (look' 8 e) (fun v8 => headK (demK r1) (fun v9 => k .normal [(5, v5), (6, v6), (7, v7), (8, v8), (9, v9)] f1 u1))))))

noncomputable def g4_9 (C : Go.ScE.Callee) : Env → Fram → List Fram → KX → R0 := fun e fr up k =>
  hBin .geq false (demK (demK (look' 8 e))) (demK (demK (look' 9 e))) fr up (fun r2 f2 u2 =>
  guardK true (demK r2) (fun K => K (demK (look' 8 e)) f2 u2) f2 u2 (fun r4 f4 u4 =>
  guardK true (demK r2) (fun K => hBin .add false (demK r4) (.c (.p (pI 1))) f4 u4 K) f4 u4 (fun r5 f5 u5 =>
  guardK true (demK r2) (fun K => hFa 37 (demK (look' 5 e)) f5 u5 K) f5 u5 (fun r6 f6 u6 =>
  guardK true (demK r2) (fun K => hLd false 1 false (demK r6) f6 u6 K) f6 u6 (fun r7 f7 u7 =>
  guardK true (demK r2) (fun K => hLenL  (demK r7) f7 u7 K) f7 u7 (fun r8 f8 u8 =>
  guardK true (demK r2) (fun K => hBin .lss false (demK r5) (demK r8) f8 u8 K) f8 u8 (fun r9 f9 u9 =>
  hPick  (demK (demK r2)) (demK r9) (.c (.p (pB false))) f9 u9 (fun r10 f10 u10 =>
  guardK true (demK r10) (fun K => hFa 5 (demK (look' 5 e)) f10 u10 K) f10 u10 (fun r12 f12 u12 =>
  guardK true (demK r10) (fun K => hIaa 1 32 (demK r12) (.c (.p (pI 25))) f12 u12 K) f12 u12 (fun r13 f13 u13 =>
  guardK true (demK r10) (fun K => hLd false 1 false (demK r13) f13 u13 K) f13 u13 (fun r14 f14 u14 =>
  guardK true (demK r10) (fun K => hBin .and false (demK r14) (.c (.p (pI 7))) f14 u14 K) f14 u14 (fun r15 f15 u15 =>
  guardK true (demK r10) (fun K => hBin .eql false (demK r15) (.c (.p (pI 1))) f15 u15 K) f15 u15 (fun r16 f16 u16 =>
  hPick  (demK (demK r10)) (demK r16) (.c (.p (pB false))) f16 u16 (fun r17 f17 u17 =>
  guardK true (demK r17) (fun K => hFa 37 (demK (look' 5 e)) f17 u17 K) f17 u17 (fun r19 f19 u19 =>
  guardK true (demK r17) (fun K => hLd false 1 false (demK r19) f19 u19 K) f19 u19 (fun r20 f20 u20 =>
  guardK true (demK r17) (fun K => K (demK (look' 8 e)) f20 u20) f20 u20 (fun r21 f21 u21 =>
  guardK true (demK r17) (fun K => hIa 1 (demK r20) (demK r21) f21 u21 K) f21 u21 (fun r22 f22 u22 =>
  guardK true (demK r17) (fun K => hLd false 1 false (demK r22) f22 u22 K) f22 u22 (fun r23 f23 u23 =>
  guardK true (demK r17) (fun K => hBin .eql false (demK r23) (.c (.p (pI 111))) f23 u23 K) f23 u23 (fun r24 f24 u24 =>
  hPick  (demK (demK r17)) (demK r24) (.c (.p (pB false))) f24 u24 (fun r25 f25 u25 =>
  guardK true (demK r25) (fun K => hFa 37 (demK (look' 5 e)) f25 u25 K) f25 u25 (fun r27 f27 u27 =>
  guardK true (demK r25) (fun K => hLd false 1 false (demK r27) f27 u27 K) f27 u27 (fun r28 f28 u28 =>
  guardK true (demK r25) (fun K => K (demK (look' 8 e)) f28 u28) f28 u28 (fun r29 f29 u29 =>
  guardK true (demK r25) (fun K => hBin .add false (demK r29) (.c (.p (pI 1))) f29 u29 K) f29 u29 (fun r30 f30 u30 =>
  guardK true (demK r25) (fun K => hIa 1 (demK r28) (demK r30) f30 u30 K) f30 u30 (fun r31 f31 u31 =>
  guardK true (demK r25) (fun K => hLd false 1 false (demK r31) f31 u31 K) f31 u31 (fun r32 f32 u32 =>
  guardK true (demK r25) (fun K => hFa 4 (demK (look' 5 e)) f32 u32 K) f32 u32 (fun r33 f33 u33 =>
  guardK true (demK r25) (fun K => hLd false 1 false (demK r33) f33 u33 K) f33 u33 (fun r34 f34 u34 =>
  guardK true (demK r25) (fun K => hBin .mul false (.c (.p (pI 8))) (demK r34) f34 u34 K) f34 u34 (fun r35 f35 u35 =>
  guardK true (demK r25) (fun K => hBin .eql false (demK r32) (demK r35) f35 u35 K) f35 u35 (fun r36 f36 u36 =>
  hPick  (demK (demK r25)) (demK r36) (.c (.p (pB false))) f36 u36 (fun r37 f37 u37 =>
  headK (look' 5 e) (fun v5 => headK (look' 6 e) (fun v6 => headK (look' 7 e) (fun v7 => headK (demK r37) (fun v10 => k .normal [(5, v5), (6, v6), (7, v7), (10, v10)] f37 u37))))))))))))))))))))))))))))))))))))

noncomputable def g4_10 (C : Go.ScE.Callee) : Env → Fram → List Fram → KX → R0 := fun e fr up k =>
  headK (look' 5 e) (fun v5 => headK (look' 6 e) (fun v6 => headK (look' 7 e) (fun v7 => headK (look' 10 e) (fun v10 => headK (.c (.p (pI 1))) (fun v11 => k .normal [(5, v5), (6, v6), (7, v7), (10, v10), (11, v11)] fr up)))))

noncomputable def g4_11 (C : Go.ScE.Callee) : Env → Fram → List Fram → KX → R0 := fun e fr up k =>
  hBin .lss false (demK (demK (look' 11 e))) (.c (.p (pI 25))) fr up (fun r1 f1 u1 =>
  headK (look' 5 e) (fun v5 => headK (look' 6 e) (fun v6 => headK (look' 7 e) (fun v7 => headK (look' 10 e) (fun v10 => headK (look' 11 e) (fun v11 => headK r1 (fun v100 => k .normal [(5, v5), (6, v6), (7, v7), (10, v10), (11, v11), (100, v100)] f1 u1)))))))

noncomputable def g4_12 (C : Go.ScE.Callee) : Env → Fram → List Fram → KX → R0 := fun e fr up k =>
  hFa 5 (demK (look' 5 e)) fr up (fun r1 f1 u1 =>
  hIaa 1 32 (demK r1) (demK (demK (look' 11 e))) f1 u1 (fun r2 f2 u2 =>
  hLd false 1 false (demK r2) f2 u2 (fun r3 f3 u3 =>
  hBin .and false (demK r3) (.c (.p (pI 7))) f3 u3 (fun r4 f4 u4 =>
  hBin .neq false (demK r4) (.c (.p (pI 0))) f4 u4 (fun r5 f5 u5 =>
  headK (look' 5 e) (fun v5 => headK (look' 6 e) (fun v6 => headK (look' 7 e) (fun v7 => headK (look' 10 e) (fun v10 => headK (look' 11 e) (fun v11 => headK r5 (fun v108 => k .normal [(5, v5), (6, v6), (7, v7), (10, v10), (11, v11), (108, v108)] f5 u5)))))))))))

noncomputable def g4_13 (C : Go.ScE.Callee) : Env → Fram → List Fram → KX → R0 := fun e fr up k =>
  headK (.c (.p (pB false))) (fun v4 => k .normal [(4, v4)] fr up)

noncomputable def g4_14 (C : Go.ScE.Callee) : Env → Fram → List Fram → KX → R0 := fun e fr up k =>
  hBin .add false (demK (demK (look' 11 e))) (.c (.p (pI 1))) fr up (fun r1 f1 u1 =>
  headK (look' 5 e) (fun v5 => headK (look' 6 e) (fun v6 => headK (look' 7 e) (fun v7 => headK (look' 10 e) (fun v10 => headK (demK r1) (fun v11 => k .normal [(5, v5), (6, v6), (7, v7), (10, v10), (11, v11)] f1 u1))))))

noncomputable def g4_15 (C : Go.ScE.Callee) : Env → Fram → List Fram → KX → R0 := fun e fr up k =>
  guardK true (demK (demK (look' 6 e))) (fun K => hFa 0 (demK (look' 5 e)) fr up K) fr up (fun r2 f2 u2 =>
  guardK true (demK (demK (look' 6 e))) (fun K => hLd false 1 false (demK r2) f2 u2 K) f2 u2 (fun r3 f3 u3 =>
  guardK true (demK (demK (look' 6 e))) (fun K => hBin .eql false (demK r3) (.c (.p (pI 0))) f3 u3 K) f3 u3 (fun r4 f4 u4 =>
  hPick  (demK (demK (demK (look' 6 e)))) (demK r4) (.c (.p (pB false))) f4 u4 (fun r5 f5 u5 =>
  guardK true (demK r5) (fun K => hFa 1 (demK (look' 5 e)) f5 u5 K) f5 u5 (fun r7 f7 u7 =>
  guardK true (demK r5) (fun K => hLd false 1 false (demK r7) f7 u7 K) f7 u7 (fun r8 f8 u8 =>
  guardK true (demK r5) (fun K => hBin .eql false (demK r8) (.c (.p (pI 0))) f8 u8 K) f8 u8 (fun r9 f9 u9 =>
  hPick  (demK (demK r5)) (demK r9) (.c (.p (pB false))) f9 u9 (fun r10 f10 u10 =>
  guardK true (demK r10) (fun K => K (demK (look' 10 e)) f10 u10) f10 u10 (fun r12 f12 u12 =>
  hPick  (demK (demK r10)) (demK r12) (.c (.p (pB false))) f12 u12 (fun r13 f13 u13 =>
  guardK true (demK r13) (fun K => hFa 5 (demK (look' 5 e)) f13 u13 K) f13 u13 (fun r15 f15 u15 =>
  guardK true (demK r13) (fun K => hIaa 1 32 (demK r15) (.c (.p (pI 30))) f15 u15 K) f15 u15 (fun r16 f16 u16 =>
  guardK true (demK r13) (fun K => hLd false 1 false (demK r16) f16 u16 K) f16 u16 (fun r17 f17 u17 =>
  guardK true (demK r13) (fun K => hBin .eql false (demK r17) (.c (.p (pI 33))) f17 u17 K) f17 u17 (fun r18 f18 u18 =>
  hPick  (demK (demK r13)) (demK r18) (.c (.p (pB false))) f18 u18 (fun r19 f19 u19 =>
  guardK true (demK r19) (fun K => hFa 5 (demK (look' 5 e)) f19 u19 K) f19 u19 (fun r21 f21 u21 =>
  guardK true (demK r19) (fun K => hIaa 1 32 (demK r21) (.c (.p (pI 29))) f21 u21 K) f21 u21 (fun r22 f22 u22 =>
  guardK true (demK r19) (fun K => hLd false 1 false (demK r22) f22 u22 K) f22 u22 (fun r23 f23 u23 =>
  guardK true (demK r19) (fun K => hFa 37 (demK (look' 5 e)) f23 u23 K) f23 u23 (fun r24 f24 u24 =>
  guardK true (demK r19) (fun K => hLd false 1 false (demK r24) f24 u24 K) f24 u24 (fun r25 f25 u25 =>
  guardK true (demK r19) (fun K => hIa 1 (demK r25) (.c (.p (pI 28))) f25 u25 K) f25 u25 (fun r26 f26 u26 =>
  guardK true (demK r19) (fun K => hLd false 1 false (demK r26) f26 u26 K) f26 u26 (fun r27 f27 u27 =>
  guardK true (demK r19) (fun K => hBin .add false (demK r27) (.c (.p (pI 2))) f27 u27 K) f27 u27 (fun r28 f28 u28 =>
  guardK true (demK r19) (fun K => hBin .eql false (demK r23) (demK r28) f28 u28 K) f28 u28 (fun r29 f29 u29 =>
  hPick  (demK (demK r19)) (demK r29) (.c (.p (pB false))) f29 u29 (fun r30 f30 u30 =>
  guardK true (demK r30) (fun K => hFa 37 (demK (look' 5 e)) f30 u30 K) f30 u30 (fun r32 f32 u32 =>
  guardK true (demK r30) (fun K => hLd false 1 false (demK r32) f32 u32 K) f32 u32 (fun r33 f33 u33 =>
  guardK true (demK r30) (fun K => hIa 1 (demK r33) (.c (.p (pI 25))) f33 u33 K) f33 u33 (fun r34 f34 u34 =>
  guardK true (demK r30) (fun K => hLd false 1 false (demK r34) f34 u34 K) f34 u34 (fun r35 f35 u35 =>
  guardK true (demK r30) (fun K => K (demK (look' 7 e)) f35 u35) f35 u35 (fun r36 f36 u36 =>
  guardK true (demK r30) (fun K => hBin .eql false (demK r35) (demK r36) f36 u36 K) f36 u36 (fun r37 f37 u37 =>
  hPick  (demK (demK r30)) (demK r37) (.c (.p (pB false))) f37 u37 (fun r38 f38 u38 =>
  guardK true (demK r38) (fun K => hFa 37 (demK (look' 5 e)) f38 u38 K) f38 u38 (fun r40 f40 u40 =>
  guardK true (demK r38) (fun K => hLd false 1 false (demK r40) f40 u40 K) f40 u40 (fun r41 f41 u41 =>
  guardK true (demK r38) (fun K => hIa 1 (demK r41) (.c (.p (pI 26))) f41 u41 K) f41 u41 (fun r42 f42 u42 =>
  guardK true (demK r38) (fun K => hLd false 1 false (demK r42) f42 u42 K) f42 u42 (fun r43 f43 u43 =>
  guardK true (demK r38) (fun K => K (demK (look' 7 e)) f43 u43) f43 u43 (fun r44 f44 u44 =>
  guardK true (demK r38) (fun K => hBin .eql false (demK r43) (demK r44) f44 u44 K) f44 u44 (fun r45 f45 u45 =>
  hPick  (demK (demK r38)) (demK r45) (.c (.p (pB false))) f45 u45 (fun r46 f46 u46 =>
  headK (demK r46) (fun v4 => k .normal [(4, v4)] f46 u46))))))))))))))))))))))))))))))))))))))))

noncomputable def h4 : KC := fun C n => seqK (g4_0 C) (seqK (seqK (g4_1 C) (condK (.t 29) (seqK (g4_2 C) (retK)) (skipK))) (seqK (g4_3 C) (seqK (seqK (g4_4 C) (condK (.t 43) (seqK (g4_5 C) (retK)) (skipK))) (seqK (g4_6 C) (seqK (g4_7 C) (seqK (g4_8 C) (seqK (g4_9 C) (seqK (seqK (g4_10 C) (blockK 0 (loopsK [5, 6, 7, 10, 11] [0] (seqK (seqK (g4_11 C) (condK (.t 100) (skipK) (exitK 0))) (seqK (blockK 1 (seqK (g4_12 C) (condK (.t 108) (seqK (g4_13 C) (retK)) (skipK)))) (g4_14 C))) n))) (seqK (g4_15 C) (retK))))))))))
theorem h4_eq (C : Go.ScE.Callee) (n : Nat) : h4 C n = evK C n x4.body := by kernel_rfl

noncomputable def g5_0 (C : Go.ScE.Callee) : Env → Fram → List Fram → KX → R0 := fun e fr up k =>
  headK (look' 0 e) (fun v0 => headK (look' 1 e) (fun v1 => k .normal [(0, v0), (1, v1)] fr up))

noncomputable def g5_1 (C : Go.ScE.Callee) : Env → Fram → List Fram → KX → R0 := fun e fr up k =>
  hCall C 7 [] fr up (fun r0 f0 u0 =>
  hGen C (.un .not) [(demK r0)] f0 u0 (fun r1 f1 u1 =>
  headK (look' 0 e) (fun v0 => headK (look' 1 e) (fun v1 => headK r1 (fun v14 => k .normal [(0, v0), (1, v1), (14, v14)] f1 u1)))))

noncomputable def g5_2 (C : Go.ScE.Callee) : Env → Fram → List Fram → KX → R0 := fun e fr up k =>
  headK (.c (.p (pB false))) (fun v4 => k .normal [(4, v4)] fr up)

noncomputable def g5_3 (C : Go.ScE.Callee) : Env → Fram → List Fram → KX → R0 := fun e fr up k =>
  hBin .rem false (demK (demK (look' 0 e))) (.c (.p (pI 16))) fr up (fun r1 f1 u1 =>
  hBin .add false (demK r1) (.c (.p (pI 16))) f1 u1 (fun r2 f2 u2 =>
  hBin .rem false (demK r2) (.c (.p (pI 16))) f2 u2 (fun r3 f3 u3 =>
  hBin .add false (.c (.p (pI 80))) (demK r3) f3 u3 (fun r4 f4 u4 =>
  headK (look' 1 e) (fun v1 => headK (demK r4) (fun v5 => k .normal [(1, v1), (5, v5)] f4 u4))))))

noncomputable def g5_4 (C : Go.ScE.Callee) : Env → Fram → List Fram → KX → R0 := fun e fr up k =>
  hCall C 10 [] fr up (fun r0 f0 u0 =>
  hCall C 11 [] f0 u0 (fun r1 f1 u1 =>
  hCall C 13 [(.c (.p (pI 10)))] f1 u1 (fun r2 f2 u2 =>
  hBin .add false (.c (.p (pI (-69)))) (demK (demK (look' 5 e))) f2 u2 (fun r4 f4 u4 =>
  hCall C 15 [(.c (.p (pI 0))), (demK r4)] f4 u4 (fun r5 f5 u5 =>
  hBlds 8 [(pI 0), (pI 0), (pI 0), (pI 0), (pI 0), (pI 0), (pI 0), (pI 0)] 2 [0, 1] [(demK r2), (demK r5)] f5 u5 (fun r6 f6 u6 =>
  hCall C 9 [r0, r1, r6, (.c (.p (pI 20))), (.c (.p (pI 20))), (.c (.p (pI 0)))] f6 u6 (fun r7 f7 u7 =>
  hGen C (.ext 0) [(demK r7)] f7 u7 (fun r9 f9 u9 =>
  hGen C (.ext 1) [r7] f9 u9 (fun r10 f10 u10 =>
  hGen C (.alloc 0 true [(pI 0), (pI 0), (pS []), (pI 0), (pI 0), (pI 0), (pI 0), (pI 0), (pI 0), (pI 0), (pI 0), (pI 0), (pI 0), (pI 0), (pI 0), (pI 0), (pI 0), (pI 0), (pI 0), (pI 0), (pI 0), (pI 0), (pI 0), (pI 0), (pI 0), (pI 0), (pI 0), (pI 0), (pI 0), (pI 0), (pI 0), (pI 0), (pI 0), (pI 0), (pI 0), (pI 0), (pI 0), (.sl 1 [])]) [] f10 u10 (fun r11 f11 u11 =>
  hSt 38 (demK r11) r9 f11 u11 (fun r12 f12 u12 =>
  headK (look' 1 e) (fun v1 => headK (look' 5 e) (fun v5 => headK r11 (fun v6 => headK (demK r10) (fun v7 => k .normal [(1, v1), (5, v5), (6, v6), (7, v7)] f12 u12)))))))))))))))

noncomputable def g5_5 (C : Go.ScE.Callee) : Env → Fram → List Fram → KX → R0 := fun e fr up k =>
  hGen C (.un .not) [(demK (demK (look' 7 e)))] fr up (fun r1 f1 u1 =>
  guardK false (demK r1) (fun K => hFa 0 (demK (look' 6 e)) f1 u1 K) f1 u1 (fun r3 f3 u3 =>
  guardK false (demK r1) (fun K => hLd false 1 false (demK r3) f3 u3 K) f3 u3 (fun r4 f4 u4 =>
  guardK false (demK r1) (fun K => hBin .neq false (demK r4) (.c (.p (pI 0))) f4 u4 K) f4 u4 (fun r5 f5 u5 =>
  hPick  (demK (demK r1)) (.c (.p (pB true))) (demK r5) f5 u5 (fun r6 f6 u6 =>
  guardK false (demK r6) (fun K => hFa 1 (demK (look' 6 e)) f6 u6 K) f6 u6 (fun r8 f8 u8 =>
  guardK false (demK r6) (fun K => hLd false 1 false (demK r8) f8 u8 K) f8 u8 (fun r9 f9 u9 =>
  guardK false (demK r6) (fun K => K (demK (look' 5 e)) f9 u9) f9 u9 (fun r10 f10 u10 =>
  guardK false (demK r6) (fun K => hBin .neq false (demK r9) (demK r10) f10 u10 K) f10 u10 (fun r11 f11 u11 =>
  hPick  (demK (demK r6)) (.c (.p (pB true))) (demK r11) f11 u11 (fun r12 f12 u12 =>
  headK (look' 1 e) (fun v1 => headK r12 (fun v43 => k .normal [(1, v1), (43, v43)] f12 u12))))))))))))

noncomputable def g5_6 (C : Go.ScE.Callee) : Env → Fram → List Fram → KX → R0 := fun e fr up k =>
  headK (.c (.p (pB false))) (fun v4 => k .normal [(4, v4)] fr up)

noncomputable def g5_7 (C : Go.ScE.Callee) : Env → Fram → List Fram → KX → R0 := fun e fr up k =>
  hBin .rem false (demK (demK (look' 1 e))) (.c (.p (pI 7))) fr up (fun r1 f1 u1 =>
  hBin .add false (demK r1) (.c (.p (pI 7))) f1 u1 (fun r2 f2 u2 =>
  hBin .rem false (demK r2) (.c (.p (pI 7))) f2 u2 (fun r3 f3 u3 =>
  headK (demK r3) (fun v8 => k .normal [(8, v8)] f3 u3))))

noncomputable def g5_8 (C : Go.ScE.Callee) : Env → Fram → List Fram → KX → R0 := fun e fr up k =>
  hCall C 13 [(.c (.p (pI 10)))] fr up (fun r0 f0 u0 =>
  hCall C 16 [(.c (.p (pI 26))), (.c (.p (pI 60)))] f0 u0 (fun r1 f1 u1 =>
  hCall C 14 [(.c (.p (pI 18))), (.c (.p (pI 26))), (.c (.p (pI 26))), (.c (.p (pI 3)))] f1 u1 (fun r2 f2 u2 =>
  hCall C 14 [(.c (.p (pI 19))), (.c (.p (pI 27))), (.c (.p (pI 25))), (.c (.p (pI 3)))] f2 u2 (fun r3 f3 u3 =>
  hCall C 14 [(.c (.p (pI 23))), (.c (.p (pI 26))), (.c (.p (pI 27))), (.c (.p (pI 1)))] f3 u3 (fun r4 f4 u4 =>
  hCall C 15 [(.c (.p (pI 0))), (.c (.p (pI 7)))] f4 u4 (fun r5 f5 u5 =>
  hBlds 8 [(pI 0), (pI 0), (pI 0), (pI 0), (pI 0), (pI 0), (pI 0), (pI 0)] 6 [0, 1, 2, 3, 4, 5] [(demK r0), (demK r1), (demK r2), (demK r3), (demK r4), (demK r5)] f5 u5 (fun r6 f6 u6 =>
  headK (look' 8 e) (fun v8 => headK r6 (fun v9 => k .normal [(8, v8), (9, v9)] f6 u6)))))))))

noncomputable def g5_9 (C : Go.ScE.Callee) : Env → Fram → List Fram → KX → R0 := fun e fr up k =>
  hCall C 13 [(.c (.p (pI 60)))] fr up (fun r1 f1 u1 =>
  hCall C 14 [(.c (.p (pI 15))), (.c (.p (pI 25))), (.c (.p (pI 1))), (.c (.p (pI 0)))] f1 u1 (fun r2 f2 u2 =>
  hCall C 17 [(.c (.p (pI 28))), (demK (demK (look' 8 e)))] f2 u2 (fun r4 f4 u4 =>
  hCall C 15 [(.c (.p (pI 0))), (.c (.p (pI 3)))] f4 u4 (fun r5 f5 u5 =>
  hBlds 8 [(pI 0), (pI 0), (pI 0), (pI 0), (pI 0), (pI 0), (pI 0), (pI 0)] 4 [0, 1, 2, 3] [(demK r1), (demK r2), (demK r4), (demK r5)] f5 u5 (fun r6 f6 u6 =>
  hApp 8 64 (look' 9 e) (demK r6) f6 u6 (fun r7 f7 u7 =>
  headK (look' 8 e) (fun v8 => headK r7 (fun v9 => k .normal [(8, v8), (9, v9)] f7 u7))))))))

noncomputable def g5_10 (C : Go.ScE.Callee) : Env → Fram → List Fram → KX → R0 := fun e fr up k =>
  hCall C 10 [] fr up (fun r0 f0 u0 =>
  hCall C 11 [] f0 u0 (fun r1 f1 u1 =>
  hCall C 9 [r0, r1, (look' 9 e), (.c (.p (pI 20))), (.c (.p (pI 20))), (.c (.p (pI 0)))] f1 u1 (fun r3 f3 u3 =>
  hGen C (.ext 0) [(demK r3)] f3 u3 (fun r5 f5 u5 =>
  hGen C (.ext 1) [r3] f5 u5 (fun r6 f6 u6 =>
  hGen C (.alloc 1 true [(pI 0), (pI 0), (pS []), (pI 0), (pI 0), (pI 0), (pI 0), (pI 0), (pI 0), (pI 0), (pI 0), (pI 0), (pI 0), (pI 0), (pI 0), (pI 0), (pI 0), (pI 0), (pI 0), (pI 0), (pI 0), (pI 0), (pI 0), (pI 0), (pI 0), (pI 0), (pI 0), (pI 0), (pI 0), (pI 0), (pI 0), (pI 0), (pI 0), (pI 0), (pI 0), (pI 0), (pI 0), (.sl 1 [])]) [] f6 u6 (fun r7 f7 u7 =>
  hSt 38 (demK r7) r5 f7 u7 (fun r8 f8 u8 =>
  headK (look' 8 e) (fun v8 => headK r7 (fun v10 => headK (demK r6) (fun v11 => k .normal [(8, v8), (10, v10), (11, v11)] f8 u8))))))))))

noncomputable def g5_11 (C : Go.ScE.Callee) : Env → Fram → List Fram → KX → R0 := fun e fr up k =>
  headK (look' 8 e) (fun v8 => headK (look' 10 e) (fun v10 => headK (look' 11 e) (fun v11 => headK (.c (.p (pI 91))) (fun v12 => k .normal [(8, v8), (10, v10), (11, v11), (12, v12)] fr up))))

noncomputable def g5_12 (C : Go.ScE.Callee) : Env → Fram → List Fram → KX → R0 := fun e fr up k =>
  hBin .eql false (demK (demK (look' 8 e))) (.c (.p (pI 1))) fr up (fun r1 f1 u1 =>
  headK (look' 10 e) (fun v10 => headK (look' 11 e) (fun v11 => headK (look' 12 e) (fun v12 => headK r1 (fun v71 => k .normal [(10, v10), (11, v11), (12, v12), (71, v71)] f1 u1)))))

noncomputable def g5_13 (C : Go.ScE.Callee) : Env → Fram → List Fram → KX → R0 := fun e fr up k =>
  headK (look' 10 e) (fun v10 => headK (look' 11 e) (fun v11 => headK (.c (.p (pI 0))) (fun v12 => k .normal [(10, v10), (11, v11), (12, v12)] fr up)))

noncomputable def g5_14 (C : Go.ScE.Callee) : Env → Fram → List Fram → KX → R0 := fun e fr up k =>
  guardK true (demK (demK (look' 11 e))) (fun K => hFa 0 (demK (look' 10 e)) fr up K) fr up (fun r2 f2 u2 =>
  guardK true (demK (demK (look' 11 e))) (fun K => hLd false 1 false (demK r2) f2 u2 K) f2 u2 (fun r3 f3 u3 =>
  guardK true (demK (demK (look' 11 e))) (fun K => hBin .eql false (demK r3) (.c (.p (pI 0))) f3 u3 K) f3 u3 (fun r4 f4 u4 =>
  hPick  (demK (demK (demK (look' 11 e)))) (demK r4) (.c (.p (pB false))) f4 u4 (fun r5 f5 u5 =>
  guardK true (demK r5) (fun K => hFa 1 (demK (look' 10 e)) f5 u5 K) f5 u5 (fun r7 f7 u7 =>
  guardK true (demK r5) (fun K => hLd false 1 false (demK r7) f7 u7 K) f7 u7 (fun r8 f8 u8 =>
  guardK true (demK r5) (fun K => K (demK (look' 12 e)) f8 u8) f8 u8 (fun r9 f9 u9 =>
  guardK true (demK r5) (fun K => hBin .eql false (demK r8) (demK r9) f9 u9 K) f9 u9 (fun r10 f10 u10 =>
  hPick  (demK (demK r5)) (demK r10) (.c (.p (pB false))) f10 u10 (fun r11 f11 u11 =>
  headK (demK r11) (fun v4 => k .normal [(4, v4)] f11 u11))))))))))

noncomputable def h5 : KC := fun C n => seqK (g5_0 C) (seqK (seqK (g5_1 C) (condK (.t 14) (seqK (g5_2 C) (retK)) (skipK))) (seqK (g5_3 C) (seqK (g5_4 C) (seqK (seqK (g5_5 C) (condK (.t 43) (seqK (g5_6 C) (retK)) (skipK))) (seqK (g5_7 C) (seqK (g5_8 C) (seqK (g5_9 C) (seqK (g5_10 C) (seqK (g5_11 C) (seqK (seqK (g5_12 C) (condK (.t 71) (g5_13 C) (skipK))) (seqK (g5_14 C) (retK))))))))))))
theorem h5_eq (C : Go.ScE.Callee) (n : Nat) : h5 C n = evK C n x5.body := by kernel_rfl

noncomputable def g6_0 (C : Go.ScE.Callee) : Env → Fram → List Fram → KX → R0 := fun e fr up k =>
  headK (look' 0 e) (fun v0 => headK (look' 1 e) (fun v1 => k .normal [(0, v0), (1, v1)] fr up))

noncomputable def g6_1 (C : Go.ScE.Callee) : Env → Fram → List Fram → KX → R0 := fun e fr up k =>
  hCall C 7 [] fr up (fun r0 f0 u0 =>
  hGen C (.un .not) [(demK r0)] f0 u0 (fun r1 f1 u1 =>
  guardK false (demK r1) (fun K => K (demK (look' 0 e)) f1 u1) f1 u1 (fun r3 f3 u3 =>
  guardK false (demK r1) (fun K => hBin .lss false (demK r3) (.c (.p (pI 0))) f3 u3 K) f3 u3 (fun r4 f4 u4 =>
  hPick  (demK (demK r1)) (.c (.p (pB true))) (demK r4) f4 u4 (fun r5 f5 u5 =>
  guardK false (demK r5) (fun K => K (demK (look' 0 e)) f5 u5) f5 u5 (fun r7 f7 u7 =>
  guardK false (demK r5) (fun K => hBin .gtr false (demK r7) (.c (.p (pI 1000))) f7 u7 K) f7 u7 (fun r8 f8 u8 =>
  hPick  (demK (demK r5)) (.c (.p (pB true))) (demK r8) f8 u8 (fun r9 f9 u9 =>
  guardK false (demK r9) (fun K => K (demK (look' 1 e)) f9 u9) f9 u9 (fun r11 f11 u11 =>
  guardK false (demK r9) (fun K => hBin .lss false (demK r11) (.c (.p (pI 2))) f11 u11 K) f11 u11 (fun r12 f12 u12 =>
  hPick  (demK (demK r9)) (.c (.p (pB true))) (demK r12) f12 u12 (fun r13 f13 u13 =>
  guardK false (demK r13) (fun K => K (demK (look' 1 e)) f13 u13) f13 u13 (fun r15 f15 u15 =>
  guardK false (demK r13) (fun K => hBin .gtr false (demK r15) (.c (.p (pI 1000))) f15 u15 K) f15 u15 (fun r16 f16 u16 =>
  hPick  (demK (demK r13)) (.c (.p (pB true))) (demK r16) f16 u16 (fun r17 f17 u17 =>
  headK (look' 0 e) (fun v0 => headK (look' 1 e) (fun v1 => headK r17 (fun v25 => k .normal [(0, v0), (1, v1), (25, v25)] f17 u17)))))))))))))))))

noncomputable def g6_2 (C : Go.ScE.Callee) : Env → Fram → List Fram → KX → R0 := fun e fr up k =>
  hCall C 7 [] fr up (fun r0 f0 u0 =>
  headK (demK r0) (fun v4 => k .normal [(4, v4)] f0 u0))

noncomputable def g6_3 (C : Go.ScE.Callee) : Env → Fram → List Fram → KX → R0 := fun e fr up k =>
  hCall C 13 [(.c (.p (pI 10)))] fr up (fun r0 f0 u0 =>
  hCall C 17 [(.c (.p (pI 26))), (demK (demK (look' 0 e)))] f0 u0 (fun r2 f2 u2 =>
  hCall C 15 [(.c (.p (pI 31))), (.c (.p (pI 2)))] f2 u2 (fun r3 f3 u3 =>
  hCall C 14 [(.c (.p (pI 0))), (.c (.p (pI 0))), (.c (.p (pI 0))), (.c (.p (pI 0)))] f3 u3 (fun r4 f4 u4 =>
  hBlds 8 [(pI 0), (pI 0), (pI 0), (pI 0), (pI 0), (pI 0), (pI 0), (pI 0)] 4 [0, 1, 2, 3] [(demK r0), (demK r2), (demK r3), (demK r4)] f4 u4 (fun r5 f5 u5 =>
  headK (look' 0 e) (fun v0 => headK (look' 1 e) (fun v1 => headK r5 (fun v5 => k .normal [(0, v0), (1, v1), (5, v5)] f5 u5))))))))

noncomputable def g6_4 (C : Go.ScE.Callee) : Env → Fram → List Fram → KX → R0 := fun e fr up k =>
  hCall C 10 [] fr up (fun r0 f0 u0 =>
  hCall C 11 [] f0 u0 (fun r1 f1 u1 =>
  hCall C 9 [r0, r1, (look' 5 e), (.c (.p (pI 20))), (demK (demK (look' 1 e))), (.c (.p (pI 0)))] f1 u1 (fun r4 f4 u4 =>
  hGen C (.ext 0) [(demK r4)] f4 u4 (fun r6 f6 u6 =>
  hGen C (.ext 1) [r4] f6 u6 (fun r7 f7 u7 =>
  hGen C (.alloc 0 true [(pI 0), (pI 0), (pS []), (pI 0), (pI 0), (pI 0), (pI 0), (pI 0), (pI 0), (pI 0), (pI 0), (pI 0), (pI 0), (pI 0), (pI 0), (pI 0), (pI 0), (pI 0), (pI 0), (pI 0), (pI 0), (pI 0), (pI 0), (pI 0), (pI 0), (pI 0), (pI 0), (pI 0), (pI 0), (pI 0), (pI 0), (pI 0), (pI 0), (pI 0), (pI 0), (pI 0), (pI 0), (.sl 1 [])]) [] f7 u7 (fun r8 f8 u8 =>
  hSt 38 (demK r8) r6 f8 u8 (fun r9 f9 u9 =>
  headK (look' 0 e) (fun v0 => headK (look' 1 e) (fun v1 => headK r8 (fun v6 => headK (demK r7) (fun v7 => k .normal [(0, v0), (1, v1), (6, v6), (7, v7)] f9 u9)))))))))))

noncomputable def g6_5 (C : Go.ScE.Callee) : Env → Fram → List Fram → KX → R0 := fun e fr up k =>
  hBin .add false (demK (demK (look' 0 e))) (.c (.p (pI 2))) fr up (fun r1 f1 u1 =>
  hBin .gtr false (demK r1) (demK (demK (look' 1 e))) f1 u1 (fun r3 f3 u3 =>
  headK (look' 6 e) (fun v6 => headK (look' 7 e) (fun v7 => headK r3 (fun v44 => k .normal [(6, v6), (7, v7), (44, v44)] f3 u3)))))

noncomputable def g6_6 (C : Go.ScE.Callee) : Env → Fram → List Fram → KX → R0 := fun e fr up k =>
  guardK true (demK (demK (look' 7 e))) (fun K => hFa 0 (demK (look' 6 e)) fr up K) fr up (fun r2 f2 u2 =>
  guardK true (demK (demK (look' 7 e))) (fun K => hLd false 1 false (demK r2) f2 u2 K) f2 u2 (fun r3 f3 u3 =>
  guardK true (demK (demK (look' 7 e))) (fun K => hBin .eql false (demK r3) (.c (.p (pI 0))) f3 u3 K) f3 u3 (fun r4 f4 u4 =>
  hPick  (demK (demK (demK (look' 7 e)))) (demK r4) (.c (.p (pB false))) f4 u4 (fun r5 f5 u5 =>
  guardK true (demK r5) (fun K => hFa 1 (demK (look' 6 e)) f5 u5 K) f5 u5 (fun r7 f7 u7 =>
  guardK true (demK r5) (fun K => hLd false 1 false (demK r7) f7 u7 K) f7 u7 (fun r8 f8 u8 =>
  guardK true (demK r5) (fun K => hBin .eql false (demK r8) (.c (.p (pI 95))) f8 u8 K) f8 u8 (fun r9 f9 u9 =>
  hPick  (demK (demK r5)) (demK r9) (.c (.p (pB false))) f9 u9 (fun r10 f10 u10 =>
  headK (demK r10) (fun v4 => k .normal [(4, v4)] f10 u10)))))))))

noncomputable def g6_7 (C : Go.ScE.Callee) : Env → Fram → List Fram → KX → R0 := fun e fr up k =>
  guardK true (demK (demK (look' 7 e))) (fun K => hFa 0 (demK (look' 6 e)) fr up K) fr up (fun r2 f2 u2 =>
  guardK true (demK (demK (look' 7 e))) (fun K => hLd false 1 false (demK r2) f2 u2 K) f2 u2 (fun r3 f3 u3 =>
  guardK true (demK (demK (look' 7 e))) (fun K => hBin .eql false (demK r3) (.c (.p (pI 0))) f3 u3 K) f3 u3 (fun r4 f4 u4 =>
  hPick  (demK (demK (demK (look' 7 e)))) (demK r4) (.c (.p (pB false))) f4 u4 (fun r5 f5 u5 =>
  guardK true (demK r5) (fun K => hFa 1 (demK (look' 6 e)) f5 u5 K) f5 u5 (fun r7 f7 u7 =>
  guardK true (demK r5) (fun K => hLd false 1 false (demK r7) f7 u7 K) f7 u7 (fun r8 f8 u8 =>
  guardK true (demK r5) (fun K => hBin .eql false (demK r8) (.c (.p (pI 0))) f8 u8 K) f8 u8 (fun r9 f9 u9 =>
  hPick  (demK (demK r5)) (demK r9) (.c (.p (pB false))) f9 u9 (fun r10 f10 u10 =>
  guardK true (demK r10) (fun K => hFa 5 (demK (look' 6 e)) f10 u10 K) f10 u10 (fun r12 f12 u12 =>
  guardK true (demK r10) (fun K => hIaa 1 32 (demK r12) (.c (.p (pI 29))) f12 u12 K) f12 u12 (fun r13 f13 u13 =>
  guardK true (demK r10) (fun K => hLd false 1 false (demK r13) f13 u13 K) f13 u13 (fun r14 f14 u14 =>
  guardK true (demK r10) (fun K => hFa 37 (demK (look' 6 e)) f14 u14 K) f14 u14 (fun r15 f15 u15 =>
  guardK true (demK r10) (fun K => hLd false 1 false (demK r15) f15 u15 K) f15 u15 (fun r16 f16 u16 =>
  guardK true (demK r10) (fun K => hIa 1 (demK r16) (.c (.p (pI 28))) f16 u16 K) f16 u16 (fun r17 f17 u17 =>
  guardK true (demK r10) (fun K => hLd false 1 false (demK r17) f17 u17 K) f17 u17 (fun r18 f18 u18 =>
  guardK true (demK r10) (fun K => hBin .add false (demK r18) (.c (.p (pI 2))) f18 u18 K) f18 u18 (fun r19 f19 u19 =>
  guardK true (demK r10) (fun K => hBin .eql false (demK r14) (demK r19) f19 u19 K) f19 u19 (fun r20 f20 u20 =>
  hPick  (demK (demK r10)) (demK r20) (.c (.p (pB false))) f20 u20 (fun r21 f21 u21 =>
  guardK true (demK r21) (fun K => hFa 37 (demK (look' 6 e)) f21 u21 K) f21 u21 (fun r23 f23 u23 =>
  guardK true (demK r21) (fun K => hLd false 1 false (demK r23) f23 u23 K) f23 u23 (fun r24 f24 u24 =>
  guardK true (demK r21) (fun K => hIa 1 (demK r24) (.c (.p (pI 28))) f24 u24 K) f24 u24 (fun r25 f25 u25 =>
  guardK true (demK r21) (fun K => hLd false 1 false (demK r25) f25 u25 K) f25 u25 (fun r26 f26 u26 =>
  guardK true (demK r21) (fun K => hBin .eql false (demK r26) (.c (.p (pI 52))) f26 u26 K) f26 u26 (fun r27 f27 u27 =>
  hPick  (demK (demK r21)) (demK r27) (.c (.p (pB false))) f27 u27 (fun r28 f28 u28 =>
  headK (demK r28) (fun v4 => k .normal [(4, v4)] f28 u28)))))))))))))))))))))))))

noncomputable def h6 : KC := fun C n => seqK (g6_0 C) (seqK (seqK (g6_1 C) (condK (.t 25) (seqK (g6_2 C) (retK)) (skipK))) (seqK (g6_3 C) (seqK (g6_4 C) (seqK (seqK (g6_5 C) (condK (.t 44) (seqK (g6_6 C) (retK)) (skipK))) (seqK (g6_7 C) (retK))))))
theorem h6_eq (C : Go.ScE.Callee) (n : Nat) : h6 C n = evK C n x6.body := by kernel_rfl

noncomputable def g7_0 (C : Go.ScE.Callee) : Env → Fram → List Fram → KX → R0 := fun e fr up k =>
  k .normal [] fr up

noncomputable def g7_1 (C : Go.ScE.Callee) : Env → Fram → List Fram → KX → R0 := fun e fr up k =>
  hCall C 10 [] fr up (fun r0 f0 u0 =>
  headK r0 (fun v1 => k .normal [(1, v1)] f0 u0))

noncomputable def g7_2 (C : Go.ScE.Callee) : Env → Fram → List Fram → KX → R0 := fun e fr up k =>
  hCall C 11 [] fr up (fun r1 f1 u1 =>
  hCall C 13 [(.c (.p (pI 10)))] f1 u1 (fun r2 f2 u2 =>
  hCall C 15 [(.c (.p (pI 0))), (.c (.p (pI 4)))] f2 u2 (fun r3 f3 u3 =>
  hBlds 8 [(pI 0), (pI 0), (pI 0), (pI 0), (pI 0), (pI 0), (pI 0), (pI 0)] 2 [0, 1] [(demK r2), (demK r3)] f3 u3 (fun r4 f4 u4 =>
  hCall C 9 [(demK (look' 1 e)), r1, r4, (.c (.p (pI 10))), (.c (.p (pI 10))), (.c (.p (pI 0)))] f4 u4 (fun r5 f5 u5 =>
  hGen C (.ext 0) [(demK r5)] f5 u5 (fun r7 f7 u7 =>
  hGen C (.ext 1) [r5] f7 u7 (fun r8 f8 u8 =>
  hGen C (.alloc 0 true [(pI 0), (pI 0), (pS []), (pI 0), (pI 0), (pI 0), (pI 0), (pI 0), (pI 0), (pI 0), (pI 0), (pI 0), (pI 0), (pI 0), (pI 0), (pI 0), (pI 0), (pI 0), (pI 0), (pI 0), (pI 0), (pI 0), (pI 0), (pI 0), (pI 0), (pI 0), (pI 0), (pI 0), (pI 0), (pI 0), (pI 0), (pI 0), (pI 0), (pI 0), (pI 0), (pI 0), (pI 0), (.sl 1 [])]) [] f8 u8 (fun r9 f9 u9 =>
  hSt 38 (demK r9) r7 f9 u9 (fun r10 f10 u10 =>
  headK (look' 1 e) (fun v1 => headK r9 (fun v2 => headK (demK r8) (fun v3 => k .normal [(1, v1), (2, v2), (3, v3)] f10 u10))))))))))))

noncomputable def g7_3 (C : Go.ScE.Callee) : Env → Fram → List Fram → KX → R0 := fun e fr up k =>
  guardK true (demK (demK (look' 3 e))) (fun K => hFa 0 (demK (look' 2 e)) fr up K) fr up (fun r2 f2 u2 =>
  guardK true (demK (demK (look' 3 e))) (fun K => hLd false 1 false (demK r2) f2 u2 K) f2 u2 (fun r3 f3 u3 =>
  guardK true (demK (demK (look' 3 e))) (fun K => hBin .eql false (demK r3) (.c (.p (pI 0))) f3 u3 K) f3 u3 (fun r4 f4 u4 =>
  hPick  (demK (demK (demK (look' 3 e)))) (demK r4) (.c (.p (pB false))) f4 u4 (fun r5 f5 u5 =>
  guardK true (demK r5) (fun K => hFa 1 (demK (look' 2 e)) f5 u5 K) f5 u5 (fun r7 f7 u7 =>
  guardK true (demK r5) (fun K => hLd false 1 false (demK r7) f7 u7 K) f7 u7 (fun r8 f8 u8 =>
  guardK true (demK r5) (fun K => hBin .eql false (demK r8) (.c (.p (pI 0))) f8 u8 K) f8 u8 (fun r9 f9 u9 =>
  hPick  (demK (demK r5)) (demK r9) (.c (.p (pB false))) f9 u9 (fun r10 f10 u10 =>
  guardK true (demK r10) (fun K => K (demK (look' 1 e)) f10 u10) f10 u10 (fun r12 f12 u12 =>
  guardK true (demK r10) (fun K => hCall C 18 [(demK r12)] f12 u12 K) f12 u12 (fun r13 f13 u13 =>
  hPick  (demK (demK r10)) (demK r13) (.c (.p (pB false))) f13 u13 (fun r14 f14 u14 =>
  headK (demK r14) (fun v0 => k .normal [(0, v0)] f14 u14))))))))))))

noncomputable def h7 : KC := fun C n => seqK (g7_0 C) (seqK (g7_1 C) (seqK (g7_2 C) (seqK (g7_3 C) (retK))))
theorem h7_eq (C : Go.ScE.Callee) (n : Nat) : h7 C n = evK C n x7.body := by kernel_rfl

noncomputable def g8_0 (C : Go.ScE.Callee) : Env → Fram → List Fram → KX → R0 := fun e fr up k =>
  headK (look' 0 e) (fun v0 => k .normal [(0, v0)] fr up)

noncomputable def g8_1 (C : Go.ScE.Callee) : Env → Fram → List Fram → KX → R0 := fun e fr up k =>
  headK (look' 0 e) (fun v0 => headK (.c (.p (pI 3))) (fun v3 => k .normal [(0, v0), (3, v3)] fr up))

noncomputable def g8_2 (C : Go.ScE.Callee) : Env → Fram → List Fram → KX → R0 := fun e fr up k =>
  headK (look' 0 e) (fun v0 => headK (look' 3 e) (fun v3 => headK (.c (.p (pI 0))) (fun v4 => k .normal [(0, v0), (3, v3), (4, v4)] fr up)))

noncomputable def g8_3 (C : Go.ScE.Callee) : Env → Fram → List Fram → KX → R0 := fun e fr up k =>
  hLenL  (demK (demK (look' 0 e))) fr up (fun r2 f2 u2 =>
  hBin .lss false (demK (demK (look' 4 e))) (demK r2) f2 u2 (fun r3 f3 u3 =>
  headK (look' 0 e) (fun v0 => headK (look' 3 e) (fun v3 => headK (look' 4 e) (fun v4 => headK r3 (fun v8 => k .normal [(0, v0), (3, v3), (4, v4), (8, v8)] f3 u3))))))

noncomputable def g8_4 (C : Go.ScE.Callee) : Env → Fram → List Fram → KX → R0 := fun e fr up k =>
  hIa 3 (demK (demK (look' 0 e))) (demK (demK (look' 4 e))) fr up (fun r3 f3 u3 =>
  hLd true 3 false (demK r3) f3 u3 (fun r4 f4 u4 =>
  hCall C 19 [(demK r4)] f4 u4 (fun r5 f5 u5 =>
  hGen C (.fld false 1 1) [(demK r5)] f5 u5 (fun r6 f6 u6 =>
  hBin .add false (demK r6) (.c (.p (pI 3))) f6 u6 (fun r7 f7 u7 =>
  hBin .add false (demK (demK (look' 3 e))) (demK r7) f7 u7 (fun r8 f8 u8 =>
  headK (look' 0 e) (fun v0 => headK (demK r8) (fun v3 => headK (look' 4 e) (fun v4 => k .normal [(0, v0), (3, v3), (4, v4)] f8 u8)))))))))

noncomputable def g8_5 (C : Go.ScE.Callee) : Env → Fram → List Fram → KX → R0 := fun e fr up k =>
  hBin .add false (demK (demK (look' 4 e))) (.c (.p (pI 1))) fr up (fun r1 f1 u1 =>
  headK (look' 0 e) (fun v0 => headK (look' 3 e) (fun v3 => headK (demK r1) (fun v4 => k .normal [(0, v0), (3, v3), (4, v4)] f1 u1))))

noncomputable def g8_6 (C : Go.ScE.Callee) : Env → Fram → List Fram → KX → R0 := fun e fr up k =>
  headK (demK (demK (look' 3 e))) (fun v2 => k .normal [(2, v2)] fr up)

noncomputable def h8 : KC := fun C n => seqK (g8_0 C) (seqK (g8_1 C) (seqK (seqK (g8_2 C) (blockK 0 (loopsK [0, 3, 4] [] (seqK (seqK (g8_3 C) (condK (.t 8) (skipK) (exitK 0))) (seqK (blockK 1 (g8_4 C)) (g8_5 C))) n))) (seqK (g8_6 C) (retK))))
theorem h8_eq (C : Go.ScE.Callee) (n : Nat) : h8 C n = evK C n x8.body := by kernel_rfl

noncomputable def g9_0 (C : Go.ScE.Callee) : Env → Fram → List Fram → KX → R0 := fun e fr up k =>
  hGen C (.alloc 0 true [(pI 0), (pI 0), (pS []), (pI 0), (pI 0), (pI 0), (pI 0), (pI 0), (pI 0), (pI 0), (pI 0), (pI 0), (pI 0), (pI 0), (pI 0), (pI 0), (pI 0), (pI 0), (pI 0), (pI 0), (pI 0), (pI 0), (pI 0), (pI 0), (pI 0), (pI 0), (pI 0), (pI 0), (pI 0), (pI 0), (pI 0), (pI 0), (pI 0), (pI 0), (pI 0), (pI 0), (pI 0), (.sl 1 [])]) [] fr up (fun r0 f0 u0 =>
  headK (look' 0 e) (fun v0 => headK (look' 1 e) (fun v1 => headK (look' 2 e) (fun v2 => headK (look' 3 e) (fun v3 => headK (look' 4 e) (fun v4 => headK (look' 5 e) (fun v5 => headK r0 (fun v12 => k .normal [(0, v0), (1, v1), (2, v2), (3, v3), (4, v4), (5, v5), (12, v12)] f0 u0))))))))

noncomputable def g9_1 (C : Go.ScE.Callee) : Env → Fram → List Fram → KX → R0 := fun e fr up k =>
  hCall C 20 [(look' 0 e), (look' 1 e), (look' 2 e), (demK (demK (look' 3 e))), (demK (demK (look' 4 e))), (demK (demK (look' 5 e)))] fr up (fun r6 f6 u6 =>
  hGen C (.ext 0) [(demK r6)] f6 u6 (fun r8 f8 u8 =>
  hGen C (.ext 1) [r6] f8 u8 (fun r9 f9 u9 =>
  hGen C (.alloc 1 true [(.sl 1 []), (.sl 1 []), (pI 0)]) [] f9 u9 (fun r10 f10 u10 =>
  hSt 3 (demK r10) r8 f10 u10 (fun r11 f11 u11 =>
  headK (look' 12 e) (fun v12 => headK r10 (fun v14 => headK (demK r9) (fun v15 => k .normal [(12, v12), (14, v14), (15, v15)] f11 u11))))))))

noncomputable def g9_2 (C : Go.ScE.Callee) : Env → Fram → List Fram → KX → R0 := fun e fr up k =>
  hLd true 3 false (demK (look' 14 e)) fr up (fun r0 f0 u0 =>
  hCall C 21 [r0, (.c (.p (pS []))), (.c (.p (pI 1000000)))] f0 u0 (fun r1 f1 u1 =>
  hSt 38 (demK (look' 12 e)) r1 f1 u1 (fun r3 f3 u3 =>
  headK (look' 12 e) (fun v12 => headK (demK (demK (look' 15 e))) (fun v13 => k .normal [(12, v12), (13, v13)] f3 u3)))))

noncomputable def h9 : KC := fun C n => seqK (g9_0 C) (seqK (g9_1 C) (seqK (g9_2 C) (retK)))
theorem h9_eq (C : Go.ScE.Callee) (n : Nat) : h9 C n = evK C n x9.body := by kernel_rfl

noncomputable def g10_0 (C : Go.ScE.Callee) : Env → Fram → List Fram → KX → R0 := fun e fr up k =>
  k .normal [] fr up

noncomputable def g10_1 (C : Go.ScE.Callee) : Env → Fram → List Fram → KX → R0 := fun e fr up k =>
  hBld [(.sl 8 [])] [] [] fr up (fun r0 f0 u0 =>
  hGen C (.box 0) [r0] f0 u0 (fun r1 f1 u1 =>
  headK (demK r1) (fun v1 => k .normal [(1, v1)] f1 u1)))

noncomputable def g10_2 (C : Go.ScE.Callee) : Env → Fram → List Fram → KX → R0 := fun e fr up k =>
  hCall C 22 [(demK (demK (look' 1 e)))] fr up (fun r1 f1 u1 =>
  headK (look' 1 e) (fun v1 => k .normal [(1, v1)] f1 u1))

noncomputable def g10_3 (C : Go.ScE.Callee) : Env → Fram → List Fram → KX → R0 := fun e fr up k =>
  hCall C 23 [(demK (demK (look' 1 e)))] fr up (fun r1 f1 u1 =>
  headK (look' 1 e) (fun v1 => k .normal [(1, v1)] f1 u1))

noncomputable def g10_4 (C : Go.ScE.Callee) : Env → Fram → List Fram → KX → R0 := fun e fr up k =>
  hCall C 24 [(demK (demK (look' 1 e)))] fr up (fun r1 f1 u1 =>
  headK (look' 1 e) (fun v1 => k .normal [(1, v1)] f1 u1))

noncomputable def g10_5 (C : Go.ScE.Callee) : Env → Fram → List Fram → KX → R0 := fun e fr up k =>
  hCall C 25 [(demK (demK (look' 1 e)))] fr up (fun r1 f1 u1 =>
  headK (look' 1 e) (fun v1 => k .normal [(1, v1)] f1 u1))

noncomputable def g10_6 (C : Go.ScE.Callee) : Env → Fram → List Fram → KX → R0 := fun e fr up k =>
  hCall C 26 [(demK (demK (look' 1 e)))] fr up (fun r1 f1 u1 =>
  headK (look' 1 e) (fun v1 => k .normal [(1, v1)] f1 u1))

noncomputable def g10_7 (C : Go.ScE.Callee) : Env → Fram → List Fram → KX → R0 := fun e fr up k =>
  headK (look' 1 e) (fun v1 => headK (.c (.p (pI 80))) (fun v2 => k .normal [(1, v1), (2, v2)] fr up))

noncomputable def g10_8 (C : Go.ScE.Callee) : Env → Fram → List Fram → KX → R0 := fun e fr up k =>
  hBin .leq false (demK (demK (look' 2 e))) (.c (.p (pI 95))) fr up (fun r1 f1 u1 =>
  headK (look' 1 e) (fun v1 => headK (look' 2 e) (fun v2 => headK r1 (fun v16 => k .normal [(1, v1), (2, v2), (16, v16)] f1 u1))))

noncomputable def g10_9 (C : Go.ScE.Callee) : Env → Fram → List Fram → KX → R0 := fun e fr up k =>
  hCall C 28 [(demK (demK (look' 2 e)))] fr up (fun r2 f2 u2 =>
  hCall C 27 [(demK (demK (look' 1 e))), (demK r2)] f2 u2 (fun r3 f3 u3 =>
  headK (look' 1 e) (fun v1 => headK (look' 2 e) (fun v2 => k .normal [(1, v1), (2, v2)] f3 u3))))

noncomputable def g10_10 (C : Go.ScE.Callee) : Env → Fram → List Fram → KX → R0 := fun e fr up k =>
  hCall C 29 [(demK (demK (look' 1 e))), (.c (.p (pI 26))), (demK (demK (look' 2 e)))] fr up (fun r2 f2 u2 =>
  headK (look' 1 e) (fun v1 => headK (look' 2 e) (fun v2 => k .normal [(1, v1), (2, v2)] f2 u2)))

noncomputable def g10_11 (C : Go.ScE.Callee) : Env → Fram → List Fram → KX → R0 := fun e fr up k =>
  hBin .add false (demK (demK (look' 2 e))) (.c (.p (pI 1))) fr up (fun r1 f1 u1 =>
  headK (look' 1 e) (fun v1 => headK (demK r1) (fun v2 => k .normal [(1, v1), (2, v2)] f1 u1)))

noncomputable def g10_12 (C : Go.ScE.Callee) : Env → Fram → List Fram → KX → R0 := fun e fr up k =>
  hGen C (.nck) [(demK (demK (look' 1 e)))] fr up (fun r1 f1 u1 =>
  hFa 0 (demK r1) f1 u1 (fun r2 f2 u2 =>
  hLd false 1 false (demK r2) f2 u2 (fun r3 f3 u3 =>
  headK r3 (fun v0 => k .normal [(0, v0)] f3 u3))))

noncomputable def h10 : KC := fun C n => seqK (g10_0 C) (seqK (g10_1 C) (seqK (g10_2 C) (seqK (g10_3 C) (seqK (g10_4 C) (seqK (g10_5 C) (seqK (g10_6 C) (seqK (seqK (g10_7 C) (blockK 0 (loopsK [1, 2] [0] (seqK (seqK (g10_8 C) (condK (.t 16) (skipK) (exitK 0))) (seqK (blockK 1 (seqK (g10_9 C) (g10_10 C))) (g10_11 C))) n))) (seqK (g10_12 C) (retK)))))))))
theorem h10_eq (C : Go.ScE.Callee) (n : Nat) : h10 C n = evK C n x10.body := by kernel_rfl

noncomputable def g11_0 (C : Go.ScE.Callee) : Env → Fram → List Fram → KX → R0 := fun e fr up k =>
  k .normal [] fr up

noncomputable def g11_1 (C : Go.ScE.Callee) : Env → Fram → List Fram → KX → R0 := fun e fr up k =>
  hBld [(.sl 8 [])] [] [] fr up (fun r0 f0 u0 =>
  hGen C (.box 0) [r0] f0 u0 (fun r1 f1 u1 =>
  headK (demK r1) (fun v1 => k .normal [(1, v1)] f1 u1)))

noncomputable def g11_2 (C : Go.ScE.Callee) : Env → Fram → List Fram → KX → R0 := fun e fr up k =>
  hCall C 27 [(demK (demK (look' 1 e))), (.c (.p (pI 1)))] fr up (fun r1 f1 u1 =>
  headK (look' 1 e) (fun v1 => k .normal [(1, v1)] f1 u1))

noncomputable def g11_3 (C : Go.ScE.Callee) : Env → Fram → List Fram → KX → R0 := fun e fr up k =>
  headK (look' 1 e) (fun v1 => headK (.c (.p (pI 1))) (fun v2 => k .normal [(1, v1), (2, v2)] fr up))

noncomputable def g11_4 (C : Go.ScE.Callee) : Env → Fram → List Fram → KX → R0 := fun e fr up k =>
  hBin .leq false (demK (demK (look' 2 e))) (.c (.p (pI 25))) fr up (fun r1 f1 u1 =>
  headK (look' 1 e) (fun v1 => headK (look' 2 e) (fun v2 => headK r1 (fun v9 => k .normal [(1, v1), (2, v2), (9, v9)] f1 u1))))

noncomputable def g11_5 (C : Go.ScE.Callee) : Env → Fram → List Fram → KX → R0 := fun e fr up k =>
  hBin .add false (.c (.p (pI 0))) (demK (demK (look' 2 e))) fr up (fun r3 f3 u3 =>
  hBin .sub false (demK r3) (.c (.p (pI 1))) f3 u3 (fun r4 f4 u4 =>
  hCall C 30 [(demK (demK (look' 1 e))), (demK (demK (look' 2 e))), (.c (.p (pI 0))), (demK r4)] f4 u4 (fun r5 f5 u5 =>
  headK (look' 1 e) (fun v1 => headK (look' 2 e) (fun v2 => k .normal [(1, v1), (2, v2)] f5 u5)))))

noncomputable def g11_6 (C : Go.ScE.Callee) : Env → Fram → List Fram → KX → R0 := fun e fr up k =>
  hBin .add false (demK (demK (look' 2 e))) (.c (.p (pI 1))) fr up (fun r1 f1 u1 =>
  headK (look' 1 e) (fun v1 => headK (demK r1) (fun v2 => k .normal [(1, v1), (2, v2)] f1 u1)))

noncomputable def g11_7 (C : Go.ScE.Callee) : Env → Fram → List Fram → KX → R0 := fun e fr up k =>
  hCall C 31 [(demK (demK (look' 1 e))), (.c (.p (pI 1))), (.c (.p (pI 0))), (.c (.p (pI 30)))] fr up (fun r1 f1 u1 =>
  headK (look' 1 e) (fun v1 => k .normal [(1, v1)] f1 u1))

noncomputable def g11_8 (C : Go.ScE.Callee) : Env → Fram → List Fram → KX → R0 := fun e fr up k =>
  hCall C 32 [(demK (demK (look' 1 e))), (.c (.p (pI 2))), (.c (.p (pI 1)))] fr up (fun r1 f1 u1 =>
  headK (look' 1 e) (fun v1 => k .normal [(1, v1)] f1 u1))

noncomputable def g11_9 (C : Go.ScE.Callee) : Env → Fram → List Fram → KX → R0 := fun e fr up k =>
  hCall C 33 [(demK (demK (look' 1 e))), (.c (.p (pI 3))), (.c (.p (pI 0)))] fr up (fun r1 f1 u1 =>
  headK (look' 1 e) (fun v1 => k .normal [(1, v1)] f1 u1))

noncomputable def g11_10 (C : Go.ScE.Callee) : Env → Fram → List Fram → KX → R0 := fun e fr up k =>
  hCall C 33 [(demK (demK (look' 1 e))), (.c (.p (pI 4))), (.c (.p (pI 27)))] fr up (fun r1 f1 u1 =>
  headK (look' 1 e) (fun v1 => k .normal [(1, v1)] f1 u1))

noncomputable def g11_11 (C : Go.ScE.Callee) : Env → Fram → List Fram → KX → R0 := fun e fr up k =>
  hCall C 34 [(demK (demK (look' 1 e))), (.c (.p (pI 5))), (.c (.p (pI 1003)))] fr up (fun r1 f1 u1 =>
  headK (look' 1 e) (fun v1 => k .normal [(1, v1)] f1 u1))

noncomputable def g11_12 (C : Go.ScE.Callee) : Env → Fram → List Fram → KX → R0 := fun e fr up k =>
  hCall C 33 [(demK (demK (look' 1 e))), (.c (.p (pI 3))), (.c (.p (pI 32)))] fr up (fun r1 f1 u1 =>
  headK (look' 1 e) (fun v1 => k .normal [(1, v1)] f1 u1))

noncomputable def g11_13 (C : Go.ScE.Callee) : Env → Fram → List Fram → KX → R0 := fun e fr up k =>
  hCall C 32 [(demK (demK (look' 1 e))), (.c (.p (pI 4))), (.c (.p (pI 30)))] fr up (fun r1 f1 u1 =>
  headK (look' 1 e) (fun v1 => k .normal [(1, v1)] f1 u1))

noncomputable def g11_14 (C : Go.ScE.Callee) : Env → Fram → List Fram → KX → R0 := fun e fr up k =>
  hCall C 34 [(demK (demK (look' 1 e))), (.c (.p (pI 5))), (.c (.p (pI 1003)))] fr up (fun r1 f1 u1 =>
  headK (look' 1 e) (fun v1 => k .normal [(1, v1)] f1 u1))

noncomputable def g11_15 (C : Go.ScE.Callee) : Env → Fram → List Fram → KX → R0 := fun e fr up k =>
  hCall C 27 [(demK (demK (look' 1 e))), (.c (.p (pI 1000)))] fr up (fun r1 f1 u1 =>
  headK (look' 1 e) (fun v1 => k .normal [(1, v1)] f1 u1))

noncomputable def g11_16 (C : Go.ScE.Callee) : Env → Fram → List Fram → KX → R0 := fun e fr up k =>
  hCall C 35 [(demK (demK (look' 1 e))), (.c (.p (pI 27))), (.c (.p (pI 2))), (.c (.p (pI 1))), (.c (.p (pI 1001)))] fr up (fun r1 f1 u1 =>
  headK (look' 1 e) (fun v1 => k .normal [(1, v1)] f1 u1))

noncomputable def g11_17 (C : Go.ScE.Callee) : Env → Fram → List Fram → KX → R0 := fun e fr up k =>
  hCall C 32 [(demK (demK (look' 1 e))), (.c (.p (pI 3))), (.c (.p (pI 2)))] fr up (fun r1 f1 u1 =>
  headK (look' 1 e) (fun v1 => k .normal [(1, v1)] f1 u1))

noncomputable def g11_18 (C : Go.ScE.Callee) : Env → Fram → List Fram → KX → R0 := fun e fr up k =>
  hCall C 32 [(demK (demK (look' 1 e))), (.c (.p (pI 4))), (.c (.p (pI 1)))] fr up (fun r1 f1 u1 =>
  headK (look' 1 e) (fun v1 => k .normal [(1, v1)] f1 u1))

noncomputable def g11_19 (C : Go.ScE.Callee) : Env → Fram → List Fram → KX → R0 := fun e fr up k =>
  hCall C 32 [(demK (demK (look' 1 e))), (.c (.p (pI 2))), (.c (.p (pI 1)))] fr up (fun r1 f1 u1 =>
  headK (look' 1 e) (fun v1 => k .normal [(1, v1)] f1 u1))

noncomputable def g11_20 (C : Go.ScE.Callee) : Env → Fram → List Fram → KX → R0 := fun e fr up k =>
  hCall C 34 [(demK (demK (look' 1 e))), (.c (.p (pI 5))), (.c (.p (pI 1003)))] fr up (fun r1 f1 u1 =>
  headK (look' 1 e) (fun v1 => k .normal [(1, v1)] f1 u1))

noncomputable def g11_21 (C : Go.ScE.Callee) : Env → Fram → List Fram → KX → R0 := fun e fr up k =>
  hCall C 36 [(demK (demK (look' 1 e))), (.c (.p (pI 1000)))] fr up (fun r1 f1 u1 =>
  headK (look' 1 e) (fun v1 => k .normal [(1, v1)] f1 u1))

noncomputable def g11_22 (C : Go.ScE.Callee) : Env → Fram → List Fram → KX → R0 := fun e fr up k =>
  hCall C 27 [(demK (demK (look' 1 e))), (.c (.p (pI 1001)))] fr up (fun r1 f1 u1 =>
  headK (look' 1 e) (fun v1 => k .normal [(1, v1)] f1 u1))

noncomputable def g11_23 (C : Go.ScE.Callee) : Env → Fram → List Fram → KX → R0 := fun e fr up k =>
  hCall C 37 [(demK (demK (look' 1 e))), (.c (.p (pI 28))), (.c (.p (pI 30)))] fr up (fun r1 f1 u1 =>
  headK (look' 1 e) (fun v1 => k .normal [(1, v1)] f1 u1))

noncomputable def g11_24 (C : Go.ScE.Callee) : Env → Fram → List Fram → KX → R0 := fun e fr up k =>
  hCall C 37 [(demK (demK (look' 1 e))), (.c (.p (pI 29))), (.c (.p (pI 31)))] fr up (fun r1 f1 u1 =>
  headK (look' 1 e) (fun v1 => k .normal [(1, v1)] f1 u1))

noncomputable def g11_25 (C : Go.ScE.Callee) : Env → Fram → List Fram → KX → R0 := fun e fr up k =>
  hCall C 32 [(demK (demK (look' 1 e))), (.c (.p (pI 29))), (.c (.p (pI 1)))] fr up (fun r1 f1 u1 =>
  headK (look' 1 e) (fun v1 => k .normal [(1, v1)] f1 u1))

noncomputable def g11_26 (C : Go.ScE.Callee) : Env → Fram → List Fram → KX → R0 := fun e fr up k =>
  hCall C 38 [(demK (demK (look' 1 e))), (.c (.p (pI 1))), (.c (.p (pI 3))), (.c (.p (pI 1))), (.c (.p (pI 26)))] fr up (fun r1 f1 u1 =>
  headK (look' 1 e) (fun v1 => k .normal [(1, v1)] f1 u1))

noncomputable def g11_27 (C : Go.ScE.Callee) : Env → Fram → List Fram → KX → R0 := fun e fr up k =>
  hCall C 31 [(demK (demK (look' 1 e))), (.c (.p (pI 4))), (.c (.p (pI 0))), (.c (.p (pI 29)))] fr up (fun r1 f1 u1 =>
  headK (look' 1 e) (fun v1 => k .normal [(1, v1)] f1 u1))

noncomputable def g11_28 (C : Go.ScE.Callee) : Env → Fram → List Fram → KX → R0 := fun e fr up k =>
  hCall C 35 [(demK (demK (look' 1 e))), (.c (.p (pI 26))), (.c (.p (pI 4))), (.c (.p (pI 3))), (.c (.p (pI 1002)))] fr up (fun r1 f1 u1 =>
  headK (look' 1 e) (fun v1 => k .normal [(1, v1)] f1 u1))

noncomputable def g11_29 (C : Go.ScE.Callee) : Env → Fram → List Fram → KX → R0 := fun e fr up k =>
  headK (look' 1 e) (fun v1 => headK (.c (.p (pI 1))) (fun v3 => k .normal [(1, v1), (3, v3)] fr up))

noncomputable def g11_30 (C : Go.ScE.Callee) : Env → Fram → List Fram → KX → R0 := fun e fr up k =>
  hBin .leq false (demK (demK (look' 3 e))) (.c (.p (pI 25))) fr up (fun r1 f1 u1 =>
  headK (look' 1 e) (fun v1 => headK (look' 3 e) (fun v3 => headK r1 (fun v63 => k .normal [(1, v1), (3, v3), (63, v63)] f1 u1))))

noncomputable def g11_31 (C : Go.ScE.Callee) : Env → Fram → List Fram → KX → R0 := fun e fr up k =>
  hBin .add false (.c (.p (pI 0))) (demK (demK (look' 3 e))) fr up (fun r3 f3 u3 =>
  hBin .sub false (demK r3) (.c (.p (pI 1))) f3 u3 (fun r4 f4 u4 =>
  hCall C 31 [(demK (demK (look' 1 e))), (demK (demK (look' 3 e))), (.c (.p (pI 0))), (demK r4)] f4 u4 (fun r5 f5 u5 =>
  headK (look' 1 e) (fun v1 => headK (look' 3 e) (fun v3 => k .normal [(1, v1), (3, v3)] f5 u5)))))

noncomputable def g11_32 (C : Go.ScE.Callee) : Env → Fram → List Fram → KX → R0 := fun e fr up k =>
  hBin .add false (demK (demK (look' 3 e))) (.c (.p (pI 1))) fr up (fun r1 f1 u1 =>
  headK (look' 1 e) (fun v1 => headK (demK r1) (fun v3 => k .normal [(1, v1), (3, v3)] f1 u1)))

noncomputable def g11_33 (C : Go.ScE.Callee) : Env → Fram → List Fram → KX → R0 := fun e fr up k =>
  hCall C 39 [(demK (demK (look' 1 e))), (.c (.p (pI 31)))] fr up (fun r1 f1 u1 =>
  headK (look' 1 e) (fun v1 => k .normal [(1, v1)] f1 u1))

noncomputable def g11_34 (C : Go.ScE.Callee) : Env → Fram → List Fram → KX → R0 := fun e fr up k =>
  hCall C 27 [(demK (demK (look' 1 e))), (.c (.p (pI 1002)))] fr up (fun r1 f1 u1 =>
  headK (look' 1 e) (fun v1 => k .normal [(1, v1)] f1 u1))

noncomputable def g11_35 (C : Go.ScE.Callee) : Env → Fram → List Fram → KX → R0 := fun e fr up k =>
  hCall C 29 [(demK (demK (look' 1 e))), (.c (.p (pI 26))), (.c (.p (pI 95)))] fr up (fun r1 f1 u1 =>
  headK (look' 1 e) (fun v1 => k .normal [(1, v1)] f1 u1))

noncomputable def g11_36 (C : Go.ScE.Callee) : Env → Fram → List Fram → KX → R0 := fun e fr up k =>
  hCall C 40 [(demK (demK (look' 1 e)))] fr up (fun r1 f1 u1 =>
  headK (look' 1 e) (fun v1 => k .normal [(1, v1)] f1 u1))

noncomputable def g11_37 (C : Go.ScE.Callee) : Env → Fram → List Fram → KX → R0 := fun e fr up k =>
  hGen C (.nck) [(demK (demK (look' 1 e)))] fr up (fun r1 f1 u1 =>
  hFa 0 (demK r1) f1 u1 (fun r2 f2 u2 =>
  hLd false 1 false (demK r2) f2 u2 (fun r3 f3 u3 =>
  headK r3 (fun v0 => k .normal [(0, v0)] f3 u3))))

noncomputable def h11 : KC := fun C n => seqK (g11_0 C) (seqK (g11_1 C) (seqK (g11_2 C) (seqK (seqK (g11_3 C) (blockK 0 (loopsK [1, 2] [0] (seqK (seqK (g11_4 C) (condK (.t 9) (skipK) (exitK 0))) (seqK (blockK 1 (g11_5 C)) (g11_6 C))) n))) (seqK (g11_7 C) (seqK (g11_8 C) (seqK (g11_9 C) (seqK (g11_10 C) (seqK (g11_11 C) (seqK (g11_12 C) (seqK (g11_13 C) (seqK (g11_14 C) (seqK (g11_15 C) (seqK (g11_16 C) (seqK (g11_17 C) (seqK (g11_18 C) (seqK (g11_19 C) (seqK (g11_20 C) (seqK (g11_21 C) (seqK (g11_22 C) (seqK (g11_23 C) (seqK (g11_24 C) (seqK (g11_25 C) (seqK (g11_26 C) (seqK (g11_27 C) (seqK (g11_28 C) (seqK (seqK (g11_29 C) (blockK 2 (loopsK [1, 3] [0] (seqK (seqK (g11_30 C) (condK (.t 63) (skipK) (exitK 2))) (seqK (blockK 3 (g11_31 C)) (g11_32 C))) n))) (seqK (g11_33 C) (seqK (g11_34 C) (seqK (g11_35 C) (seqK (g11_36 C) (seqK (g11_37 C) (retK))))))))))))))))))))))))))))))))
theorem h11_eq (C : Go.ScE.Callee) (n : Nat) : h11 C n = evK C n x11.body := by kernel_rfl

noncomputable def g12_0 (C : Go.ScE.Callee) : Env → Fram → List Fram → KX → R0 := fun e fr up k =>
  headK (look' 0 e) (fun v0 => headK (look' 1 e) (fun v1 => k .normal [(0, v0), (1, v1)] fr up))

noncomputable def g12_1 (C : Go.ScE.Callee) : Env → Fram → List Fram → KX → R0 := fun e fr up k =>
  hCall C 13 [(.c (.p (pI 10)))] fr up (fun r0 f0 u0 =>
  hBlds 8 [(pI 0), (pI 0), (pI 0), (pI 0), (pI 0), (pI 0), (pI 0), (pI 0)] 1 [0] [(demK r0)] f0 u0 (fun r1 f1 u1 =>
  headK (look' 0 e) (fun v0 => headK (look' 1 e) (fun v1 => headK r1 (fun v5 => k .normal [(0, v0), (1, v1), (5, v5)] f1 u1)))))

noncomputable def g12_2 (C : Go.ScE.Callee) : Env → Fram → List Fram → KX → R0 := fun e fr up k =>
  hCall C 41 [(.c (.p (pI 0))), (.c (.p (pI 0))), (.c (.p (pI 51)))] fr up (fun r1 f1 u1 =>
  hApp 8 64 (look' 5 e) (demK r1) f1 u1 (fun r2 f2 u2 =>
  headK (look' 0 e) (fun v0 => headK (look' 1 e) (fun v1 => headK r2 (fun v5 => k .normal [(0, v0), (1, v1), (5, v5)] f2 u2)))))

noncomputable def g12_3 (C : Go.ScE.Callee) : Env → Fram → List Fram → KX → R0 := fun e fr up k =>
  headK (look' 0 e) (fun v0 => headK (look' 1 e) (fun v1 => headK (look' 5 e) (fun v5 => headK (.c (.p (pI 0))) (fun v6 => k .normal [(0, v0), (1, v1), (5, v5), (6, v6)] fr up))))

noncomputable def g12_4 (C : Go.ScE.Callee) : Env → Fram → List Fram → KX → R0 := fun e fr up k =>
  hLenL  (demK (demK (look' 0 e))) fr up (fun r2 f2 u2 =>
  hBin .lss false (demK (demK (look' 6 e))) (demK r2) f2 u2 (fun r3 f3 u3 =>
  headK (look' 0 e) (fun v0 => headK (look' 1 e) (fun v1 => headK (look' 5 e) (fun v5 => headK (look' 6 e) (fun v6 => headK r3 (fun v16 => k .normal [(0, v0), (1, v1), (5, v5), (6, v6), (16, v16)] f3 u3)))))))

noncomputable def g12_5 (C : Go.ScE.Callee) : Env → Fram → List Fram → KX → R0 := fun e fr up k =>
  hIa 3 (demK (demK (look' 0 e))) (demK (demK (look' 6 e))) fr up (fun r2 f2 u2 =>
  hLd true 3 false (demK r2) f2 u2 (fun r3 f3 u3 =>
  hCall C 19 [(demK r3)] f3 u3 (fun r4 f4 u4 =>
  hGen C (.alloc 0 true [(pI 0), (pI 0), (pI 0)]) [] f4 u4 (fun r5 f5 u5 =>
  hSt 3 (demK r5) (demK r4) f5 u5 (fun r6 f6 u6 =>
  headK (look' 0 e) (fun v0 => headK (look' 1 e) (fun v1 => headK (look' 5 e) (fun v5 => headK (look' 6 e) (fun v6 => headK r5 (fun v7 => k .normal [(0, v0), (1, v1), (5, v5), (6, v6), (7, v7)] f6 u6))))))))))

noncomputable def g12_6 (C : Go.ScE.Callee) : Env → Fram → List Fram → KX → R0 := fun e fr up k =>
  hIa 3 (demK (demK (look' 0 e))) (demK (demK (look' 6 e))) fr up (fun r2 f2 u2 =>
  hFa 0 (demK r2) f2 u2 (fun r3 f3 u3 =>
  hLd false 1 false (demK r3) f3 u3 (fun r4 f4 u4 =>
  headK (look' 0 e) (fun v0 => headK (look' 1 e) (fun v1 => headK (look' 5 e) (fun v5 => headK (look' 6 e) (fun v6 => headK (look' 7 e) (fun v7 => headK r4 (fun v28 => k .normal [(0, v0), (1, v1), (5, v5), (6, v6), (7, v7), (28, v28)] f4 u4)))))))))

noncomputable def g12_7 (C : Go.ScE.Callee) : Env → Fram → List Fram → KX → R0 := fun e fr up k =>
  hBin .eql false (demK (look' 28 e)) (.c (.p (pI 0))) fr up (fun r0 f0 u0 =>
  headK (look' 0 e) (fun v0 => headK (look' 1 e) (fun v1 => headK (look' 5 e) (fun v5 => headK (look' 6 e) (fun v6 => headK (look' 7 e) (fun v7 => headK (look' 28 e) (fun v28 => headK (demK r0) (fun v29 => k .normal [(0, v0), (1, v1), (5, v5), (6, v6), (7, v7), (28, v28), (29, v29)] f0 u0))))))))

noncomputable def g12_8 (C : Go.ScE.Callee) : Env → Fram → List Fram → KX → R0 := fun e fr up k =>
  hFa 1 (demK (look' 7 e)) fr up (fun r1 f1 u1 =>
  hLd false 1 false (demK r1) f1 u1 (fun r2 f2 u2 =>
  hFa 2 (demK (look' 7 e)) f2 u2 (fun r3 f3 u3 =>
  hLd false 1 false (demK r3) f3 u3 (fun r4 f4 u4 =>
  hCall C 41 [(demK r2), (demK r4), (.c (.p (pI 50)))] f4 u4 (fun r5 f5 u5 =>
  hApp 8 64 (look' 5 e) (demK r5) f5 u5 (fun r6 f6 u6 =>
  headK (look' 0 e) (fun v0 => headK (look' 1 e) (fun v1 => headK r6 (fun v5 => headK (look' 6 e) (fun v6 => k .normal [(0, v0), (1, v1), (5, v5), (6, v6)] f6 u6))))))))))

noncomputable def g12_9 (C : Go.ScE.Callee) : Env → Fram → List Fram → KX → R0 := fun e fr up k =>
  hBin .eql false (demK (look' 28 e)) (.c (.p (pI 1))) fr up (fun r0 f0 u0 =>
  headK (look' 0 e) (fun v0 => headK (look' 1 e) (fun v1 => headK (look' 5 e) (fun v5 => headK (look' 6 e) (fun v6 => headK (look' 28 e) (fun v28 => headK (demK r0) (fun v38 => k .normal [(0, v0), (1, v1), (5, v5), (6, v6), (28, v28), (38, v38)] f0 u0)))))))

noncomputable def g12_10 (C : Go.ScE.Callee) : Env → Fram → List Fram → KX → R0 := fun e fr up k =>
  hCall C 15 [(.c (.p (pI 31))), (.c (.p (pI 6)))] fr up (fun r1 f1 u1 =>
  hBlds 8 [(pI 0), (pI 0), (pI 0), (pI 0), (pI 0), (pI 0), (pI 0), (pI 0)] 1 [0] [(demK r1)] f1 u1 (fun r2 f2 u2 =>
  hApp 8 64 (look' 5 e) (demK r2) f2 u2 (fun r3 f3 u3 =>
  headK (look' 0 e) (fun v0 => headK (look' 1 e) (fun v1 => headK r3 (fun v5 => headK (look' 6 e) (fun v6 => k .normal [(0, v0), (1, v1), (5, v5), (6, v6)] f3 u3)))))))

noncomputable def g12_11 (C : Go.ScE.Callee) : Env → Fram → List Fram → KX → R0 := fun e fr up k =>
  hBin .eql false (demK (look' 28 e)) (.c (.p (pI 2))) fr up (fun r0 f0 u0 =>
  headK (look' 0 e) (fun v0 => headK (look' 1 e) (fun v1 => headK (look' 5 e) (fun v5 => headK (look' 6 e) (fun v6 => headK (look' 28 e) (fun v28 => headK (demK r0) (fun v44 => k .normal [(0, v0), (1, v1), (5, v5), (6, v6), (28, v28), (44, v44)] f0 u0)))))))

noncomputable def g12_12 (C : Go.ScE.Callee) : Env → Fram → List Fram → KX → R0 := fun e fr up k =>
  hCall C 17 [(.c (.p (pI 26))), (.c (.p (pI 0)))] fr up (fun r1 f1 u1 =>
  hCall C 15 [(.c (.p (pI 31))), (.c (.p (pI 1)))] f1 u1 (fun r2 f2 u2 =>
  hBlds 8 [(pI 0), (pI 0), (pI 0), (pI 0), (pI 0), (pI 0), (pI 0), (pI 0)] 2 [0, 1] [(demK r1), (demK r2)] f2 u2 (fun r3 f3 u3 =>
  hApp 8 64 (look' 5 e) (demK r3) f3 u3 (fun r4 f4 u4 =>
  headK (look' 0 e) (fun v0 => headK (look' 1 e) (fun v1 => headK r4 (fun v5 => headK (look' 6 e) (fun v6 => k .normal [(0, v0), (1, v1), (5, v5), (6, v6)] f4 u4))))))))

noncomputable def g12_13 (C : Go.ScE.Callee) : Env → Fram → List Fram → KX → R0 := fun e fr up k =>
  hBin .eql false (demK (look' 28 e)) (.c (.p (pI 3))) fr up (fun r0 f0 u0 =>
  headK (look' 0 e) (fun v0 => headK (look' 1 e) (fun v1 => headK (look' 5 e) (fun v5 => headK (look' 6 e) (fun v6 => headK (demK r0) (fun v51 => k .normal [(0, v0), (1, v1), (5, v5), (6, v6), (51, v51)] f0 u0))))))

noncomputable def g12_14 (C : Go.ScE.Callee) : Env → Fram → List Fram → KX → R0 := fun e fr up k =>
  hBin .add false (.c (.p (pI 100))) (demK (demK (look' 6 e))) fr up (fun r2 f2 u2 =>
  hCall C 41 [(.c (.p (pI 0))), (.c (.p (pI 0))), (demK r2)] f2 u2 (fun r3 f3 u3 =>
  hApp 8 64 (look' 5 e) (demK r3) f3 u3 (fun r4 f4 u4 =>
  headK (look' 0 e) (fun v0 => headK (look' 1 e) (fun v1 => headK r4 (fun v5 => headK (look' 6 e) (fun v6 => k .normal [(0, v0), (1, v1), (5, v5), (6, v6)] f4 u4)))))))

noncomputable def g12_15 (C : Go.ScE.Callee) : Env → Fram → List Fram → KX → R0 := fun e fr up k =>
  hCall C 17 [(.c (.p (pI 26))), (.c (.p (pI 2)))] fr up (fun r1 f1 u1 =>
  hCall C 15 [(.c (.p (pI 31))), (.c (.p (pI 2)))] f1 u1 (fun r2 f2 u2 =>
  hCall C 17 [(.c (.p (pI 27))), (.c (.p (pI 111)))] f2 u2 (fun r3 f3 u3 =>
  hCall C 14 [(.c (.p (pI 23))), (.c (.p (pI 27))), (.c (.p (pI 29))), (.c (.p (pI 0)))] f3 u3 (fun r4 f4 u4 =>
  hCall C 16 [(.c (.p (pI 27))), (.c (.p (pI 52)))] f4 u4 (fun r5 f5 u5 =>
  hCall C 14 [(.c (.p (pI 18))), (.c (.p (pI 27))), (.c (.p (pI 27))), (.c (.p (pI 3)))] f5 u5 (fun r6 f6 u6 =>
  hCall C 14 [(.c (.p (pI 23))), (.c (.p (pI 27))), (.c (.p (pI 29))), (.c (.p (pI 1)))] f6 u6 (fun r7 f7 u7 =>
  hCall C 14 [(.c (.p (pI 18))), (.c (.p (pI 25))), (.c (.p (pI 29))), (.c (.p (pI 3)))] f7 u7 (fun r8 f8 u8 =>
  hCall C 14 [(.c (.p (pI 17))), (.c (.p (pI 25))), (.c (.p (pI 25))), (.c (.p (pI 1)))] f8 u8 (fun r9 f9 u9 =>
  hCall C 14 [(.c (.p (pI 15))), (.c (.p (pI 29))), (.c (.p (pI 29))), (.c (.p (pI 2)))] f9 u9 (fun r10 f10 u10 =>
  hBlds 8 [(pI 0), (pI 0), (pI 0), (pI 0), (pI 0), (pI 0), (pI 0), (pI 0)] 10 [0, 1, 2, 3, 4, 5, 6, 7, 8, 9] [(demK r1), (demK r2), (demK r3), (demK r4), (demK r5), (demK r6), (demK r7), (demK r8), (demK r9), (demK r10)] f10 u10 (fun r11 f11 u11 =>
  hApp 8 64 (look' 5 e) (demK r11) f11 u11 (fun r12 f12 u12 =>
  headK (look' 0 e) (fun v0 => headK (look' 1 e) (fun v1 => headK r12 (fun v5 => headK (look' 6 e) (fun v6 => k .normal [(0, v0), (1, v1), (5, v5), (6, v6)] f12 u12))))))))))))))))

noncomputable def g12_16 (C : Go.ScE.Callee) : Env → Fram → List Fram → KX → R0 := fun e fr up k =>
  hCall C 15 [(.c (.p (pI 0))), (.c (.p (pI 7)))] fr up (fun r1 f1 u1 =>
  hBin .add false (.c (.p (pI 100))) (demK (demK (look' 6 e))) f1 u1 (fun r3 f3 u3 =>
  hCall C 13 [(demK r3)] f3 u3 (fun r4 f4 u4 =>
  hCall C 14 [(.c (.p (pI 15))), (.c (.p (pI 30))), (.c (.p (pI 30))), (.c (.p (pI (-1))))] f4 u4 (fun r5 f5 u5 =>
  hBlds 8 [(pI 0), (pI 0), (pI 0), (pI 0), (pI 0), (pI 0), (pI 0), (pI 0)] 3 [0, 1, 2] [(demK r1), (demK r4), (demK r5)] f5 u5 (fun r6 f6 u6 =>
  hApp 8 64 (look' 5 e) (demK r6) f6 u6 (fun r7 f7 u7 =>
  headK (look' 0 e) (fun v0 => headK (look' 1 e) (fun v1 => headK r7 (fun v5 => headK (look' 6 e) (fun v6 => k .normal [(0, v0), (1, v1), (5, v5), (6, v6)] f7 u7))))))))))

noncomputable def g12_17 (C : Go.ScE.Callee) : Env → Fram → List Fram → KX → R0 := fun e fr up k =>
  hBin .add false (demK (demK (look' 6 e))) (.c (.p (pI 1))) fr up (fun r1 f1 u1 =>
  headK (look' 0 e) (fun v0 => headK (look' 1 e) (fun v1 => headK (look' 5 e) (fun v5 => headK (demK r1) (fun v6 => k .normal [(0, v0), (1, v1), (5, v5), (6, v6)] f1 u1)))))

noncomputable def g12_18 (C : Go.ScE.Callee) : Env → Fram → List Fram → KX → R0 := fun e fr up k =>
  hCall C 17 [(.c (.p (pI 1))), (.c (.p (pI 0)))] fr up (fun r1 f1 u1 =>
  hCall C 15 [(.c (.p (pI 0))), (.c (.p (pI 4)))] f1 u1 (fun r2 f2 u2 =>
  hBlds 8 [(pI 0), (pI 0), (pI 0), (pI 0), (pI 0), (pI 0), (pI 0), (pI 0)] 2 [0, 1] [(demK r1), (demK r2)] f2 u2 (fun r3 f3 u3 =>
  hApp 8 64 (look' 5 e) (demK r3) f3 u3 (fun r4 f4 u4 =>
  headK (look' 1 e) (fun v1 => headK r4 (fun v5 => k .normal [(1, v1), (5, v5)] f4 u4))))))

noncomputable def g12_19 (C : Go.ScE.Callee) : Env → Fram → List Fram → KX → R0 := fun e fr up k =>
  hCall C 13 [(.c (.p (pI 50)))] fr up (fun r1 f1 u1 =>
  hCall C 14 [(.c (.p (pI 22))), (.c (.p (pI 26))), (.c (.p (pI 30))), (.c (.p (pI (-1))))] f1 u1 (fun r2 f2 u2 =>
  hCall C 14 [(.c (.p (pI 19))), (.c (.p (pI 26))), (.c (.p (pI 26))), (.c (.p (pI 3)))] f2 u2 (fun r3 f3 u3 =>
  hCall C 14 [(.c (.p (pI 16))), (.c (.p (pI 26))), (.c (.p (pI 26))), (.c (.p (pI 4095)))] f3 u3 (fun r4 f4 u4 =>
  hCall C 14 [(.c (.p (pI 15))), (.c (.p (pI 30))), (.c (.p (pI 30))), (.c (.p (pI (-1))))] f4 u4 (fun r5 f5 u5 =>
  hBlds 8 [(pI 0), (pI 0), (pI 0), (pI 0), (pI 0), (pI 0), (pI 0), (pI 0)] 5 [0, 1, 2, 3, 4] [(demK r1), (demK r2), (demK r3), (demK r4), (demK r5)] f5 u5 (fun r6 f6 u6 =>
  hApp 8 64 (look' 5 e) (demK r6) f6 u6 (fun r7 f7 u7 =>
  headK (look' 1 e) (fun v1 => headK r7 (fun v5 => k .normal [(1, v1), (5, v5)] f7 u7)))))))))

noncomputable def g12_20 (C : Go.ScE.Callee) : Env → Fram → List Fram → KX → R0 := fun e fr up k =>
  hCall C 13 [(.c (.p (pI 60)))] fr up (fun r1 f1 u1 =>
  hCall C 42 [(.c (.p (pI 24))), (.c (.p (pI 26))), (.c (.p (pI 0))), (.c (.p (pI 61)))] f1 u1 (fun r2 f2 u2 =>
  hCall C 14 [(.c (.p (pI 15))), (.c (.p (pI 30))), (.c (.p (pI 30))), (.c (.p (pI (-1))))] f2 u2 (fun r3 f3 u3 =>
  hCall C 14 [(.c (.p (pI 22))), (.c (.p (pI 27))), (.c (.p (pI 30))), (.c (.p (pI 0)))] f3 u3 (fun r4 f4 u4 =>
  hCall C 14 [(.c (.p (pI 19))), (.c (.p (pI 27))), (.c (.p (pI 27))), (.c (.p (pI 3)))] f4 u4 (fun r5 f5 u5 =>
  hCall C 14 [(.c (.p (pI 31))), (.c (.p (pI 27))), (.c (.p (pI 0))), (.c (.p (pI 0)))] f5 u5 (fun r6 f6 u6 =>
  hCall C 14 [(.c (.p (pI 15))), (.c (.p (pI 26))), (.c (.p (pI 26))), (.c (.p (pI (-1))))] f6 u6 (fun r7 f7 u7 =>
  hCall C 15 [(.c (.p (pI 0))), (.c (.p (pI 60)))] f7 u7 (fun r8 f8 u8 =>
  hCall C 13 [(.c (.p (pI 61)))] f8 u8 (fun r9 f9 u9 =>
  hCall C 15 [(.c (.p (pI 0))), (.c (.p (pI 4)))] f9 u9 (fun r10 f10 u10 =>
  hBlds 8 [(pI 0), (pI 0), (pI 0), (pI 0), (pI 0), (pI 0), (pI 0), (pI 0)] 10 [0, 1, 2, 3, 4, 5, 6, 7, 8, 9] [(demK r1), (demK r2), (demK r3), (demK r4), (demK r5), (demK r6), (demK r7), (demK r8), (demK r9), (demK r10)] f10 u10 (fun r11 f11 u11 =>
  hApp 8 64 (look' 5 e) (demK r11) f11 u11 (fun r12 f12 u12 =>
  headK (look' 1 e) (fun v1 => headK r12 (fun v5 => k .normal [(1, v1), (5, v5)] f12 u12))))))))))))))

noncomputable def g12_21 (C : Go.ScE.Callee) : Env → Fram → List Fram → KX → R0 := fun e fr up k =>
  hCall C 13 [(.c (.p (pI 51)))] fr up (fun r1 f1 u1 =>
  hCall C 14 [(.c (.p (pI 15))), (.c (.p (pI 30))), (.c (.p (pI 30))), (.c (.p (pI (-1))))] f1 u1 (fun r2 f2 u2 =>
  hCall C 14 [(.c (.p (pI 22))), (.c (.p (pI 26))), (.c (.p (pI 0))), (demK (demK (look' 1 e)))] f2 u2 (fun r4 f4 u4 =>
  hCall C 42 [(.c (.p (pI 24))), (.c (.p (pI 26))), (.c (.p (pI 0))), (.c (.p (pI 61)))] f4 u4 (fun r5 f5 u5 =>
  hCall C 14 [(.c (.p (pI 15))), (.c (.p (pI 26))), (.c (.p (pI 26))), (.c (.p (pI (-1))))] f5 u5 (fun r6 f6 u6 =>
  hCall C 14 [(.c (.p (pI 23))), (.c (.p (pI 26))), (.c (.p (pI 0))), (demK (demK (look' 1 e)))] f6 u6 (fun r8 f8 u8 =>
  hBlds 8 [(pI 0), (pI 0), (pI 0), (pI 0), (pI 0), (pI 0), (pI 0), (pI 0)] 6 [0, 1, 2, 3, 4, 5] [(demK r1), (demK r2), (demK r4), (demK r5), (demK r6), (demK r8)] f8 u8 (fun r9 f9 u9 =>
  hApp 8 64 (look' 5 e) (demK r9) f9 u9 (fun r10 f10 u10 =>
  headK r10 (fun v5 => k .normal [(5, v5)] f10 u10)))))))))

noncomputable def g12_22 (C : Go.ScE.Callee) : Env → Fram → List Fram → KX → R0 := fun e fr up k =>
  hCall C 14 [(.c (.p (pI 22))), (.c (.p (pI 25))), (.c (.p (pI 0))), (.c (.p (pI 26)))] fr up (fun r1 f1 u1 =>
  hCall C 14 [(.c (.p (pI 16))), (.c (.p (pI 26))), (.c (.p (pI 25))), (.c (.p (pI 7)))] f1 u1 (fun r2 f2 u2 =>
  hCall C 17 [(.c (.p (pI 27))), (.c (.p (pI 1)))] f2 u2 (fun r3 f3 u3 =>
  hCall C 42 [(.c (.p (pI 25))), (.c (.p (pI 26))), (.c (.p (pI 27))), (.c (.p (pI 61)))] f3 u3 (fun r4 f4 u4 =>
  hCall C 17 [(.c (.p (pI 1))), (.c (.p (pI 0)))] f4 u4 (fun r5 f5 u5 =>
  hCall C 17 [(.c (.p (pI 28))), (.c (.p (pI 1)))] f5 u5 (fun r6 f6 u6 =>
  hCall C 15 [(.c (.p (pI 0))), (.c (.p (pI 3)))] f6 u6 (fun r7 f7 u7 =>
  hBlds 8 [(pI 0), (pI 0), (pI 0), (pI 0), (pI 0), (pI 0), (pI 0), (pI 0)] 7 [0, 1, 2, 3, 4, 5, 6] [(demK r1), (demK r2), (demK r3), (demK r4), (demK r5), (demK r6), (demK r7)] f7 u7 (fun r8 f8 u8 =>
  hApp 8 64 (look' 5 e) (demK r8) f8 u8 (fun r9 f9 u9 =>
  headK r9 (fun v5 => k .normal [(5, v5)] f9 u9))))))))))

noncomputable def g12_23 (C : Go.ScE.Callee) : Env → Fram → List Fram → KX → R0 := fun e fr up k =>
  hCall C 13 [(.c (.p (pI 52)))] fr up (fun r1 f1 u1 =>
  hCall C 14 [(.c (.p (pI 23))), (.c (.p (pI 1))), (.c (.p (pI 0))), (.c (.p (pI 26)))] f1 u1 (fun r2 f2 u2 =>
  hCall C 17 [(.c (.p (pI 1))), (.c (.p (pI 0)))] f2 u2 (fun r3 f3 u3 =>
  hCall C 15 [(.c (.p (pI 0))), (.c (.p (pI 4)))] f3 u3 (fun r4 f4 u4 =>
  hBlds 8 [(pI 0), (pI 0), (pI 0), (pI 0), (pI 0), (pI 0), (pI 0), (pI 0)] 4 [0, 1, 2, 3] [(demK r1), (demK r2), (demK r3), (demK r4)] f4 u4 (fun r5 f5 u5 =>
  hApp 8 64 (look' 5 e) (demK r5) f5 u5 (fun r6 f6 u6 =>
  headK r6 (fun v5 => k .normal [(5, v5)] f6 u6)))))))

noncomputable def g12_24 (C : Go.ScE.Callee) : Env → Fram → List Fram → KX → R0 := fun e fr up k =>
  headK (look' 5 e) (fun v4 => k .normal [(4, v4)] fr up)

noncomputable def h12 : KC := fun C n => seqK (g12_0 C) (seqK (g12_1 C) (seqK (g12_2 C) (seqK (seqK (g12_3 C) (blockK 0 (loopsK [0, 1, 5, 6] [] (seqK (seqK (g12_4 C) (condK (.t 16) (skipK) (exitK 0))) (seqK (blockK 1 (seqK (g12_5 C) (seqK (g12_6 C) (blockK 2 (seqK (g12_7 C) (condK (.t 29) (g12_8 C) (seqK (g12_9 C) (condK (.t 38) (g12_10 C) (seqK (g12_11 C) (condK (.t 44) (g12_12 C) (seqK (g12_13 C) (condK (.t 51) (seqK (g12_14 C) (seqK (g12_15 C) (g12_16 C))) (skipK))))))))))))) (g12_17 C))) n))) (seqK (g12_18 C) (seqK (g12_19 C) (seqK (g12_20 C) (seqK (g12_21 C) (seqK (g12_22 C) (seqK (g12_23 C) (seqK (g12_24 C) (retK)))))))))))
theorem h12_eq (C : Go.ScE.Callee) (n : Nat) : h12 C n = evK C n x12.body := by kernel_rfl

noncomputable def g13_0 (C : Go.ScE.Callee) : Env → Fram → List Fram → KX → R0 := fun e fr up k =>
  hGen C (.alloc 0 true [(pI 0), (pI 0), (pI 0), (pI 0), (pI 0), (pI 0), (pI 0), (pI 0)]) [] fr up (fun r0 f0 u0 =>
  headK (look' 0 e) (fun v0 => headK r0 (fun v2 => k .normal [(0, v0), (2, v2)] f0 u0)))

noncomputable def g13_1 (C : Go.ScE.Callee) : Env → Fram → List Fram → KX → R0 := fun e fr up k =>
  hBld [(pI 0), (pI 0), (pI 0), (pI 0), (pI 0), (pI 0), (pI 0), (pI 0)] [(0, 1), (6, 1)] [(.c (.p (pI 1))), (demK (demK (look' 0 e)))] fr up (fun r1 f1 u1 =>
  hSt 8 (demK (look' 2 e)) (demK r1) f1 u1 (fun r2 f2 u2 =>
  headK (look' 2 e) (fun v2 => k .normal [(2, v2)] f2 u2)))

noncomputable def h13 : KC := fun C n => seqK (g13_0 C) (seqK (g13_1 C) (retK))
theorem h13_eq (C : Go.ScE.Callee) (n : Nat) : h13 C n = evK C n x13.body := by kernel_rfl

noncomputable def g14_0 (C : Go.ScE.Callee) : Env → Fram → List Fram → KX → R0 := fun e fr up k =>
  hGen C (.alloc 0 true [(pI 0), (pI 0), (pI 0), (pI 0), (pI 0), (pI 0), (pI 0), (pI 0)]) [] fr up (fun r0 f0 u0 =>
  headK (look' 0 e) (fun v0 => headK (look' 1 e) (fun v1 => headK (look' 2 e) (fun v2 => headK (look' 3 e) (fun v3 => headK r0 (fun v8 => k .normal [(0, v0), (1, v1), (2, v2), (3, v3), (8, v8)] f0 u0))))))

noncomputable def g14_1 (C : Go.ScE.Callee) : Env → Fram → List Fram → KX → R0 := fun e fr up k =>
  hBld [(pI 0), (pI 0), (pI 0), (pI 0), (pI 0)] [(0, 1), (1, 1), (2, 1), (4, 1)] [(demK (demK (look' 0 e))), (demK (demK (look' 1 e))), (demK (demK (look' 2 e))), (demK (demK (look' 3 e)))] fr up (fun r4 f4 u4 =>
  hBld [(pI 0), (pI 0), (pI 0), (pI 0), (pI 0), (pI 0), (pI 0), (pI 0)] [(1, 5)] [(demK r4)] f4 u4 (fun r5 f5 u5 =>
  hSt 8 (demK (look' 8 e)) (demK r5) f5 u5 (fun r6 f6 u6 =>
  headK (look' 8 e) (fun v8 => k .normal [(8, v8)] f6 u6))))

noncomputable def h14 : KC := fun C n => seqK (g14_0 C) (seqK (g14_1 C) (retK))
theorem h14_eq (C : Go.ScE.Callee) (n : Nat) : h14 C n = evK C n x14.body := by kernel_rfl

noncomputable def g15_0 (C : Go.ScE.Callee) : Env → Fram → List Fram → KX → R0 := fun e fr up k =>
  hGen C (.alloc 0 true [(pI 0), (pI 0), (pI 0), (pI 0), (pI 0), (pI 0), (pI 0), (pI 0)]) [] fr up (fun r0 f0 u0 =>
  headK (look' 0 e) (fun v0 => headK (look' 1 e) (fun v1 => headK r0 (fun v4 => k .normal [(0, v0), (1, v1), (4, v4)] f0 u0))))

noncomputable def g15_1 (C : Go.ScE.Callee) : Env → Fram → List Fram → KX → R0 := fun e fr up k =>
  hBld [(pI 0), (pI 0), (pI 0), (pI 0), (pI 0)] [(0, 1), (1, 1)] [(.c (.p (pI 28))), (demK (demK (look' 0 e)))] fr up (fun r1 f1 u1 =>
  hBld [(pI 0), (pI 0), (pI 0), (pI 0), (pI 0), (pI 0), (pI 0), (pI 0)] [(0, 1), (1, 5), (6, 1)] [(.c (.p (pI 3))), (demK r1), (demK (demK (look' 1 e)))] f1 u1 (fun r3 f3 u3 =>
  hSt 8 (demK (look' 4 e)) (demK r3) f3 u3 (fun r4 f4 u4 =>
  headK (look' 4 e) (fun v4 => k .normal [(4, v4)] f4 u4))))

noncomputable def h15 : KC := fun C n => seqK (g15_0 C) (seqK (g15_1 C) (retK))
theorem h15_eq (C : Go.ScE.Callee) (n : Nat) : h15 C n = evK C n x15.body := by kernel_rfl

noncomputable def g16_0 (C : Go.ScE.Callee) : Env → Fram → List Fram → KX → R0 := fun e fr up k =>
  hGen C (.alloc 0 true [(pI 0), (pI 0), (pI 0), (pI 0), (pI 0), (pI 0), (pI 0), (pI 0)]) [] fr up (fun r0 f0 u0 =>
  headK (look' 0 e) (fun v0 => headK (look' 1 e) (fun v1 => headK r0 (fun v4 => k .normal [(0, v0), (1, v1), (4, v4)] f0 u0))))

noncomputable def g16_1 (C : Go.ScE.Callee) : Env → Fram → List Fram → KX → R0 := fun e fr up k =>
  hBld [(pI 0), (pI 0), (pI 0), (pI 0), (pI 0)] [(0, 1), (1, 1)] [(.c (.p (pI 20))), (demK (demK (look' 0 e)))] fr up (fun r1 f1 u1 =>
  hBld [(pI 0), (pI 0), (pI 0), (pI 0), (pI 0), (pI 0), (pI 0), (pI 0)] [(0, 1), (1, 5), (6, 1)] [(.c (.p (pI 5))), (demK r1), (demK (demK (look' 1 e)))] f1 u1 (fun r3 f3 u3 =>
  hSt 8 (demK (look' 4 e)) (demK r3) f3 u3 (fun r4 f4 u4 =>
  headK (look' 4 e) (fun v4 => k .normal [(4, v4)] f4 u4))))

noncomputable def h16 : KC := fun C n => seqK (g16_0 C) (seqK (g16_1 C) (retK))
theorem h16_eq (C : Go.ScE.Callee) (n : Nat) : h16 C n = evK C n x16.body := by kernel_rfl

noncomputable def g17_0 (C : Go.ScE.Callee) : Env → Fram → List Fram → KX → R0 := fun e fr up k =>
  hGen C (.alloc 0 true [(pI 0), (pI 0), (pI 0), (pI 0), (pI 0), (pI 0), (pI 0), (pI 0)]) [] fr up (fun r0 f0 u0 =>
  headK (look' 0 e) (fun v0 => headK (look' 1 e) (fun v1 => headK r0 (fun v4 => k .normal [(0, v0), (1, v1), (4, v4)] f0 u0))))

noncomputable def g17_1 (C : Go.ScE.Callee) : Env → Fram → List Fram → KX → R0 := fun e fr up k =>
  hBld [(pI 0), (pI 0), (pI 0), (pI 0), (pI 0)] [(0, 1), (1, 1)] [(.c (.p (pI 20))), (demK (demK (look' 0 e)))] fr up (fun r1 f1 u1 =>
  hBld [(pI 0), (pI 0), (pI 0), (pI 0), (pI 0), (pI 0), (pI 0), (pI 0)] [(0, 1), (1, 5), (7, 1)] [(.c (.p (pI 4))), (demK r1), (demK (demK (look' 1 e)))] f1 u1 (fun r3 f3 u3 =>
  hSt 8 (demK (look' 4 e)) (demK r3) f3 u3 (fun r4 f4 u4 =>
  headK (look' 4 e) (fun v4 => k .normal [(4, v4)] f4 u4))))

noncomputable def h17 : KC := fun C n => seqK (g17_0 C) (seqK (g17_1 C) (retK))
theorem h17_eq (C : Go.ScE.Callee) (n : Nat) : h17 C n = evK C n x17.body := by kernel_rfl

noncomputable def g18_0 (C : Go.ScE.Callee) : Env → Fram → List Fram → KX → R0 := fun e fr up k =>
  headK (look' 0 e) (fun v0 => k .normal [(0, v0)] fr up)

noncomputable def g18_1 (C : Go.ScE.Callee) : Env → Fram → List Fram → KX → R0 := fun e fr up k =>
  hLenL  (demK (demK (look' 0 e))) fr up (fun r1 f1 u1 =>
  hBin .eql false (demK r1) (.c (.p (pI 0))) f1 u1 (fun r2 f2 u2 =>
  guardK false (demK r2) (fun K => K (demK (look' 0 e)) f2 u2) f2 u2 (fun r4 f4 u4 =>
  guardK false (demK r2) (fun K => hIa 8 (demK r4) (.c (.p (pI 0))) f4 u4 K) f4 u4 (fun r5 f5 u5 =>
  guardK false (demK r2) (fun K => hLd true 8 false (demK r5) f5 u5 K) f5 u5 (fun r6 f6 u6 =>
  guardK false (demK r2) (fun K => Bool.rec (motive := fun _ => R0) fail0 (hCall C 13 [(.c (.p (pI 9)))] f6 u6 K) (chkD (.call 13) false [] [(.c (.p (pI 9)))])) f6 u6 (fun r7 f7 u7 =>
  guardK false (demK r2) (fun K => hGen C (.beq true 8) [(demK r6), (demK r7)] f7 u7 K) f7 u7 (fun r8 f8 u8 =>
  hPick  (demK (demK r2)) (.c (.p (pB true))) (demK r8) f8 u8 (fun r9 f9 u9 =>
  headK (look' 0 e) (fun v0 => headK r9 (fun v15 => k .normal [(0, v0), (15, v15)] f9 u9))))))))))

noncomputable def g18_2 (C : Go.ScE.Callee) : Env → Fram → List Fram → KX → R0 := fun e fr up k =>
  headK (.c (.p (pB false))) (fun v2 => k .normal [(2, v2)] fr up)

noncomputable def g18_3 (C : Go.ScE.Callee) : Env → Fram → List Fram → KX → R0 := fun e fr up k =>
  headK (look' 0 e) (fun v0 => headK (.c (.p (pI 0))) (fun v3 => k .normal [(0, v0), (3, v3)] fr up))

noncomputable def g18_4 (C : Go.ScE.Callee) : Env → Fram → List Fram → KX → R0 := fun e fr up k =>
  hLenL  (demK (demK (look' 0 e))) fr up (fun r2 f2 u2 =>
  hBin .lss false (demK (demK (look' 3 e))) (demK r2) f2 u2 (fun r3 f3 u3 =>
  headK (look' 0 e) (fun v0 => headK (look' 3 e) (fun v3 => headK r3 (fun v19 => k .normal [(0, v0), (3, v3), (19, v19)] f3 u3)))))

noncomputable def g18_5 (C : Go.ScE.Callee) : Env → Fram → List Fram → KX → R0 := fun e fr up k =>
  hIa 8 (demK (demK (look' 0 e))) (demK (demK (look' 3 e))) fr up (fun r2 f2 u2 =>
  hFa 6 (demK r2) f2 u2 (fun r3 f3 u3 =>
  hLd false 1 false (demK r3) f3 u3 (fun r4 f4 u4 =>
  headK (look' 0 e) (fun v0 => headK (look' 3 e) (fun v3 => headK (demK r4) (fun v4 => k .normal [(0, v0), (3, v3), (4, v4)] f4 u4))))))

noncomputable def g18_6 (C : Go.ScE.Callee) : Env → Fram → List Fram → KX → R0 := fun e fr up k =>
  hBin .geq false (demK (demK (look' 4 e))) (.c (.p (pI 2000))) fr up (fun r1 f1 u1 =>
  guardK true (demK r1) (fun K => K (demK (look' 4 e)) f1 u1) f1 u1 (fun r3 f3 u3 =>
  guardK true (demK r1) (fun K => hBin .leq false (demK r3) (.c (.p (pI 2999))) f3 u3 K) f3 u3 (fun r4 f4 u4 =>
  hPick  (demK (demK r1)) (demK r4) (.c (.p (pB false))) f4 u4 (fun r5 f5 u5 =>
  guardK false (demK r5) (fun K => K (demK (look' 4 e)) f5 u5) f5 u5 (fun r7 f7 u7 =>
  guardK false (demK r5) (fun K => hBin .geq false (demK r7) (.c (.p (pI 2))) f7 u7 K) f7 u7 (fun r8 f8 u8 =>
  guardK false (demK r5) (fun K => K (demK r8) f8 u8) f8 u8 (fun r9 f9 u9 =>
  guardK true r9 (fun K => K (demK (look' 4 e)) f9 u9) f9 u9 (fun r10 f10 u10 =>
  guardK true r9 (fun K => hBin .leq false (demK r10) (.c (.p (pI 9))) f10 u10 K) f10 u10 (fun r11 f11 u11 =>
  guardK false (demK r5) (fun K => hPick  (demK r9) (demK r11) (.c (.p (pB false))) f11 u11 K) f11 u11 (fun r12 f12 u12 =>
  hPick  (demK (demK r5)) (.c (.p (pB true))) (demK r12) f12 u12 (fun r13 f13 u13 =>
  guardK false (demK r13) (fun K => K (demK (look' 4 e)) f13 u13) f13 u13 (fun r15 f15 u15 =>
  guardK false (demK r13) (fun K => hBin .geq false (demK r15) (.c (.p (pI 11))) f15 u15 K) f15 u15 (fun r16 f16 u16 =>
  guardK false (demK r13) (fun K => K (demK r16) f16 u16) f16 u16 (fun r17 f17 u17 =>
  guardK true r17 (fun K => K (demK (look' 4 e)) f17 u17) f17 u17 (fun r18 f18 u18 =>
  guardK true r17 (fun K => hBin .leq false (demK r18) (.c (.p (pI 26))) f18 u18 K) f18 u18 (fun r19 f19 u19 =>
  guardK false (demK r13) (fun K => hPick  (demK r17) (demK r19) (.c (.p (pB false))) f19 u19 K) f19 u19 (fun r20 f20 u20 =>
  hPick  (demK (demK r13)) (.c (.p (pB true))) (demK r20) f20 u20 (fun r21 f21 u21 =>
  headK (look' 0 e) (fun v0 => headK (look' 3 e) (fun v3 => headK (look' 4 e) (fun v4 => headK (demK r21) (fun v5 => k .normal [(0, v0), (3, v3), (4, v4), (5, v5)] f21 u21))))))))))))))))))))))

noncomputable def g18_7 (C : Go.ScE.Callee) : Env → Fram → List Fram → KX → R0 := fun e fr up k =>
  hIa 8 (demK (demK (look' 0 e))) (demK (demK (look' 3 e))) fr up (fun r2 f2 u2 =>
  hFa 0 (demK r2) f2 u2 (fun r3 f3 u3 =>
  hLd false 1 false (demK r3) f3 u3 (fun r4 f4 u4 =>
  hBin .eql false (demK r4) (.c (.p (pI 1))) f4 u4 (fun r5 f5 u5 =>
  guardK true (demK r5) (fun K => K (demK (look' 5 e)) f5 u5) f5 u5 (fun r7 f7 u7 =>
  guardK true (demK r5) (fun K => hGen C (.un .not) [(demK r7)] f7 u7 K) f7 u7 (fun r8 f8 u8 =>
  hPick  (demK (demK r5)) (demK r8) (.c (.p (pB false))) f8 u8 (fun r9 f9 u9 =>
  guardK false (demK r9) (fun K => K (demK (look' 0 e)) f9 u9) f9 u9 (fun r11 f11 u11 =>
  guardK false (demK r9) (fun K => K (demK (look' 3 e)) f11 u11) f11 u11 (fun r12 f12 u12 =>
  guardK false (demK r9) (fun K => hIa 8 (demK r11) (demK r12) f12 u12 K) f12 u12 (fun r13 f13 u13 =>
  guardK false (demK r9) (fun K => hLd true 8 false (demK r13) f13 u13 K) f13 u13 (fun r14 f14 u14 =>
  guardK false (demK r9) (fun K => hCall C 43 [(demK r14)] f14 u14 K) f14 u14 (fun r15 f15 u15 =>
  guardK false (demK r9) (fun K => K (demK r15) f15 u15) f15 u15 (fun r16 f16 u16 =>
  guardK true r16 (fun K => K (demK (look' 5 e)) f16 u16) f16 u16 (fun r17 f17 u17 =>
  guardK true r16 (fun K => hGen C (.un .not) [(demK r17)] f17 u17 K) f17 u17 (fun r18 f18 u18 =>
  guardK false (demK r9) (fun K => hPick  (demK r16) (demK r18) (.c (.p (pB false))) f18 u18 K) f18 u18 (fun r19 f19 u19 =>
  guardK false (demK r9) (fun K => K (demK r19) f19 u19) f19 u19 (fun r20 f20 u20 =>
  guardK true r20 (fun K => K (demK (look' 4 e)) f20 u20) f20 u20 (fun r21 f21 u21 =>
  guardK true r20 (fun K => hBin .neq false (demK r21) (.c (.p (pI 1))) f21 u21 K) f21 u21 (fun r22 f22 u22 =>
  guardK false (demK r9) (fun K => hPick  (demK r20) (demK r22) (.c (.p (pB false))) f22 u22 K) f22 u22 (fun r23 f23 u23 =>
  guardK false (demK r9) (fun K => K (demK r23) f23 u23) f23 u23 (fun r24 f24 u24 =>
  guardK true r24 (fun K => K (demK (look' 4 e)) f24 u24) f24 u24 (fun r25 f25 u25 =>
  guardK true r24 (fun K => hBin .neq false (demK r25) (.c (.p (pI 10))) f25 u25 K) f25 u25 (fun r26 f26 u26 =>
  guardK false (demK r9) (fun K => hPick  (demK r24) (demK r26) (.c (.p (pB false))) f26 u26 K) f26 u26 (fun r27 f27 u27 =>
  hPick  (demK (demK r9)) (.c (.p (pB true))) (demK r27) f27 u27 (fun r28 f28 u28 =>
  headK (look' 0 e) (fun v0 => headK (look' 3 e) (fun v3 => headK r28 (fun v77 => k .normal [(0, v0), (3, v3), (77, v77)] f28 u28))))))))))))))))))))))))))))

noncomputable def g18_8 (C : Go.ScE.Callee) : Env → Fram → List Fram → KX → R0 := fun e fr up k =>
  headK (.c (.p (pB false))) (fun v2 => k .normal [(2, v2)] fr up)

noncomputable def g18_9 (C : Go.ScE.Callee) : Env → Fram → List Fram → KX → R0 := fun e fr up k =>
  hBin .add false (demK (demK (look' 3 e))) (.c (.p (pI 1))) fr up (fun r1 f1 u1 =>
  headK (look' 0 e) (fun v0 => headK (demK r1) (fun v3 => k .normal [(0, v0), (3, v3)] f1 u1)))

noncomputable def g18_10 (C : Go.ScE.Callee) : Env → Fram → List Fram → KX → R0 := fun e fr up k =>
  headK (.c (.p (pB true))) (fun v2 => k .normal [(2, v2)] fr up)

noncomputable def h18 : KC := fun C n => seqK (g18_0 C) (seqK (seqK (g18_1 C) (condK (.t 15) (seqK (g18_2 C) (retK)) (skipK))) (seqK (seqK (g18_3 C) (blockK 0 (loopsK [0, 3] [] (seqK (seqK (g18_4 C) (condK (.t 19) (skipK) (exitK 0))) (seqK (blockK 1 (seqK (g18_5 C) (seqK (g18_6 C) (seqK (g18_7 C) (condK (.t 77) (seqK (g18_8 C) (retK)) (skipK)))))) (g18_9 C))) n))) (seqK (g18_10 C) (retK))))
theorem h18_eq (C : Go.ScE.Callee) (n : Nat) : h18 C n = evK C n x18.body := by kernel_rfl

noncomputable def g19_0 (C : Go.ScE.Callee) : Env → Fram → List Fram → KX → R0 := fun e fr up k =>
  hGen C (.box 0) [(demK (look' 0 e))] fr up (fun r0 f0 u0 =>
  hGen C (.alloc 1 true [(pI 0), (pI 0), (pI 0)]) [] f0 u0 (fun r1 f1 u1 =>
  headK r0 (fun v1 => headK r1 (fun v2 => k .normal [(1, v1), (2, v2)] f1 u1))))

noncomputable def g19_1 (C : Go.ScE.Callee) : Env → Fram → List Fram → KX → R0 := fun e fr up k =>
  hFa 1 (demK (look' 1 e)) fr up (fun r0 f0 u0 =>
  hLd false 1 false (demK r0) f0 u0 (fun r1 f1 u1 =>
  hBin .rem false (demK r1) (.c (.p (pI 8))) f1 u1 (fun r2 f2 u2 =>
  hBin .add false (demK r2) (.c (.p (pI 8))) f2 u2 (fun r3 f3 u3 =>
  hBin .rem false (demK r3) (.c (.p (pI 8))) f3 u3 (fun r4 f4 u4 =>
  hFa 1 (demK (look' 1 e)) f4 u4 (fun r5 f5 u5 =>
  hSt 1 (demK r5) (demK r4) f5 u5 (fun r6 f6 u6 =>
  headK (look' 1 e) (fun v1 => headK (look' 2 e) (fun v2 => k .normal [(1, v1), (2, v2)] f6 u6)))))))))

noncomputable def g19_2 (C : Go.ScE.Callee) : Env → Fram → List Fram → KX → R0 := fun e fr up k =>
  hFa 2 (demK (look' 1 e)) fr up (fun r0 f0 u0 =>
  hLd false 1 false (demK r0) f0 u0 (fun r1 f1 u1 =>
  hBin .rem false (demK r1) (.c (.p (pI 200))) f1 u1 (fun r2 f2 u2 =>
  hBin .add false (demK r2) (.c (.p (pI 200))) f2 u2 (fun r3 f3 u3 =>
  hBin .rem false (demK r3) (.c (.p (pI 200))) f3 u3 (fun r4 f4 u4 =>
  hFa 2 (demK (look' 1 e)) f4 u4 (fun r5 f5 u5 =>
  hSt 1 (demK r5) (demK r4) f5 u5 (fun r6 f6 u6 =>
  headK (look' 1 e) (fun v1 => headK (look' 2 e) (fun v2 => k .normal [(1, v1), (2, v2)] f6 u6)))))))))

noncomputable def g19_3 (C : Go.ScE.Callee) : Env → Fram → List Fram → KX → R0 := fun e fr up k =>
  hLd true 3 false (demK (look' 1 e)) fr up (fun r0 f0 u0 =>
  hSt 3 (demK (look' 2 e)) (demK r0) f0 u0 (fun r1 f1 u1 =>
  headK (look' 2 e) (fun v2 => k .normal [(2, v2)] f1 u1)))

noncomputable def h19 : KC := fun C n => seqK (g19_0 C) (seqK (g19_1 C) (seqK (g19_2 C) (seqK (g19_3 C) (retK))))
theorem h19_eq (C : Go.ScE.Callee) (n : Nat) : h19 C n = evK C n x19.body := by kernel_rfl

noncomputable def g20_0 (C : Go.ScE.Callee) : Env → Fram → List Fram → KX → R0 := fun e fr up k =>
  hGen C (.alloc 0 true [(.sl 1 []), (.sl 1 []), (pI 0)]) [] fr up (fun r0 f0 u0 =>
  headK (look' 0 e) (fun v0 => headK (look' 1 e) (fun v1 => headK (look' 2 e) (fun v2 => headK (look' 3 e) (fun v3 => headK (look' 4 e) (fun v4 => headK (look' 5 e) (fun v5 => headK r0 (fun v12 => k .normal [(0, v0), (1, v1), (2, v2), (3, v3), (4, v4), (5, v5), (12, v12)] f0 u0))))))))

noncomputable def g20_1 (C : Go.ScE.Callee) : Env → Fram → List Fram → KX → R0 := fun e fr up k =>
  hBlds 8 [(pI 0), (pI 0), (pI 0), (pI 0), (pI 0), (pI 0), (pI 0), (pI 0)] 0 [] [] fr up (fun r0 f0 u0 =>
  hApp 8 64 r0 (demK (look' 0 e)) f0 u0 (fun r2 f2 u2 =>
  hApp 8 64 r2 (demK (look' 1 e)) f2 u2 (fun r4 f4 u4 =>
  hApp 8 64 r4 (demK (look' 2 e)) f4 u4 (fun r6 f6 u6 =>
  hCall C 44 [r6] f6 u6 (fun r7 f7 u7 =>
  hGen C (.ext 0) [(demK r7)] f7 u7 (fun r9 f9 u9 =>
  hGen C (.ext 1) [(demK r7)] f9 u9 (fun r10 f10 u10 =>
  hGen C (.ext 2) [r7] f10 u10 (fun r11 f11 u11 =>
  headK (look' 3 e) (fun v3 => headK (look' 4 e) (fun v4 => headK (look' 5 e) (fun v5 => headK (look' 12 e) (fun v12 => headK r9 (fun v14 => headK (demK r11) (fun v16 => k .normal [(3, v3), (4, v4), (5, v5), (12, v12), (14, v14), (16, v16)] f11 u11))))))))))))))

noncomputable def g20_2 (C : Go.ScE.Callee) : Env → Fram → List Fram → KX → R0 := fun e fr up k =>
  hBin .add false (.c (.p (pI 32))) (demK (demK (look' 3 e))) fr up (fun r1 f1 u1 =>
  headK (look' 4 e) (fun v4 => headK (look' 5 e) (fun v5 => headK (look' 12 e) (fun v12 => headK (look' 14 e) (fun v14 => headK (look' 16 e) (fun v16 => headK (demK r1) (fun v17 => k .normal [(4, v4), (5, v5), (12, v12), (14, v14), (16, v16), (17, v17)] f1 u1)))))))

noncomputable def g20_3 (C : Go.ScE.Callee) : Env → Fram → List Fram → KX → R0 := fun e fr up k =>
  hBin .mul false (.c (.p (pI 2))) (demK (demK (look' 4 e))) fr up (fun r2 f2 u2 =>
  hBin .add false (demK (demK (look' 17 e))) (demK r2) f2 u2 (fun r3 f3 u3 =>
  hBin .add false (demK r3) (.c (.p (pI 1))) f3 u3 (fun r4 f4 u4 =>
  hGen C (.mks 1 1 [(pI 0)]) [(demK r4), (demK r4)] f4 u4 (fun r5 f5 u5 =>
  headK (look' 4 e) (fun v4 => headK (look' 5 e) (fun v5 => headK (look' 12 e) (fun v12 => headK (look' 14 e) (fun v14 => headK (look' 16 e) (fun v16 => headK (look' 17 e) (fun v17 => headK r5 (fun v18 => k .normal [(4, v4), (5, v5), (12, v12), (14, v14), (16, v16), (17, v17), (18, v18)] f5 u5)))))))))))

noncomputable def g20_4 (C : Go.ScE.Callee) : Env → Fram → List Fram → KX → R0 := fun e fr up k =>
  hIa 1 (demK (demK (look' 18 e))) (.c (.p (pI 28))) fr up (fun r2 f2 u2 =>
  hSt 1 (demK r2) (demK (demK (look' 17 e))) f2 u2 (fun r3 f3 u3 =>
  headK (look' 4 e) (fun v4 => headK (look' 5 e) (fun v5 => headK (look' 12 e) (fun v12 => headK (look' 14 e) (fun v14 => headK (look' 16 e) (fun v16 => headK (look' 17 e) (fun v17 => headK (look' 18 e) (fun v18 => k .normal [(4, v4), (5, v5), (12, v12), (14, v14), (16, v16), (17, v17), (18, v18)] f3 u3)))))))))

noncomputable def g20_5 (C : Go.ScE.Callee) : Env → Fram → List Fram → KX → R0 := fun e fr up k =>
  hBin .add false (demK (demK (look' 17 e))) (demK (demK (look' 4 e))) fr up (fun r3 f3 u3 =>
  hIa 1 (demK (demK (look' 18 e))) (.c (.p (pI 29))) f3 u3 (fun r4 f4 u4 =>
  hSt 1 (demK r4) (demK r3) f4 u4 (fun r5 f5 u5 =>
  headK (look' 4 e) (fun v4 => headK (look' 5 e) (fun v5 => headK (look' 12 e) (fun v12 => headK (look' 14 e) (fun v14 => headK (look' 16 e) (fun v16 => headK (look' 17 e) (fun v17 => headK (look' 18 e) (fun v18 => k .normal [(4, v4), (5, v5), (12, v12), (14, v14), (16, v16), (17, v17), (18, v18)] f5 u5))))))))))

noncomputable def g20_6 (C : Go.ScE.Callee) : Env → Fram → List Fram → KX → R0 := fun e fr up k =>
  hBin .add false (demK (demK (look' 17 e))) (demK (demK (look' 4 e))) fr up (fun r3 f3 u3 =>
  hIa 1 (demK (demK (look' 18 e))) (.c (.p (pI 30))) f3 u3 (fun r4 f4 u4 =>
  hSt 1 (demK r4) (demK r3) f4 u4 (fun r5 f5 u5 =>
  headK (look' 4 e) (fun v4 => headK (look' 5 e) (fun v5 => headK (look' 12 e) (fun v12 => headK (look' 14 e) (fun v14 => headK (look' 16 e) (fun v16 => headK (look' 17 e) (fun v17 => headK (look' 18 e) (fun v18 => k .normal [(4, v4), (5, v5), (12, v12), (14, v14), (16, v16), (17, v17), (18, v18)] f5 u5))))))))))

noncomputable def g20_7 (C : Go.ScE.Callee) : Env → Fram → List Fram → KX → R0 := fun e fr up k =>
  hBin .mul false (.c (.p (pI 2))) (demK (demK (look' 4 e))) fr up (fun r3 f3 u3 =>
  hBin .add false (demK (demK (look' 17 e))) (demK r3) f3 u3 (fun r4 f4 u4 =>
  hIa 1 (demK (demK (look' 18 e))) (.c (.p (pI 31))) f4 u4 (fun r5 f5 u5 =>
  hSt 1 (demK r5) (demK r4) f5 u5 (fun r6 f6 u6 =>
  headK (look' 4 e) (fun v4 => headK (look' 5 e) (fun v5 => headK (look' 12 e) (fun v12 => headK (look' 14 e) (fun v14 => headK (look' 16 e) (fun v16 => headK (look' 17 e) (fun v17 => headK (look' 18 e) (fun v18 => k .normal [(4, v4), (5, v5), (12, v12), (14, v14), (16, v16), (17, v17), (18, v18)] f6 u6)))))))))))

noncomputable def g20_8 (C : Go.ScE.Callee) : Env → Fram → List Fram → KX → R0 := fun e fr up k =>
  hBin .mul false (.c (.p (pI 2))) (demK (demK (look' 4 e))) fr up (fun r3 f3 u3 =>
  hBin .add false (demK (demK (look' 17 e))) (demK r3) f3 u3 (fun r4 f4 u4 =>
  hIa 1 (demK (demK (look' 18 e))) (demK r4) f4 u4 (fun r6 f6 u6 =>
  hSt 1 (demK r6) (demK (demK (look' 5 e))) f6 u6 (fun r7 f7 u7 =>
  headK (look' 12 e) (fun v12 => headK (look' 14 e) (fun v14 => headK (look' 16 e) (fun v16 => headK (look' 18 e) (fun v18 => k .normal [(12, v12), (14, v14), (16, v16), (18, v18)] f7 u7))))))))

noncomputable def g20_9 (C : Go.ScE.Callee) : Env → Fram → List Fram → KX → R0 := fun e fr up k =>
  hLenL  (demK (look' 18 e)) fr up (fun r3 f3 u3 =>
  hBld [(.sl 1 []), (.sl 1 []), (pI 0)] [(0, 1), (1, 1), (2, 1)] [(look' 14 e), (demK (look' 18 e)), (demK r3)] f3 u3 (fun r4 f4 u4 =>
  hBin .eql false (demK (demK (look' 16 e))) (.c (.p (pI 0))) f4 u4 (fun r6 f6 u6 =>
  hSt 3 (demK (look' 12 e)) r4 f6 u6 (fun r7 f7 u7 =>
  headK (look' 12 e) (fun v12 => headK (demK r6) (fun v13 => k .normal [(12, v12), (13, v13)] f7 u7))))))

noncomputable def h20 : KC := fun C n => seqK (g20_0 C) (seqK (g20_1 C) (seqK (g20_2 C) (seqK (g20_3 C) (seqK (g20_4 C) (seqK (g20_5 C) (seqK (g20_6 C) (seqK (g20_7 C) (seqK (g20_8 C) (seqK (g20_9 C) (retK))))))))))
theorem h20_eq (C : Go.ScE.Callee) (n : Nat) : h20 C n = evK C n x20.body := by kernel_rfl

noncomputable def g21_0 (C : Go.ScE.Callee) : Env → Fram → List Fram → KX → R0 := fun e fr up k =>
  hGen C (.box 0) [(look' 0 e)] fr up (fun r0 f0 u0 =>
  hGen C (.alloc 1 true [(pI 0), (pI 0), (pS []), (pI 0), (pI 0), (pI 0), (pI 0), (pI 0), (pI 0), (pI 0), (pI 0), (pI 0), (pI 0), (pI 0), (pI 0), (pI 0), (pI 0), (pI 0), (pI 0), (pI 0), (pI 0), (pI 0), (pI 0), (pI 0), (pI 0), (pI 0), (pI 0), (pI 0), (pI 0), (pI 0), (pI 0), (pI 0), (pI 0), (pI 0), (pI 0), (pI 0), (pI 0), (.sl 1 [])]) [] f0 u0 (fun r1 f1 u1 =>
  headK (look' 1 e) (fun v1 => headK (look' 2 e) (fun v2 => headK r0 (fun v3 => headK r1 (fun v6 => k .normal [(1, v1), (2, v2), (3, v3), (6, v6)] f1 u1))))))

noncomputable def g21_1 (C : Go.ScE.Callee) : Env → Fram → List Fram → KX → R0 := fun e fr up k =>
  hFa 2 (demK (look' 3 e)) fr up (fun r0 f0 u0 =>
  hLd false 1 false (demK r0) f0 u0 (fun r1 f1 u1 =>
  hBin .lss false (demK r1) (.c (.p (pI 0))) f1 u1 (fun r2 f2 u2 =>
  guardK false (demK r2) (fun K => hFa 2 (demK (look' 3 e)) f2 u2 K) f2 u2 (fun r4 f4 u4 =>
  guardK false (demK r2) (fun K => hLd false 1 false (demK r4) f4 u4 K) f4 u4 (fun r5 f5 u5 =>
  guardK false (demK r2) (fun K => hBin .gtr false (demK r5) (.c (.p (pI 1048576))) f5 u5 K) f5 u5 (fun r6 f6 u6 =>
  hPick  (demK (demK r2)) (.c (.p (pB true))) (demK r6) f6 u6 (fun r7 f7 u7 =>
  guardK false (demK r7) (fun K => hFa 0 (demK (look' 3 e)) f7 u7 K) f7 u7 (fun r9 f9 u9 =>
  guardK false (demK r7) (fun K => hLd false 1 false (demK r9) f9 u9 K) f9 u9 (fun r10 f10 u10 =>
  guardK false (demK r7) (fun K => hLenL  (demK r10) f10 u10 K) f10 u10 (fun r11 f11 u11 =>
  guardK false (demK r7) (fun K => hBin .gtr false (demK r11) (.c (.p (pI 1048576))) f11 u11 K) f11 u11 (fun r12 f12 u12 =>
  hPick  (demK (demK r7)) (.c (.p (pB true))) (demK r12) f12 u12 (fun r13 f13 u13 =>
  guardK false (demK r13) (fun K => hFa 1 (demK (look' 3 e)) f13 u13 K) f13 u13 (fun r15 f15 u15 =>
  guardK false (demK r13) (fun K => hLd false 1 false (demK r15) f15 u15 K) f15 u15 (fun r16 f16 u16 =>
  guardK false (demK r13) (fun K => hLenL  (demK r16) f16 u16 K) f16 u16 (fun r17 f17 u17 =>
  guardK false (demK r13) (fun K => hFa 2 (demK (look' 3 e)) f17 u17 K) f17 u17 (fun r18 f18 u18 =>
  guardK false (demK r13) (fun K => hLd false 1 false (demK r18) f18 u18 K) f18 u18 (fun r19 f19 u19 =>
  guardK false (demK r13) (fun K => hBin .gtr false (demK r17) (demK r19) f19 u19 K) f19 u19 (fun r20 f20 u20 =>
  hPick  (demK (demK r13)) (.c (.p (pB true))) (demK r20) f20 u20 (fun r21 f21 u21 =>
  guardK false (demK r21) (fun K => K (demK (look' 2 e)) f21 u21) f21 u21 (fun r23 f23 u23 =>
  guardK false (demK r21) (fun K => hBin .lss false (demK r23) (.c (.p (pI 0))) f23 u23 K) f23 u23 (fun r24 f24 u24 =>
  hPick  (demK (demK r21)) (.c (.p (pB true))) (demK r24) f24 u24 (fun r25 f25 u25 =>
  headK (look' 1 e) (fun v1 => headK (look' 2 e) (fun v2 => headK (look' 3 e) (fun v3 => headK (look' 6 e) (fun v6 => headK r25 (fun v38 => k .normal [(1, v1), (2, v2), (3, v3), (6, v6), (38, v38)] f25 u25)))))))))))))))))))))))))))

noncomputable def g21_2 (C : Go.ScE.Callee) : Env → Fram → List Fram → KX → R0 := fun e fr up k =>
  hBld [(pI 0), (pI 0), (pS []), (pI 0), (pI 0), (pI 0), (pI 0), (pI 0), (pI 0), (pI 0), (pI 0), (pI 0), (pI 0), (pI 0), (pI 0), (pI 0), (pI 0), (pI 0), (pI 0), (pI 0), (pI 0), (pI 0), (pI 0), (pI 0), (pI 0), (pI 0), (pI 0), (pI 0), (pI 0), (pI 0), (pI 0), (pI 0), (pI 0), (pI 0), (pI 0), (pI 0), (pI 0), (.sl 1 [])] [(0, 1)] [(.c (.p (pI 7)))] fr up (fun r0 f0 u0 =>
  hSt 38 (demK (look' 6 e)) r0 f0 u0 (fun r1 f1 u1 =>
  headK (look' 6 e) (fun v6 => k .normal [(6, v6)] f1 u1)))

noncomputable def g21_3 (C : Go.ScE.Callee) : Env → Fram → List Fram → KX → R0 := fun e fr up k =>
  hBld [(pI 0), (pI 0), (pS []), (pI 0), (pI 0), (pI 0), (pI 0), (pI 0), (pI 0), (pI 0), (pI 0), (pI 0), (pI 0), (pI 0), (pI 0), (pI 0), (pI 0), (pI 0), (pI 0), (pI 0), (pI 0), (pI 0), (pI 0), (pI 0), (pI 0), (pI 0), (pI 0), (pI 0), (pI 0), (pI 0), (pI 0), (pI 0), (pI 0), (pI 0), (pI 0), (pI 0), (pI 0), (.sl 1 []), (pS []), (.sl 1 [])] [(38, 1)] [(demK (demK (look' 1 e)))] fr up (fun r1 f1 u1 =>
  hGen C (.box 2) [r1] f1 u1 (fun r2 f2 u2 =>
  headK (look' 2 e) (fun v2 => headK (look' 3 e) (fun v3 => headK (look' 6 e) (fun v6 => headK (demK r2) (fun v7 => k .normal [(2, v2), (3, v3), (6, v6), (7, v7)] f2 u2))))))

noncomputable def g21_4 (C : Go.ScE.Callee) : Env → Fram → List Fram → KX → R0 := fun e fr up k =>
  hFa 2 (demK (look' 3 e)) fr up (fun r1 f1 u1 =>
  hLd false 1 false (demK r1) f1 u1 (fun r2 f2 u2 =>
  hGen C (.mks 3 1 [(pI 0)]) [(demK r2), (demK r2)] f2 u2 (fun r3 f3 u3 =>
  hGen C (.nck) [(demK (demK (look' 7 e)))] f3 u3 (fun r4 f4 u4 =>
  hFa 0 (demK r4) f4 u4 (fun r5 f5 u5 =>
  hFa 37 (demK r5) f5 u5 (fun r6 f6 u6 =>
  hSt 1 (demK r6) r3 f6 u6 (fun r7 f7 u7 =>
  headK (look' 2 e) (fun v2 => headK (look' 3 e) (fun v3 => headK (look' 6 e) (fun v6 => headK (look' 7 e) (fun v7 => k .normal [(2, v2), (3, v3), (6, v6), (7, v7)] f7 u7)))))))))))

noncomputable def g21_5 (C : Go.ScE.Callee) : Env → Fram → List Fram → KX → R0 := fun e fr up k =>
  hGen C (.nck) [(demK (demK (look' 7 e)))] fr up (fun r1 f1 u1 =>
  hFa 0 (demK r1) f1 u1 (fun r2 f2 u2 =>
  hFa 37 (demK r2) f2 u2 (fun r3 f3 u3 =>
  hLd false 1 false (demK r3) f3 u3 (fun r4 f4 u4 =>
  hFa 1 (demK (look' 3 e)) f4 u4 (fun r5 f5 u5 =>
  hLd false 1 false (demK r5) f5 u5 (fun r6 f6 u6 =>
  hGen C (.copy 1) [(demK r4), (demK r6)] f6 u6 (fun r7 f7 u7 =>
  headK (look' 2 e) (fun v2 => headK (look' 3 e) (fun v3 => headK (look' 6 e) (fun v6 => headK (look' 7 e) (fun v7 => k .normal [(2, v2), (3, v3), (6, v6), (7, v7)] f7 u7)))))))))))

noncomputable def g21_6 (C : Go.ScE.Callee) : Env → Fram → List Fram → KX → R0 := fun e fr up k =>
  hGen C (.nck) [(demK (demK (look' 7 e)))] fr up (fun r1 f1 u1 =>
  hFa 0 (demK r1) f1 u1 (fun r2 f2 u2 =>
  hFa 0 (demK r2) f2 u2 (fun r3 f3 u3 =>
  hSt 1 (demK r3) (.c (.p (pI 6))) f3 u3 (fun r4 f4 u4 =>
  headK (look' 2 e) (fun v2 => headK (look' 3 e) (fun v3 => headK (look' 6 e) (fun v6 => headK (look' 7 e) (fun v7 => k .normal [(2, v2), (3, v3), (6, v6), (7, v7)] f4 u4))))))))

noncomputable def g21_7 (C : Go.ScE.Callee) : Env → Fram → List Fram → KX → R0 := fun e fr up k =>
  hFa 0 (demK (look' 3 e)) fr up (fun r0 f0 u0 =>
  hLd false 1 false (demK r0) f0 u0 (fun r1 f1 u1 =>
  hLenL  (demK r1) f1 u1 (fun r2 f2 u2 =>
  hGen C (.mks 4 5 [(pI 0), (pI 0), (pI 0), (pI 0), (pI 0)]) [(demK r2), (demK r2)] f2 u2 (fun r3 f3 u3 =>
  headK (look' 2 e) (fun v2 => headK (look' 3 e) (fun v3 => headK (look' 6 e) (fun v6 => headK (look' 7 e) (fun v7 => headK r3 (fun v8 => k .normal [(2, v2), (3, v3), (6, v6), (7, v7), (8, v8)] f3 u3)))))))))

noncomputable def g21_8 (C : Go.ScE.Callee) : Env → Fram → List Fram → KX → R0 := fun e fr up k =>
  hFa 0 (demK (look' 3 e)) fr up (fun r0 f0 u0 =>
  hLd false 1 false (demK r0) f0 u0 (fun r1 f1 u1 =>
  hLenL  (demK r1) f1 u1 (fun r2 f2 u2 =>
  hGen C (.mks 5 1 [(pB false)]) [(demK r2), (demK r2)] f2 u2 (fun r3 f3 u3 =>
  headK (look' 2 e) (fun v2 => headK (look' 3 e) (fun v3 => headK (look' 6 e) (fun v6 => headK (look' 7 e) (fun v7 => headK (look' 8 e) (fun v8 => headK r3 (fun v9 => k .normal [(2, v2), (3, v3), (6, v6), (7, v7), (8, v8), (9, v9)] f3 u3))))))))))

noncomputable def g21_9 (C : Go.ScE.Callee) : Env → Fram → List Fram → KX → R0 := fun e fr up k =>
  hGen C (.nck) [(demK (demK (look' 7 e)))] fr up (fun r1 f1 u1 =>
  hFa 0 (demK r1) f1 u1 (fun r2 f2 u2 =>
  hFa 0 (demK r2) f2 u2 (fun r3 f3 u3 =>
  hLd false 1 false (demK r3) f3 u3 (fun r4 f4 u4 =>
  hBin .eql false (demK r4) (.c (.p (pI 6))) f4 u4 (fun r5 f5 u5 =>
  guardK true (demK r5) (fun K => K (demK (look' 7 e)) f5 u5) f5 u5 (fun r7 f7 u7 =>
  guardK true (demK r5) (fun K => hGen C (.nck) [(demK r7)] f7 u7 K) f7 u7 (fun r8 f8 u8 =>
  guardK true (demK r5) (fun K => hFa 0 (demK r8) f8 u8 K) f8 u8 (fun r9 f9 u9 =>
  guardK true (demK r5) (fun K => hFa 3 (demK r9) f9 u9 K) f9 u9 (fun r10 f10 u10 =>
  guardK true (demK r5) (fun K => hLd false 1 false (demK r10) f10 u10 K) f10 u10 (fun r11 f11 u11 =>
  guardK true (demK r5) (fun K => K (demK (look' 2 e)) f11 u11) f11 u11 (fun r12 f12 u12 =>
  guardK true (demK r5) (fun K => hBin .lss false (demK r11) (demK r12) f12 u12 K) f12 u12 (fun r13 f13 u13 =>
  hPick  (demK (demK r5)) (demK r13) (.c (.p (pB false))) f13 u13 (fun r14 f14 u14 =>
  headK (look' 2 e) (fun v2 => headK (look' 3 e) (fun v3 => headK (look' 6 e) (fun v6 => headK (look' 7 e) (fun v7 => headK (look' 8 e) (fun v8 => headK (look' 9 e) (fun v9 => headK r14 (fun v84 => k .normal [(2, v2), (3, v3), (6, v6), (7, v7), (8, v8), (9, v9), (84, v84)] f14 u14))))))))))))))))))))

noncomputable def g21_10 (C : Go.ScE.Callee) : Env → Fram → List Fram → KX → R0 := fun e fr up k =>
  hGen C (.nck) [(demK (demK (look' 7 e)))] fr up (fun r1 f1 u1 =>
  hFa 0 (demK r1) f1 u1 (fun r2 f2 u2 =>
  hFa 4 (demK r2) f2 u2 (fun r3 f3 u3 =>
  hLd false 1 false (demK r3) f3 u3 (fun r4 f4 u4 =>
  headK (look' 2 e) (fun v2 => headK (look' 3 e) (fun v3 => headK (look' 6 e) (fun v6 => headK (look' 7 e) (fun v7 => headK (look' 8 e) (fun v8 => headK (look' 9 e) (fun v9 => headK (demK r4) (fun v10 => k .normal [(2, v2), (3, v3), (6, v6), (7, v7), (8, v8), (9, v9), (10, v10)] f4 u4)))))))))))

noncomputable def g21_11 (C : Go.ScE.Callee) : Env → Fram → List Fram → KX → R0 := fun e fr up k =>
  hBin .lss false (demK (demK (look' 10 e))) (.c (.p (pI 0))) fr up (fun r1 f1 u1 =>
  guardK false (demK r1) (fun K => K (demK (look' 10 e)) f1 u1) f1 u1 (fun r3 f3 u3 =>
  guardK false (demK r1) (fun K => hFa 0 (demK (look' 3 e)) f3 u3 K) f3 u3 (fun r4 f4 u4 =>
  guardK false (demK r1) (fun K => hLd false 1 false (demK r4) f4 u4 K) f4 u4 (fun r5 f5 u5 =>
  guardK false (demK r1) (fun K => hLenL  (demK r5) f5 u5 K) f5 u5 (fun r6 f6 u6 =>
  guardK false (demK r1) (fun K => hBin .geq false (demK r3) (demK r6) f6 u6 K) f6 u6 (fun r7 f7 u7 =>
  hPick  (demK (demK r1)) (.c (.p (pB true))) (demK r7) f7 u7 (fun r8 f8 u8 =>
  headK (look' 2 e) (fun v2 => headK (look' 3 e) (fun v3 => headK (look' 6 e) (fun v6 => headK (look' 7 e) (fun v7 => headK (look' 8 e) (fun v8 => headK (look' 9 e) (fun v9 => headK (look' 10 e) (fun v10 => headK r8 (fun v98 => k .normal [(2, v2), (3, v3), (6, v6), (7, v7), (8, v8), (9, v9), (10, v10), (98, v98)] f8 u8)))))))))))))))

noncomputable def g21_12 (C : Go.ScE.Callee) : Env → Fram → List Fram → KX → R0 := fun e fr up k =>
  hGen C (.nck) [(demK (demK (look' 7 e)))] fr up (fun r1 f1 u1 =>
  hFa 0 (demK r1) f1 u1 (fun r2 f2 u2 =>
  hFa 0 (demK r2) f2 u2 (fun r3 f3 u3 =>
  hSt 1 (demK r3) (.c (.p (pI 3))) f3 u3 (fun r4 f4 u4 =>
  headK (look' 6 e) (fun v6 => headK (look' 7 e) (fun v7 => k .normal [(6, v6), (7, v7)] f4 u4))))))

noncomputable def g21_13 (C : Go.ScE.Callee) : Env → Fram → List Fram → KX → R0 := fun e fr up k =>
  hIa 1 (demK (demK (look' 9 e))) (demK (demK (look' 10 e))) fr up (fun r2 f2 u2 =>
  hLd false 1 false (demK r2) f2 u2 (fun r3 f3 u3 =>
  hGen C (.un .not) [(demK r3)] f3 u3 (fun r4 f4 u4 =>
  headK (look' 2 e) (fun v2 => headK (look' 3 e) (fun v3 => headK (look' 6 e) (fun v6 => headK (look' 7 e) (fun v7 => headK (look' 8 e) (fun v8 => headK (look' 9 e) (fun v9 => headK (look' 10 e) (fun v10 => headK r4 (fun v107 => k .normal [(2, v2), (3, v3), (6, v6), (7, v7), (8, v8), (9, v9), (10, v10), (107, v107)] f4 u4)))))))))))

noncomputable def g21_14 (C : Go.ScE.Callee) : Env → Fram → List Fram → KX → R0 := fun e fr up k =>
  hFa 0 (demK (look' 3 e)) fr up (fun r0 f0 u0 =>
  hLd false 1 false (demK r0) f0 u0 (fun r1 f1 u1 =>
  hIa 1 (demK r1) (demK (demK (look' 10 e))) f1 u1 (fun r3 f3 u3 =>
  hLd false 1 false (demK r3) f3 u3 (fun r4 f4 u4 =>
  hCall C 45 [(demK r4)] f4 u4 (fun r5 f5 u5 =>
  hGen C (.ext 0) [(demK (demK r5))] f5 u5 (fun r7 f7 u7 =>
  hGen C (.ext 1) [(demK (demK r5))] f7 u7 (fun r8 f8 u8 =>
  hGen C (.alloc 6 true [(pI 0), (pI 0), (pI 0), (pI 0), (pI 0)]) [] f8 u8 (fun r9 f9 u9 =>
  hSt 5 (demK r9) (demK r7) f9 u9 (fun r10 f10 u10 =>
  headK (look' 2 e) (fun v2 => headK (look' 3 e) (fun v3 => headK (look' 6 e) (fun v6 => headK (look' 7 e) (fun v7 => headK (look' 8 e) (fun v8 => headK (look' 9 e) (fun v9 => headK (look' 10 e) (fun v10 => headK r9 (fun v11 => headK (demK r8) (fun v12 => k .normal [(2, v2), (3, v3), (6, v6), (7, v7), (8, v8), (9, v9), (10, v10), (11, v11), (12, v12)] f10 u10))))))))))))))))))

noncomputable def g21_15 (C : Go.ScE.Callee) : Env → Fram → List Fram → KX → R0 := fun e fr up k =>
  hGen C (.un .not) [(demK (demK (look' 12 e)))] fr up (fun r1 f1 u1 =>
  headK (look' 2 e) (fun v2 => headK (look' 3 e) (fun v3 => headK (look' 6 e) (fun v6 => headK (look' 7 e) (fun v7 => headK (look' 8 e) (fun v8 => headK (look' 9 e) (fun v9 => headK (look' 10 e) (fun v10 => headK (look' 11 e) (fun v11 => headK r1 (fun v118 => k .normal [(2, v2), (3, v3), (6, v6), (7, v7), (8, v8), (9, v9), (10, v10), (11, v11), (118, v118)] f1 u1))))))))))

noncomputable def g21_16 (C : Go.ScE.Callee) : Env → Fram → List Fram → KX → R0 := fun e fr up k =>
  hGen C (.nck) [(demK (demK (look' 7 e)))] fr up (fun r1 f1 u1 =>
  hFa 0 (demK r1) f1 u1 (fun r2 f2 u2 =>
  hFa 0 (demK r2) f2 u2 (fun r3 f3 u3 =>
  hSt 1 (demK r3) (.c (.p (pI 1))) f3 u3 (fun r4 f4 u4 =>
  headK (look' 6 e) (fun v6 => headK (look' 7 e) (fun v7 => k .normal [(6, v6), (7, v7)] f4 u4))))))

noncomputable def g21_17 (C : Go.ScE.Callee) : Env → Fram → List Fram → KX → R0 := fun e fr up k =>
  hLd true 5 false (demK (look' 11 e)) fr up (fun r2 f2 u2 =>
  hIa 5 (demK (demK (look' 8 e))) (demK (demK (look' 10 e))) f2 u2 (fun r3 f3 u3 =>
  hSt 5 (demK r3) (demK r2) f3 u3 (fun r4 f4 u4 =>
  headK (look' 2 e) (fun v2 => headK (look' 3 e) (fun v3 => headK (look' 6 e) (fun v6 => headK (look' 7 e) (fun v7 => headK (look' 8 e) (fun v8 => headK (look' 9 e) (fun v9 => headK (look' 10 e) (fun v10 => k .normal [(2, v2), (3, v3), (6, v6), (7, v7), (8, v8), (9, v9), (10, v10)] f4 u4))))))))))

noncomputable def g21_18 (C : Go.ScE.Callee) : Env → Fram → List Fram → KX → R0 := fun e fr up k =>
  hIa 1 (demK (demK (look' 9 e))) (demK (demK (look' 10 e))) fr up (fun r2 f2 u2 =>
  hSt 1 (demK r2) (.c (.p (pB true))) f2 u2 (fun r3 f3 u3 =>
  headK (look' 2 e) (fun v2 => headK (look' 3 e) (fun v3 => headK (look' 6 e) (fun v6 => headK (look' 7 e) (fun v7 => headK (look' 8 e) (fun v8 => headK (look' 9 e) (fun v9 => headK (look' 10 e) (fun v10 => k .normal [(2, v2), (3, v3), (6, v6), (7, v7), (8, v8), (9, v9), (10, v10)] f3 u3)))))))))

noncomputable def g21_19 (C : Go.ScE.Callee) : Env → Fram → List Fram → KX → R0 := fun e fr up k =>
  hIa 5 (demK (demK (look' 8 e))) (demK (demK (look' 10 e))) fr up (fun r4 f4 u4 =>
  hLd true 5 false (demK r4) f4 u4 (fun r5 f5 u5 =>
  hCall C 46 [(demK (demK (look' 7 e))), (demK r5)] f5 u5 (fun r6 f6 u6 =>
  hGen C (.nck) [(demK (demK (look' 7 e)))] f6 u6 (fun r7 f7 u7 =>
  hFa 0 (demK r7) f7 u7 (fun r8 f8 u8 =>
  hFa 0 (demK r8) f8 u8 (fun r9 f9 u9 =>
  hSt 1 (demK r9) (demK r6) f9 u9 (fun r10 f10 u10 =>
  headK (look' 2 e) (fun v2 => headK (look' 3 e) (fun v3 => headK (look' 6 e) (fun v6 => headK (look' 7 e) (fun v7 => headK (look' 8 e) (fun v8 => headK (look' 9 e) (fun v9 => k .normal [(2, v2), (3, v3), (6, v6), (7, v7), (8, v8), (9, v9)] f10 u10)))))))))))))

noncomputable def g21_20 (C : Go.ScE.Callee) : Env → Fram → List Fram → KX → R0 := fun e fr up k =>
  hGen C (.nck) [(demK (demK (look' 7 e)))] fr up (fun r2 f2 u2 =>
  hFa 39 (demK r2) f2 u2 (fun r3 f3 u3 =>
  hLd false 1 false (demK r3) f3 u3 (fun r4 f4 u4 =>
  hGen C (.cbs) [(demK r4)] f4 u4 (fun r5 f5 u5 =>
  hGen C (.nck) [(demK (demK (look' 7 e)))] f5 u5 (fun r6 f6 u6 =>
  hFa 0 (demK r6) f6 u6 (fun r7 f7 u7 =>
  hFa 2 (demK r7) f7 u7 (fun r8 f8 u8 =>
  hSt 1 (demK r8) (demK r5) f8 u8 (fun r9 f9 u9 =>
  headK (look' 6 e) (fun v6 => headK (look' 7 e) (fun v7 => k .normal [(6, v6), (7, v7)] f9 u9))))))))))

noncomputable def g21_21 (C : Go.ScE.Callee) : Env → Fram → List Fram → KX → R0 := fun e fr up k =>
  hGen C (.nck) [(demK (demK (look' 7 e)))] fr up (fun r1 f1 u1 =>
  hFa 0 (demK r1) f1 u1 (fun r2 f2 u2 =>
  hLd true 38 false (demK r2) f2 u2 (fun r3 f3 u3 =>
  hSt 38 (demK (look' 6 e)) r3 f3 u3 (fun r4 f4 u4 =>
  headK (look' 6 e) (fun v6 => k .normal [(6, v6)] f4 u4)))))

noncomputable def h21 : KC := fun C n => seqK (g21_0 C) (seqK (seqK (g21_1 C) (condK (.t 38) (seqK (g21_2 C) (retK)) (skipK))) (seqK (g21_3 C) (seqK (g21_4 C) (seqK (g21_5 C) (seqK (g21_6 C) (seqK (g21_7 C) (seqK (g21_8 C) (seqK (blockK 0 (loopsK [2, 3, 6, 7, 8, 9] [0, 1, 2, 3, 4, 5] (seqK (seqK (g21_9 C) (condK (.t 84) (skipK) (exitK 0))) (blockK 1 (seqK (g21_10 C) (seqK (seqK (g21_11 C) (condK (.t 98) (seqK (g21_12 C) (exitK 0)) (skipK))) (seqK (seqK (g21_13 C) (condK (.t 107) (seqK (g21_14 C) (seqK (seqK (g21_15 C) (condK (.t 118) (seqK (g21_16 C) (exitK 0)) (skipK))) (seqK (g21_17 C) (g21_18 C)))) (skipK))) (g21_19 C)))))) n)) (seqK (g21_20 C) (seqK (g21_21 C) (retK)))))))))))
theorem h21_eq (C : Go.ScE.Callee) (n : Nat) : h21 C n = evK C n x21.body := by kernel_rfl

noncomputable def g22_0 (C : Go.ScE.Callee) : Env → Fram → List Fram → KX → R0 := fun e fr up k =>
  hCall C 27 [(demK (demK (look' 0 e))), (.c (.p (pI 9)))] fr up (fun r1 f1 u1 =>
  headK (look' 0 e) (fun v0 => k .normal [(0, v0)] f1 u1))

noncomputable def g22_1 (C : Go.ScE.Callee) : Env → Fram → List Fram → KX → R0 := fun e fr up k =>
  hCall C 31 [(demK (demK (look' 0 e))), (.c (.p (pI 29))), (.c (.p (pI 0))), (.c (.p (pI 28)))] fr up (fun r1 f1 u1 =>
  headK (look' 0 e) (fun v0 => k .normal [(0, v0)] f1 u1))

noncomputable def g22_2 (C : Go.ScE.Callee) : Env → Fram → List Fram → KX → R0 := fun e fr up k =>
  hCall C 47 [(demK (demK (look' 0 e))), (.c (.p (pI 27))), (.c (.p (pI 5))), (.c (.p (pI 15)))] fr up (fun r1 f1 u1 =>
  headK (look' 0 e) (fun v0 => k .normal [(0, v0)] f1 u1))

noncomputable def g22_3 (C : Go.ScE.Callee) : Env → Fram → List Fram → KX → R0 := fun e fr up k =>
  hCall C 30 [(demK (demK (look' 0 e))), (.c (.p (pI 27))), (.c (.p (pI 0))), (.c (.p (pI 32)))] fr up (fun r1 f1 u1 =>
  headK (look' 0 e) (fun v0 => k .normal [(0, v0)] f1 u1))

noncomputable def g22_4 (C : Go.ScE.Callee) : Env → Fram → List Fram → KX → R0 := fun e fr up k =>
  hCall C 33 [(demK (demK (look' 0 e))), (.c (.p (pI 30))), (.c (.p (pI 33)))] fr up (fun r1 f1 u1 =>
  headK (look' 0 e) (fun v0 => k .normal [(0, v0)] f1 u1))

noncomputable def g22_5 (C : Go.ScE.Callee) : Env → Fram → List Fram → KX → R0 := fun e fr up k =>
  hCall C 33 [(demK (demK (look' 0 e))), (.c (.p (pI 27))), (.c (.p (pI 18)))] fr up (fun r1 f1 u1 =>
  headK (look' 0 e) (fun v0 => k .normal [(0, v0)] f1 u1))

noncomputable def g22_6 (C : Go.ScE.Callee) : Env → Fram → List Fram → KX → R0 := fun e fr up k =>
  hCall C 30 [(demK (demK (look' 0 e))), (.c (.p (pI 27))), (.c (.p (pI 0))), (.c (.p (pI 25)))] fr up (fun r1 f1 u1 =>
  headK (look' 0 e) (fun v0 => k .normal [(0, v0)] f1 u1))

noncomputable def g22_7 (C : Go.ScE.Callee) : Env → Fram → List Fram → KX → R0 := fun e fr up k =>
  hCall C 30 [(demK (demK (look' 0 e))), (.c (.p (pI 27))), (.c (.p (pI 0))), (.c (.p (pI 26)))] fr up (fun r1 f1 u1 =>
  headK (look' 0 e) (fun v0 => k .normal [(0, v0)] f1 u1))

noncomputable def g22_8 (C : Go.ScE.Callee) : Env → Fram → List Fram → KX → R0 := fun e fr up k =>
  hCall C 48 [(demK (demK (look' 0 e))), (.c (.p (pI 2)))] fr up (fun r1 f1 u1 =>
  headK (look' 0 e) (fun v0 => k .normal [(0, v0)] f1 u1))

noncomputable def g22_9 (C : Go.ScE.Callee) : Env → Fram → List Fram → KX → R0 := fun e fr up k =>
  hCall C 49 [(.c (.p (pI 5))), (.c (.p (pI 1)))] fr up (fun r1 f1 u1 =>
  hCall C 33 [(demK (demK (look' 0 e))), (.c (.p (pI 27))), (demK r1)] f1 u1 (fun r2 f2 u2 =>
  headK (look' 0 e) (fun v0 => k .normal [(0, v0)] f2 u2)))

noncomputable def g22_10 (C : Go.ScE.Callee) : Env → Fram → List Fram → KX → R0 := fun e fr up k =>
  hCall C 30 [(demK (demK (look' 0 e))), (.c (.p (pI 27))), (.c (.p (pI 29))), (.c (.p (pI 0)))] fr up (fun r1 f1 u1 =>
  headK (look' 0 e) (fun v0 => k .normal [(0, v0)] f1 u1))

noncomputable def g22_11 (C : Go.ScE.Callee) : Env → Fram → List Fram → KX → R0 := fun e fr up k =>
  hCall C 47 [(demK (demK (look' 0 e))), (.c (.p (pI 27))), (.c (.p (pI 10))), (.c (.p (pI 3)))] fr up (fun r1 f1 u1 =>
  headK (look' 0 e) (fun v0 => k .normal [(0, v0)] f1 u1))

noncomputable def g22_12 (C : Go.ScE.Callee) : Env → Fram → List Fram → KX → R0 := fun e fr up k =>
  hCall C 30 [(demK (demK (look' 0 e))), (.c (.p (pI 27))), (.c (.p (pI 29))), (.c (.p (pI 1)))] fr up (fun r1 f1 u1 =>
  headK (look' 0 e) (fun v0 => k .normal [(0, v0)] f1 u1))

noncomputable def g22_13 (C : Go.ScE.Callee) : Env → Fram → List Fram → KX → R0 := fun e fr up k =>
  hCall C 50 [(demK (demK (look' 0 e))), (.c (.p (pI 25))), (.c (.p (pI 2)))] fr up (fun r1 f1 u1 =>
  headK (look' 0 e) (fun v0 => k .normal [(0, v0)] f1 u1))

noncomputable def g22_14 (C : Go.ScE.Callee) : Env → Fram → List Fram → KX → R0 := fun e fr up k =>
  hCall C 33 [(demK (demK (look' 0 e))), (.c (.p (pI 28))), (.c (.p (pI 0)))] fr up (fun r1 f1 u1 =>
  headK (look' 0 e) (fun v0 => k .normal [(0, v0)] f1 u1))

noncomputable def g22_15 (C : Go.ScE.Callee) : Env → Fram → List Fram → KX → R0 := fun e fr up k =>
  hCall C 36 [(demK (demK (look' 0 e))), (.c (.p (pI 10)))] fr up (fun r1 f1 u1 =>
  k .normal [] f1 u1)

noncomputable def h22 : KC := fun C n => seqK (g22_0 C) (seqK (g22_1 C) (seqK (g22_2 C) (seqK (g22_3 C) (seqK (g22_4 C) (seqK (g22_5 C) (seqK (g22_6 C) (seqK (g22_7 C) (seqK (g22_8 C) (seqK (g22_9 C) (seqK (g22_10 C) (seqK (g22_11 C) (seqK (g22_12 C) (seqK (g22_13 C) (seqK (g22_14 C) (g22_15 C)))))))))))))))
theorem h22_eq (C : Go.ScE.Callee) (n : Nat) : h22 C n = evK C n x22.body := by kernel_rfl

noncomputable def g23_0 (C : Go.ScE.Callee) : Env → Fram → List Fram → KX → R0 := fun e fr up k =>
  hCall C 27 [(demK (demK (look' 0 e))), (.c (.p (pI 2)))] fr up (fun r1 f1 u1 =>
  headK (look' 0 e) (fun v0 => k .normal [(0, v0)] f1 u1))

noncomputable def g23_1 (C : Go.ScE.Callee) : Env → Fram → List Fram → KX → R0 := fun e fr up k =>
  hCall C 38 [(demK (demK (look' 0 e))), (.c (.p (pI 1))), (.c (.p (pI 27))), (.c (.p (pI 29))), (.c (.p (pI 26)))] fr up (fun r1 f1 u1 =>
  headK (look' 0 e) (fun v0 => k .normal [(0, v0)] f1 u1))

noncomputable def g23_2 (C : Go.ScE.Callee) : Env → Fram → List Fram → KX → R0 := fun e fr up k =>
  hCall C 31 [(demK (demK (look' 0 e))), (.c (.p (pI 28))), (.c (.p (pI 0))), (.c (.p (pI 29)))] fr up (fun r1 f1 u1 =>
  headK (look' 0 e) (fun v0 => k .normal [(0, v0)] f1 u1))

noncomputable def g23_3 (C : Go.ScE.Callee) : Env → Fram → List Fram → KX → R0 := fun e fr up k =>
  hCall C 35 [(demK (demK (look' 0 e))), (.c (.p (pI 26))), (.c (.p (pI 28))), (.c (.p (pI 27))), (.c (.p (pI 1)))] fr up (fun r1 f1 u1 =>
  headK (look' 0 e) (fun v0 => k .normal [(0, v0)] f1 u1))

noncomputable def g23_4 (C : Go.ScE.Callee) : Env → Fram → List Fram → KX → R0 := fun e fr up k =>
  hCall C 39 [(demK (demK (look' 0 e))), (.c (.p (pI 31)))] fr up (fun r1 f1 u1 =>
  headK (look' 0 e) (fun v0 => k .normal [(0, v0)] f1 u1))

noncomputable def g23_5 (C : Go.ScE.Callee) : Env → Fram → List Fram → KX → R0 := fun e fr up k =>
  hCall C 27 [(demK (demK (look' 0 e))), (.c (.p (pI 3)))] fr up (fun r1 f1 u1 =>
  headK (look' 0 e) (fun v0 => k .normal [(0, v0)] f1 u1))

noncomputable def g23_6 (C : Go.ScE.Callee) : Env → Fram → List Fram → KX → R0 := fun e fr up k =>
  hCall C 51 [(demK (demK (look' 0 e))), (.c (.p (pI 16))), (.c (.p (pI 26))), (.c (.p (pI 25))), (.c (.p (pI 7)))] fr up (fun r1 f1 u1 =>
  headK (look' 0 e) (fun v0 => k .normal [(0, v0)] f1 u1))

noncomputable def g23_7 (C : Go.ScE.Callee) : Env → Fram → List Fram → KX → R0 := fun e fr up k =>
  hCall C 33 [(demK (demK (look' 0 e))), (.c (.p (pI 27))), (.c (.p (pI 1)))] fr up (fun r1 f1 u1 =>
  headK (look' 0 e) (fun v0 => k .normal [(0, v0)] f1 u1))

noncomputable def g23_8 (C : Go.ScE.Callee) : Env → Fram → List Fram → KX → R0 := fun e fr up k =>
  hCall C 28 [(.c (.p (pI 90)))] fr up (fun r1 f1 u1 =>
  hCall C 35 [(demK (demK (look' 0 e))), (.c (.p (pI 25))), (.c (.p (pI 26))), (.c (.p (pI 27))), (demK r1)] f1 u1 (fun r2 f2 u2 =>
  headK (look' 0 e) (fun v0 => k .normal [(0, v0)] f2 u2)))

noncomputable def g23_9 (C : Go.ScE.Callee) : Env → Fram → List Fram → KX → R0 := fun e fr up k =>
  hCall C 51 [(demK (demK (look' 0 e))), (.c (.p (pI 19))), (.c (.p (pI 26))), (.c (.p (pI 25))), (.c (.p (pI 3)))] fr up (fun r1 f1 u1 =>
  headK (look' 0 e) (fun v0 => k .normal [(0, v0)] f1 u1))

noncomputable def g23_10 (C : Go.ScE.Callee) : Env → Fram → List Fram → KX → R0 := fun e fr up k =>
  hCall C 31 [(demK (demK (look' 0 e))), (.c (.p (pI 27))), (.c (.p (pI 26))), (.c (.p (pI 0)))] fr up (fun r1 f1 u1 =>
  headK (look' 0 e) (fun v0 => k .normal [(0, v0)] f1 u1))

noncomputable def g23_11 (C : Go.ScE.Callee) : Env → Fram → List Fram → KX → R0 := fun e fr up k =>
  hCall C 51 [(demK (demK (look' 0 e))), (.c (.p (pI 19))), (.c (.p (pI 27))), (.c (.p (pI 27))), (.c (.p (pI 3)))] fr up (fun r1 f1 u1 =>
  headK (look' 0 e) (fun v0 => k .normal [(0, v0)] f1 u1))

noncomputable def g23_12 (C : Go.ScE.Callee) : Env → Fram → List Fram → KX → R0 := fun e fr up k =>
  hCall C 51 [(demK (demK (look' 0 e))), (.c (.p (pI 16))), (.c (.p (pI 27))), (.c (.p (pI 27))), (.c (.p (pI 7)))] fr up (fun r1 f1 u1 =>
  headK (look' 0 e) (fun v0 => k .normal [(0, v0)] f1 u1))

noncomputable def g23_13 (C : Go.ScE.Callee) : Env → Fram → List Fram → KX → R0 := fun e fr up k =>
  hCall C 33 [(demK (demK (look' 0 e))), (.c (.p (pI 31))), (.c (.p (pI 5)))] fr up (fun r1 f1 u1 =>
  headK (look' 0 e) (fun v0 => k .normal [(0, v0)] f1 u1))

noncomputable def g23_14 (C : Go.ScE.Callee) : Env → Fram → List Fram → KX → R0 := fun e fr up k =>
  hCall C 35 [(demK (demK (look' 0 e))), (.c (.p (pI 24))), (.c (.p (pI 27))), (.c (.p (pI 31))), (.c (.p (pI 2009)))] fr up (fun r1 f1 u1 =>
  headK (look' 0 e) (fun v0 => k .normal [(0, v0)] f1 u1))

noncomputable def g23_15 (C : Go.ScE.Callee) : Env → Fram → List Fram → KX → R0 := fun e fr up k =>
  hCall C 33 [(demK (demK (look' 0 e))), (.c (.p (pI 31))), (.c (.p (pI 7)))] fr up (fun r1 f1 u1 =>
  headK (look' 0 e) (fun v0 => k .normal [(0, v0)] f1 u1))

noncomputable def g23_16 (C : Go.ScE.Callee) : Env → Fram → List Fram → KX → R0 := fun e fr up k =>
  hCall C 28 [(.c (.p (pI 90)))] fr up (fun r1 f1 u1 =>
  hCall C 35 [(demK (demK (look' 0 e))), (.c (.p (pI 25))), (.c (.p (pI 27))), (.c (.p (pI 31))), (demK r1)] f1 u1 (fun r2 f2 u2 =>
  headK (look' 0 e) (fun v0 => k .normal [(0, v0)] f2 u2)))

noncomputable def g23_17 (C : Go.ScE.Callee) : Env → Fram → List Fram → KX → R0 := fun e fr up k =>
  hCall C 27 [(demK (demK (look' 0 e))), (.c (.p (pI 2009)))] fr up (fun r1 f1 u1 =>
  headK (look' 0 e) (fun v0 => k .normal [(0, v0)] f1 u1))

noncomputable def g23_18 (C : Go.ScE.Callee) : Env → Fram → List Fram → KX → R0 := fun e fr up k =>
  hCall C 31 [(demK (demK (look' 0 e))), (.c (.p (pI 26))), (.c (.p (pI 26))), (.c (.p (pI 1)))] fr up (fun r1 f1 u1 =>
  headK (look' 0 e) (fun v0 => k .normal [(0, v0)] f1 u1))

noncomputable def g23_19 (C : Go.ScE.Callee) : Env → Fram → List Fram → KX → R0 := fun e fr up k =>
  hCall C 51 [(demK (demK (look' 0 e))), (.c (.p (pI 19))), (.c (.p (pI 26))), (.c (.p (pI 26))), (.c (.p (pI 3)))] fr up (fun r1 f1 u1 =>
  headK (look' 0 e) (fun v0 => k .normal [(0, v0)] f1 u1))

noncomputable def g23_20 (C : Go.ScE.Callee) : Env → Fram → List Fram → KX → R0 := fun e fr up k =>
  hCall C 39 [(demK (demK (look' 0 e))), (.c (.p (pI 26)))] fr up (fun r1 f1 u1 =>
  headK (look' 0 e) (fun v0 => k .normal [(0, v0)] f1 u1))

noncomputable def g23_21 (C : Go.ScE.Callee) : Env → Fram → List Fram → KX → R0 := fun e fr up k =>
  hCall C 27 [(demK (demK (look' 0 e))), (.c (.p (pI 4)))] fr up (fun r1 f1 u1 =>
  headK (look' 0 e) (fun v0 => k .normal [(0, v0)] f1 u1))

noncomputable def g23_22 (C : Go.ScE.Callee) : Env → Fram → List Fram → KX → R0 := fun e fr up k =>
  hCall C 31 [(demK (demK (look' 0 e))), (.c (.p (pI 26))), (.c (.p (pI 30))), (.c (.p (pI (-1))))] fr up (fun r1 f1 u1 =>
  headK (look' 0 e) (fun v0 => k .normal [(0, v0)] f1 u1))

noncomputable def g23_23 (C : Go.ScE.Callee) : Env → Fram → List Fram → KX → R0 := fun e fr up k =>
  hCall C 51 [(demK (demK (look' 0 e))), (.c (.p (pI 19))), (.c (.p (pI 26))), (.c (.p (pI 26))), (.c (.p (pI 15)))] fr up (fun r1 f1 u1 =>
  headK (look' 0 e) (fun v0 => k .normal [(0, v0)] f1 u1))

noncomputable def g23_24 (C : Go.ScE.Callee) : Env → Fram → List Fram → KX → R0 := fun e fr up k =>
  hCall C 39 [(demK (demK (look' 0 e))), (.c (.p (pI 26)))] fr up (fun r1 f1 u1 =>
  k .normal [] f1 u1)

noncomputable def h23 : KC := fun C n => seqK (g23_0 C) (seqK (g23_1 C) (seqK (g23_2 C) (seqK (g23_3 C) (seqK (g23_4 C) (seqK (g23_5 C) (seqK (g23_6 C) (seqK (g23_7 C) (seqK (g23_8 C) (seqK (g23_9 C) (seqK (g23_10 C) (seqK (g23_11 C) (seqK (g23_12 C) (seqK (g23_13 C) (seqK (g23_14 C) (seqK (g23_15 C) (seqK (g23_16 C) (seqK (g23_17 C) (seqK (g23_18 C) (seqK (g23_19 C) (seqK (g23_20 C) (seqK (g23_21 C) (seqK (g23_22 C) (seqK (g23_23 C) (g23_24 C))))))))))))))))))))))))
theorem h23_eq (C : Go.ScE.Callee) (n : Nat) : h23 C n = evK C n x23.body := by kernel_rfl

noncomputable def g24_0 (C : Go.ScE.Callee) : Env → Fram → List Fram → KX → R0 := fun e fr up k =>
  hCall C 27 [(demK (demK (look' 0 e))), (.c (.p (pI 6)))] fr up (fun r1 f1 u1 =>
  headK (look' 0 e) (fun v0 => k .normal [(0, v0)] f1 u1))

noncomputable def g24_1 (C : Go.ScE.Callee) : Env → Fram → List Fram → KX → R0 := fun e fr up k =>
  hCall C 33 [(demK (demK (look' 0 e))), (.c (.p (pI 26))), (.c (.p (pI 33)))] fr up (fun r1 f1 u1 =>
  headK (look' 0 e) (fun v0 => k .normal [(0, v0)] f1 u1))

noncomputable def g24_2 (C : Go.ScE.Callee) : Env → Fram → List Fram → KX → R0 := fun e fr up k =>
  hCall C 35 [(demK (demK (look' 0 e))), (.c (.p (pI 25))), (.c (.p (pI 26))), (.c (.p (pI 30))), (.c (.p (pI 2000)))] fr up (fun r1 f1 u1 =>
  headK (look' 0 e) (fun v0 => k .normal [(0, v0)] f1 u1))

noncomputable def g24_3 (C : Go.ScE.Callee) : Env → Fram → List Fram → KX → R0 := fun e fr up k =>
  hCall C 39 [(demK (demK (look' 0 e))), (.c (.p (pI 31)))] fr up (fun r1 f1 u1 =>
  headK (look' 0 e) (fun v0 => k .normal [(0, v0)] f1 u1))

noncomputable def g24_4 (C : Go.ScE.Callee) : Env → Fram → List Fram → KX → R0 := fun e fr up k =>
  hCall C 27 [(demK (demK (look' 0 e))), (.c (.p (pI 2000)))] fr up (fun r1 f1 u1 =>
  headK (look' 0 e) (fun v0 => k .normal [(0, v0)] f1 u1))

noncomputable def g24_5 (C : Go.ScE.Callee) : Env → Fram → List Fram → KX → R0 := fun e fr up k =>
  hCall C 30 [(demK (demK (look' 0 e))), (.c (.p (pI 31))), (.c (.p (pI 0))), (.c (.p (pI 27)))] fr up (fun r1 f1 u1 =>
  headK (look' 0 e) (fun v0 => k .normal [(0, v0)] f1 u1))

noncomputable def g24_6 (C : Go.ScE.Callee) : Env → Fram → List Fram → KX → R0 := fun e fr up k =>
  hCall C 51 [(demK (demK (look' 0 e))), (.c (.p (pI 15))), (.c (.p (pI 26))), (.c (.p (pI 30))), (.c (.p (pI (-33))))] fr up (fun r1 f1 u1 =>
  headK (look' 0 e) (fun v0 => k .normal [(0, v0)] f1 u1))

noncomputable def g24_7 (C : Go.ScE.Callee) : Env → Fram → List Fram → KX → R0 := fun e fr up k =>
  hCall C 51 [(demK (demK (look' 0 e))), (.c (.p (pI 18))), (.c (.p (pI 27))), (.c (.p (pI 26))), (.c (.p (pI 1)))] fr up (fun r1 f1 u1 =>
  headK (look' 0 e) (fun v0 => k .normal [(0, v0)] f1 u1))

noncomputable def g24_8 (C : Go.ScE.Callee) : Env → Fram → List Fram → KX → R0 := fun e fr up k =>
  hCall C 38 [(demK (demK (look' 0 e))), (.c (.p (pI 1))), (.c (.p (pI 26))), (.c (.p (pI 26))), (.c (.p (pI 27)))] fr up (fun r1 f1 u1 =>
  headK (look' 0 e) (fun v0 => k .normal [(0, v0)] f1 u1))

noncomputable def g24_9 (C : Go.ScE.Callee) : Env → Fram → List Fram → KX → R0 := fun e fr up k =>
  hCall C 34 [(demK (demK (look' 0 e))), (.c (.p (pI 31))), (.c (.p (pI 2)))] fr up (fun r1 f1 u1 =>
  headK (look' 0 e) (fun v0 => k .normal [(0, v0)] f1 u1))

noncomputable def g24_10 (C : Go.ScE.Callee) : Env → Fram → List Fram → KX → R0 := fun e fr up k =>
  hCall C 31 [(demK (demK (look' 0 e))), (.c (.p (pI 31))), (.c (.p (pI 0))), (.c (.p (pI 25)))] fr up (fun r1 f1 u1 =>
  headK (look' 0 e) (fun v0 => k .normal [(0, v0)] f1 u1))

noncomputable def g24_11 (C : Go.ScE.Callee) : Env → Fram → List Fram → KX → R0 := fun e fr up k =>
  hCall C 51 [(demK (demK (look' 0 e))), (.c (.p (pI 18))), (.c (.p (pI 27))), (.c (.p (pI 29))), (.c (.p (pI 3)))] fr up (fun r1 f1 u1 =>
  headK (look' 0 e) (fun v0 => k .normal [(0, v0)] f1 u1))

noncomputable def g24_12 (C : Go.ScE.Callee) : Env → Fram → List Fram → KX → R0 := fun e fr up k =>
  hCall C 51 [(demK (demK (look' 0 e))), (.c (.p (pI 17))), (.c (.p (pI 27))), (.c (.p (pI 27))), (.c (.p (pI 1)))] fr up (fun r1 f1 u1 =>
  headK (look' 0 e) (fun v0 => k .normal [(0, v0)] f1 u1))

noncomputable def g24_13 (C : Go.ScE.Callee) : Env → Fram → List Fram → KX → R0 := fun e fr up k =>
  hCall C 30 [(demK (demK (look' 0 e))), (.c (.p (pI 27))), (.c (.p (pI 0))), (.c (.p (pI 25)))] fr up (fun r1 f1 u1 =>
  headK (look' 0 e) (fun v0 => k .normal [(0, v0)] f1 u1))

noncomputable def g24_14 (C : Go.ScE.Callee) : Env → Fram → List Fram → KX → R0 := fun e fr up k =>
  hCall C 27 [(demK (demK (look' 0 e))), (.c (.p (pI 2001)))] fr up (fun r1 f1 u1 =>
  headK (look' 0 e) (fun v0 => k .normal [(0, v0)] f1 u1))

noncomputable def g24_15 (C : Go.ScE.Callee) : Env → Fram → List Fram → KX → R0 := fun e fr up k =>
  hCall C 52 [(demK (demK (look' 0 e)))] fr up (fun r1 f1 u1 =>
  headK (look' 0 e) (fun v0 => k .normal [(0, v0)] f1 u1))

noncomputable def g24_16 (C : Go.ScE.Callee) : Env → Fram → List Fram → KX → R0 := fun e fr up k =>
  hCall C 33 [(demK (demK (look' 0 e))), (.c (.p (pI 27))), (.c (.p (pI 33)))] fr up (fun r1 f1 u1 =>
  headK (look' 0 e) (fun v0 => k .normal [(0, v0)] f1 u1))

noncomputable def g24_17 (C : Go.ScE.Callee) : Env → Fram → List Fram → KX → R0 := fun e fr up k =>
  hCall C 35 [(demK (demK (look' 0 e))), (.c (.p (pI 25))), (.c (.p (pI 30))), (.c (.p (pI 27))), (.c (.p (pI 2001)))] fr up (fun r1 f1 u1 =>
  headK (look' 0 e) (fun v0 => k .normal [(0, v0)] f1 u1))

noncomputable def g24_18 (C : Go.ScE.Callee) : Env → Fram → List Fram → KX → R0 := fun e fr up k =>
  hCall C 31 [(demK (demK (look' 0 e))), (.c (.p (pI 31))), (.c (.p (pI 0))), (.c (.p (pI 27)))] fr up (fun r1 f1 u1 =>
  headK (look' 0 e) (fun v0 => k .normal [(0, v0)] f1 u1))

noncomputable def g24_19 (C : Go.ScE.Callee) : Env → Fram → List Fram → KX → R0 := fun e fr up k =>
  hCall C 39 [(demK (demK (look' 0 e))), (.c (.p (pI 31)))] fr up (fun r1 f1 u1 =>
  k .normal [] f1 u1)

noncomputable def h24 : KC := fun C n => seqK (g24_0 C) (seqK (g24_1 C) (seqK (g24_2 C) (seqK (g24_3 C) (seqK (g24_4 C) (seqK (g24_5 C) (seqK (g24_6 C) (seqK (g24_7 C) (seqK (g24_8 C) (seqK (g24_9 C) (seqK (g24_10 C) (seqK (g24_11 C) (seqK (g24_12 C) (seqK (g24_13 C) (seqK (g24_14 C) (seqK (g24_15 C) (seqK (g24_16 C) (seqK (g24_17 C) (seqK (g24_18 C) (g24_19 C)))))))))))))))))))
theorem h24_eq (C : Go.ScE.Callee) (n : Nat) : h24 C n = evK C n x24.body := by kernel_rfl

noncomputable def g25_0 (C : Go.ScE.Callee) : Env → Fram → List Fram → KX → R0 := fun e fr up k =>
  hCall C 27 [(demK (demK (look' 0 e))), (.c (.p (pI 5)))] fr up (fun r1 f1 u1 =>
  headK (look' 0 e) (fun v0 => k .normal [(0, v0)] f1 u1))

noncomputable def g25_1 (C : Go.ScE.Callee) : Env → Fram → List Fram → KX → R0 := fun e fr up k =>
  hCall C 31 [(demK (demK (look' 0 e))), (.c (.p (pI 26))), (.c (.p (pI 0))), (.c (.p (pI 25)))] fr up (fun r1 f1 u1 =>
  headK (look' 0 e) (fun v0 => k .normal [(0, v0)] f1 u1))

noncomputable def g25_2 (C : Go.ScE.Callee) : Env → Fram → List Fram → KX → R0 := fun e fr up k =>
  hCall C 33 [(demK (demK (look' 0 e))), (.c (.p (pI 27))), (.c (.p (pI 18)))] fr up (fun r1 f1 u1 =>
  headK (look' 0 e) (fun v0 => k .normal [(0, v0)] f1 u1))

noncomputable def g25_3 (C : Go.ScE.Callee) : Env → Fram → List Fram → KX → R0 := fun e fr up k =>
  hCall C 35 [(demK (demK (look' 0 e))), (.c (.p (pI 25))), (.c (.p (pI 26))), (.c (.p (pI 27))), (.c (.p (pI 2007)))] fr up (fun r1 f1 u1 =>
  headK (look' 0 e) (fun v0 => k .normal [(0, v0)] f1 u1))

noncomputable def g25_4 (C : Go.ScE.Callee) : Env → Fram → List Fram → KX → R0 := fun e fr up k =>
  hCall C 51 [(demK (demK (look' 0 e))), (.c (.p (pI 0))), (.c (.p (pI 0))), (.c (.p (pI 0))), (.c (.p (pI 0)))] fr up (fun r1 f1 u1 =>
  headK (look' 0 e) (fun v0 => k .normal [(0, v0)] f1 u1))

noncomputable def g25_5 (C : Go.ScE.Callee) : Env → Fram → List Fram → KX → R0 := fun e fr up k =>
  hCall C 27 [(demK (demK (look' 0 e))), (.c (.p (pI 2007)))] fr up (fun r1 f1 u1 =>
  headK (look' 0 e) (fun v0 => k .normal [(0, v0)] f1 u1))

noncomputable def g25_6 (C : Go.ScE.Callee) : Env → Fram → List Fram → KX → R0 := fun e fr up k =>
  hCall C 51 [(demK (demK (look' 0 e))), (.c (.p (pI 19))), (.c (.p (pI 26))), (.c (.p (pI 26))), (.c (.p (pI 3)))] fr up (fun r1 f1 u1 =>
  headK (look' 0 e) (fun v0 => k .normal [(0, v0)] f1 u1))

noncomputable def g25_7 (C : Go.ScE.Callee) : Env → Fram → List Fram → KX → R0 := fun e fr up k =>
  hCall C 31 [(demK (demK (look' 0 e))), (.c (.p (pI 27))), (.c (.p (pI 26))), (.c (.p (pI 1)))] fr up (fun r1 f1 u1 =>
  headK (look' 0 e) (fun v0 => k .normal [(0, v0)] f1 u1))

noncomputable def g25_8 (C : Go.ScE.Callee) : Env → Fram → List Fram → KX → R0 := fun e fr up k =>
  hCall C 30 [(demK (demK (look' 0 e))), (.c (.p (pI 27))), (.c (.p (pI 0))), (.c (.p (pI 25)))] fr up (fun r1 f1 u1 =>
  headK (look' 0 e) (fun v0 => k .normal [(0, v0)] f1 u1))

noncomputable def g25_9 (C : Go.ScE.Callee) : Env → Fram → List Fram → KX → R0 := fun e fr up k =>
  hCall C 31 [(demK (demK (look' 0 e))), (.c (.p (pI 27))), (.c (.p (pI 26))), (.c (.p (pI 0)))] fr up (fun r1 f1 u1 =>
  headK (look' 0 e) (fun v0 => k .normal [(0, v0)] f1 u1))

noncomputable def g25_10 (C : Go.ScE.Callee) : Env → Fram → List Fram → KX → R0 := fun e fr up k =>
  hCall C 51 [(demK (demK (look' 0 e))), (.c (.p (pI 19))), (.c (.p (pI 27))), (.c (.p (pI 27))), (.c (.p (pI 6)))] fr up (fun r1 f1 u1 =>
  headK (look' 0 e) (fun v0 => k .normal [(0, v0)] f1 u1))

noncomputable def g25_11 (C : Go.ScE.Callee) : Env → Fram → List Fram → KX → R0 := fun e fr up k =>
  hCall C 38 [(demK (demK (look' 0 e))), (.c (.p (pI 1))), (.c (.p (pI 27))), (.c (.p (pI 27))), (.c (.p (pI 26)))] fr up (fun r1 f1 u1 =>
  headK (look' 0 e) (fun v0 => k .normal [(0, v0)] f1 u1))

noncomputable def g25_12 (C : Go.ScE.Callee) : Env → Fram → List Fram → KX → R0 := fun e fr up k =>
  hCall C 51 [(demK (demK (look' 0 e))), (.c (.p (pI 15))), (.c (.p (pI 26))), (.c (.p (pI 26))), (.c (.p (pI 2)))] fr up (fun r1 f1 u1 =>
  headK (look' 0 e) (fun v0 => k .normal [(0, v0)] f1 u1))

noncomputable def g25_13 (C : Go.ScE.Callee) : Env → Fram → List Fram → KX → R0 := fun e fr up k =>
  hCall C 33 [(demK (demK (look' 0 e))), (.c (.p (pI 30))), (.c (.p (pI 33)))] fr up (fun r1 f1 u1 =>
  headK (look' 0 e) (fun v0 => k .normal [(0, v0)] f1 u1))

noncomputable def g25_14 (C : Go.ScE.Callee) : Env → Fram → List Fram → KX → R0 := fun e fr up k =>
  hCall C 27 [(demK (demK (look' 0 e))), (.c (.p (pI 2004)))] fr up (fun r1 f1 u1 =>
  headK (look' 0 e) (fun v0 => k .normal [(0, v0)] f1 u1))

noncomputable def g25_15 (C : Go.ScE.Callee) : Env → Fram → List Fram → KX → R0 := fun e fr up k =>
  hCall C 35 [(demK (demK (look' 0 e))), (.c (.p (pI 26))), (.c (.p (pI 27))), (.c (.p (pI 26))), (.c (.p (pI 2008)))] fr up (fun r1 f1 u1 =>
  headK (look' 0 e) (fun v0 => k .normal [(0, v0)] f1 u1))

noncomputable def g25_16 (C : Go.ScE.Callee) : Env → Fram → List Fram → KX → R0 := fun e fr up k =>
  hCall C 31 [(demK (demK (look' 0 e))), (.c (.p (pI 28))), (.c (.p (pI 26))), (.c (.p (pI 0)))] fr up (fun r1 f1 u1 =>
  headK (look' 0 e) (fun v0 => k .normal [(0, v0)] f1 u1))

noncomputable def g25_17 (C : Go.ScE.Callee) : Env → Fram → List Fram → KX → R0 := fun e fr up k =>
  hCall C 30 [(demK (demK (look' 0 e))), (.c (.p (pI 28))), (.c (.p (pI 30))), (.c (.p (pI 0)))] fr up (fun r1 f1 u1 =>
  headK (look' 0 e) (fun v0 => k .normal [(0, v0)] f1 u1))

noncomputable def g25_18 (C : Go.ScE.Callee) : Env → Fram → List Fram → KX → R0 := fun e fr up k =>
  hCall C 51 [(demK (demK (look' 0 e))), (.c (.p (pI 15))), (.c (.p (pI 26))), (.c (.p (pI 26))), (.c (.p (pI 1)))] fr up (fun r1 f1 u1 =>
  headK (look' 0 e) (fun v0 => k .normal [(0, v0)] f1 u1))

noncomputable def g25_19 (C : Go.ScE.Callee) : Env → Fram → List Fram → KX → R0 := fun e fr up k =>
  hCall C 51 [(demK (demK (look' 0 e))), (.c (.p (pI 15))), (.c (.p (pI 30))), (.c (.p (pI 30))), (.c (.p (pI 1)))] fr up (fun r1 f1 u1 =>
  headK (look' 0 e) (fun v0 => k .normal [(0, v0)] f1 u1))

noncomputable def g25_20 (C : Go.ScE.Callee) : Env → Fram → List Fram → KX → R0 := fun e fr up k =>
  hCall C 36 [(demK (demK (look' 0 e))), (.c (.p (pI 2004)))] fr up (fun r1 f1 u1 =>
  headK (look' 0 e) (fun v0 => k .normal [(0, v0)] f1 u1))

noncomputable def g25_21 (C : Go.ScE.Callee) : Env → Fram → List Fram → KX → R0 := fun e fr up k =>
  hCall C 27 [(demK (demK (look' 0 e))), (.c (.p (pI 2008)))] fr up (fun r1 f1 u1 =>
  headK (look' 0 e) (fun v0 => k .normal [(0, v0)] f1 u1))

noncomputable def g25_22 (C : Go.ScE.Callee) : Env → Fram → List Fram → KX → R0 := fun e fr up k =>
  hCall C 36 [(demK (demK (look' 0 e))), (.c (.p (pI 4)))] fr up (fun r1 f1 u1 =>
  k .normal [] f1 u1)

noncomputable def h25 : KC := fun C n => seqK (g25_0 C) (seqK (g25_1 C) (seqK (g25_2 C) (seqK (g25_3 C) (seqK (g25_4 C) (seqK (g25_5 C) (seqK (g25_6 C) (seqK (g25_7 C) (seqK (g25_8 C) (seqK (g25_9 C) (seqK (g25_10 C) (seqK (g25_11 C) (seqK (g25_12 C) (seqK (g25_13 C) (seqK (g25_14 C) (seqK (g25_15 C) (seqK (g25_16 C) (seqK (g25_17 C) (seqK (g25_18 C) (seqK (g25_19 C) (seqK (g25_20 C) (seqK (g25_21 C) (g25_22 C))))))))))))))))))))))
theorem h25_eq (C : Go.ScE.Callee) (n : Nat) : h25 C n = evK C n x25.body := by kernel_rfl

noncomputable def g26_0 (C : Go.ScE.Callee) : Env → Fram → List Fram → KX → R0 := fun e fr up k =>
  hCall C 27 [(demK (demK (look' 0 e))), (.c (.p (pI 7)))] fr up (fun r1 f1 u1 =>
  headK (look' 0 e) (fun v0 => k .normal [(0, v0)] f1 u1))

noncomputable def g26_1 (C : Go.ScE.Callee) : Env → Fram → List Fram → KX → R0 := fun e fr up k =>
  hCall C 34 [(demK (demK (look' 0 e))), (.c (.p (pI 31))), (.c (.p (pI 6)))] fr up (fun r1 f1 u1 =>
  headK (look' 0 e) (fun v0 => k .normal [(0, v0)] f1 u1))

noncomputable def g26_2 (C : Go.ScE.Callee) : Env → Fram → List Fram → KX → R0 := fun e fr up k =>
  hCall C 48 [(demK (demK (look' 0 e))), (.c (.p (pI 3)))] fr up (fun r1 f1 u1 =>
  headK (look' 0 e) (fun v0 => k .normal [(0, v0)] f1 u1))

noncomputable def g26_3 (C : Go.ScE.Callee) : Env → Fram → List Fram → KX → R0 := fun e fr up k =>
  hCall C 49 [(.c (.p (pI 7))), (.c (.p (pI 2)))] fr up (fun r1 f1 u1 =>
  hCall C 33 [(demK (demK (look' 0 e))), (.c (.p (pI 27))), (demK r1)] f1 u1 (fun r2 f2 u2 =>
  headK (look' 0 e) (fun v0 => k .normal [(0, v0)] f2 u2)))

noncomputable def g26_4 (C : Go.ScE.Callee) : Env → Fram → List Fram → KX → R0 := fun e fr up k =>
  hCall C 30 [(demK (demK (look' 0 e))), (.c (.p (pI 27))), (.c (.p (pI 29))), (.c (.p (pI 0)))] fr up (fun r1 f1 u1 =>
  headK (look' 0 e) (fun v0 => k .normal [(0, v0)] f1 u1))

noncomputable def g26_5 (C : Go.ScE.Callee) : Env → Fram → List Fram → KX → R0 := fun e fr up k =>
  hCall C 47 [(demK (demK (look' 0 e))), (.c (.p (pI 27))), (.c (.p (pI 8))), (.c (.p (pI 3)))] fr up (fun r1 f1 u1 =>
  headK (look' 0 e) (fun v0 => k .normal [(0, v0)] f1 u1))

noncomputable def g26_6 (C : Go.ScE.Callee) : Env → Fram → List Fram → KX → R0 := fun e fr up k =>
  hCall C 30 [(demK (demK (look' 0 e))), (.c (.p (pI 27))), (.c (.p (pI 29))), (.c (.p (pI 1)))] fr up (fun r1 f1 u1 =>
  headK (look' 0 e) (fun v0 => k .normal [(0, v0)] f1 u1))

noncomputable def g26_7 (C : Go.ScE.Callee) : Env → Fram → List Fram → KX → R0 := fun e fr up k =>
  hCall C 31 [(demK (demK (look' 0 e))), (.c (.p (pI 27))), (.c (.p (pI 0))), (.c (.p (pI 25)))] fr up (fun r1 f1 u1 =>
  headK (look' 0 e) (fun v0 => k .normal [(0, v0)] f1 u1))

noncomputable def g26_8 (C : Go.ScE.Callee) : Env → Fram → List Fram → KX → R0 := fun e fr up k =>
  hCall C 30 [(demK (demK (look' 0 e))), (.c (.p (pI 27))), (.c (.p (pI 29))), (.c (.p (pI 2)))] fr up (fun r1 f1 u1 =>
  headK (look' 0 e) (fun v0 => k .normal [(0, v0)] f1 u1))

noncomputable def g26_9 (C : Go.ScE.Callee) : Env → Fram → List Fram → KX → R0 := fun e fr up k =>
  hCall C 50 [(demK (demK (look' 0 e))), (.c (.p (pI 1))), (.c (.p (pI 3)))] fr up (fun r1 f1 u1 =>
  headK (look' 0 e) (fun v0 => k .normal [(0, v0)] f1 u1))

noncomputable def g26_10 (C : Go.ScE.Callee) : Env → Fram → List Fram → KX → R0 := fun e fr up k =>
  hCall C 33 [(demK (demK (look' 0 e))), (.c (.p (pI 28))), (.c (.p (pI 1)))] fr up (fun r1 f1 u1 =>
  headK (look' 0 e) (fun v0 => k .normal [(0, v0)] f1 u1))

noncomputable def g26_11 (C : Go.ScE.Callee) : Env → Fram → List Fram → KX → R0 := fun e fr up k =>
  hCall C 36 [(demK (demK (look' 0 e))), (.c (.p (pI 3)))] fr up (fun r1 f1 u1 =>
  headK (look' 0 e) (fun v0 => k .normal [(0, v0)] f1 u1))

noncomputable def g26_12 (C : Go.ScE.Callee) : Env → Fram → List Fram → KX → R0 := fun e fr up k =>
  hCall C 27 [(demK (demK (look' 0 e))), (.c (.p (pI 8)))] fr up (fun r1 f1 u1 =>
  headK (look' 0 e) (fun v0 => k .normal [(0, v0)] f1 u1))

noncomputable def g26_13 (C : Go.ScE.Callee) : Env → Fram → List Fram → KX → R0 := fun e fr up k =>
  hCall C 33 [(demK (demK (look' 0 e))), (.c (.p (pI 26))), (.c (.p (pI 1)))] fr up (fun r1 f1 u1 =>
  headK (look' 0 e) (fun v0 => k .normal [(0, v0)] f1 u1))

noncomputable def g26_14 (C : Go.ScE.Callee) : Env → Fram → List Fram → KX → R0 := fun e fr up k =>
  hCall C 28 [(.c (.p (pI 91)))] fr up (fun r1 f1 u1 =>
  hCall C 35 [(demK (demK (look' 0 e))), (.c (.p (pI 25))), (.c (.p (pI 26))), (.c (.p (pI 28))), (demK r1)] f1 u1 (fun r2 f2 u2 =>
  headK (look' 0 e) (fun v0 => k .normal [(0, v0)] f2 u2)))

noncomputable def g26_15 (C : Go.ScE.Callee) : Env → Fram → List Fram → KX → R0 := fun e fr up k =>
  hCall C 51 [(demK (demK (look' 0 e))), (.c (.p (pI 19))), (.c (.p (pI 26))), (.c (.p (pI 25))), (.c (.p (pI 3)))] fr up (fun r1 f1 u1 =>
  headK (look' 0 e) (fun v0 => k .normal [(0, v0)] f1 u1))

noncomputable def g26_16 (C : Go.ScE.Callee) : Env → Fram → List Fram → KX → R0 := fun e fr up k =>
  hCall C 31 [(demK (demK (look' 0 e))), (.c (.p (pI 27))), (.c (.p (pI 26))), (.c (.p (pI 2)))] fr up (fun r1 f1 u1 =>
  headK (look' 0 e) (fun v0 => k .normal [(0, v0)] f1 u1))

noncomputable def g26_17 (C : Go.ScE.Callee) : Env → Fram → List Fram → KX → R0 := fun e fr up k =>
  hCall C 30 [(demK (demK (look' 0 e))), (.c (.p (pI 27))), (.c (.p (pI 0))), (.c (.p (pI 25)))] fr up (fun r1 f1 u1 =>
  headK (look' 0 e) (fun v0 => k .normal [(0, v0)] f1 u1))

noncomputable def g26_18 (C : Go.ScE.Callee) : Env → Fram → List Fram → KX → R0 := fun e fr up k =>
  hCall C 33 [(demK (demK (look' 0 e))), (.c (.p (pI 30))), (.c (.p (pI 33)))] fr up (fun r1 f1 u1 =>
  headK (look' 0 e) (fun v0 => k .normal [(0, v0)] f1 u1))

noncomputable def g26_19 (C : Go.ScE.Callee) : Env → Fram → List Fram → KX → R0 := fun e fr up k =>
  hCall C 36 [(demK (demK (look' 0 e))), (.c (.p (pI 4)))] fr up (fun r1 f1 u1 =>
  k .normal [] f1 u1)

noncomputable def h26 : KC := fun C n => seqK (g26_0 C) (seqK (g26_1 C) (seqK (g26_2 C) (seqK (g26_3 C) (seqK (g26_4 C) (seqK (g26_5 C) (seqK (g26_6 C) (seqK (g26_7 C) (seqK (g26_8 C) (seqK (g26_9 C) (seqK (g26_10 C) (seqK (g26_11 C) (seqK (g26_12 C) (seqK (g26_13 C) (seqK (g26_14 C) (seqK (g26_15 C) (seqK (g26_16 C) (seqK (g26_17 C) (seqK (g26_18 C) (g26_19 C)))))))))))))))))))
theorem h26_eq (C : Go.ScE.Callee) (n : Nat) : h26 C n = evK C n x26.body := by kernel_rfl

noncomputable def g27_0 (C : Go.ScE.Callee) : Env → Fram → List Fram → KX → R0 := fun e fr up k =>
  hBld [(pI 0), (pI 0), (pI 0), (pI 0), (pI 0), (pI 0), (pI 0), (pI 0)] [(0, 1), (6, 1)] [(.c (.p (pI 1))), (demK (demK (look' 1 e)))] fr up (fun r2 f2 u2 =>
  hCall C 53 [(demK (demK (look' 0 e))), (demK r2)] f2 u2 (fun r3 f3 u3 =>
  k .normal [] f3 u3))

noncomputable def h27 : KC := fun C n => g27_0 C
theorem h27_eq (C : Go.ScE.Callee) (n : Nat) : h27 C n = evK C n x27.body := by kernel_rfl

noncomputable def g28_0 (C : Go.ScE.Callee) : Env → Fram → List Fram → KX → R0 := fun e fr up k =>
  headK (look' 0 e) (fun v0 => k .normal [(0, v0)] fr up)

noncomputable def g28_1 (C : Go.ScE.Callee) : Env → Fram → List Fram → KX → R0 := fun e fr up k =>
  hBin .sub false (demK (demK (look' 0 e))) (.c (.p (pI 80))) fr up (fun r1 f1 u1 =>
  hBin .add false (.c (.p (pI 11))) (demK r1) f1 u1 (fun r2 f2 u2 =>
  headK (demK r2) (fun v2 => k .normal [(2, v2)] f2 u2)))

noncomputable def h28 : KC := fun C n => seqK (g28_0 C) (seqK (g28_1 C) (retK))
theorem h28_eq (C : Go.ScE.Callee) (n : Nat) : h28 C n = evK C n x28.body := by kernel_rfl

noncomputable def g29_0 (C : Go.ScE.Callee) : Env → Fram → List Fram → KX → R0 := fun e fr up k =>
  hCall C 33 [(demK (demK (look' 0 e))), (demK (demK (look' 1 e))), (demK (demK (look' 2 e)))] fr up (fun r3 f3 u3 =>
  headK (look' 0 e) (fun v0 => headK (look' 1 e) (fun v1 => k .normal [(0, v0), (1, v1)] f3 u3)))

noncomputable def g29_1 (C : Go.ScE.Callee) : Env → Fram → List Fram → KX → R0 := fun e fr up k =>
  hCall C 51 [(demK (demK (look' 0 e))), (.c (.p (pI 0))), (demK (demK (look' 1 e))), (.c (.p (pI 0))), (.c (.p (pI 0)))] fr up (fun r2 f2 u2 =>
  k .normal [] f2 u2)

noncomputable def h29 : KC := fun C n => seqK (g29_0 C) (g29_1 C)
theorem h29_eq (C : Go.ScE.Callee) (n : Nat) : h29 C n = evK C n x29.body := by kernel_rfl

noncomputable def g30_0 (C : Go.ScE.Callee) : Env → Fram → List Fram → KX → R0 := fun e fr up k =>
  hCall C 51 [(demK (demK (look' 0 e))), (.c (.p (pI 23))), (demK (demK (look' 1 e))), (demK (demK (look' 2 e))), (demK (demK (look' 3 e)))] fr up (fun r4 f4 u4 =>
  k .normal [] f4 u4)

noncomputable def h30 : KC := fun C n => g30_0 C
theorem h30_eq (C : Go.ScE.Callee) (n : Nat) : h30 C n = evK C n x30.body := by kernel_rfl

noncomputable def g31_0 (C : Go.ScE.Callee) : Env → Fram → List Fram → KX → R0 := fun e fr up k =>
  hCall C 51 [(demK (demK (look' 0 e))), (.c (.p (pI 22))), (demK (demK (look' 1 e))), (demK (demK (look' 2 e))), (demK (demK (look' 3 e)))] fr up (fun r4 f4 u4 =>
  k .normal [] f4 u4)

noncomputable def h31 : KC := fun C n => g31_0 C
theorem h31_eq (C : Go.ScE.Callee) (n : Nat) : h31 C n = evK C n x31.body := by kernel_rfl

noncomputable def g32_0 (C : Go.ScE.Callee) : Env → Fram → List Fram → KX → R0 := fun e fr up k =>
  hCall C 51 [(demK (demK (look' 0 e))), (.c (.p (pI 15))), (demK (demK (look' 1 e))), (demK (demK (look' 2 e))), (.c (.p (pI 0)))] fr up (fun r3 f3 u3 =>
  k .normal [] f3 u3)

noncomputable def h32 : KC := fun C n => g32_0 C
theorem h32_eq (C : Go.ScE.Callee) (n : Nat) : h32 C n = evK C n x32.body := by kernel_rfl

noncomputable def g33_0 (C : Go.ScE.Callee) : Env → Fram → List Fram → KX → R0 := fun e fr up k =>
  hBld [(pI 0), (pI 0), (pI 0), (pI 0), (pI 0)] [(0, 1), (1, 1)] [(.c (.p (pI 20))), (demK (demK (look' 1 e)))] fr up (fun r2 f2 u2 =>
  hBld [(pI 0), (pI 0), (pI 0), (pI 0), (pI 0), (pI 0), (pI 0), (pI 0)] [(0, 1), (1, 5), (7, 1)] [(.c (.p (pI 4))), (demK r2), (demK (demK (look' 2 e)))] f2 u2 (fun r4 f4 u4 =>
  hCall C 53 [(demK (demK (look' 0 e))), (demK r4)] f4 u4 (fun r5 f5 u5 =>
  k .normal [] f5 u5)))

noncomputable def h33 : KC := fun C n => g33_0 C
theorem h33_eq (C : Go.ScE.Callee) (n : Nat) : h33 C n = evK C n x33.body := by kernel_rfl

noncomputable def g34_0 (C : Go.ScE.Callee) : Env → Fram → List Fram → KX → R0 := fun e fr up k =>
  hBld [(pI 0), (pI 0), (pI 0), (pI 0), (pI 0)] [(0, 1), (1, 1)] [(.c (.p (pI 28))), (demK (demK (look' 1 e)))] fr up (fun r2 f2 u2 =>
  hBld [(pI 0), (pI 0), (pI 0), (pI 0), (pI 0), (pI 0), (pI 0), (pI 0)] [(0, 1), (1, 5), (6, 1)] [(.c (.p (pI 3))), (demK r2), (demK (demK (look' 2 e)))] f2 u2 (fun r4 f4 u4 =>
  hCall C 53 [(demK (demK (look' 0 e))), (demK r4)] f4 u4 (fun r5 f5 u5 =>
  k .normal [] f5 u5)))

noncomputable def h34 : KC := fun C n => g34_0 C
theorem h34_eq (C : Go.ScE.Callee) (n : Nat) : h34 C n = evK C n x34.body := by kernel_rfl

noncomputable def g35_0 (C : Go.ScE.Callee) : Env → Fram → List Fram → KX → R0 := fun e fr up k =>
  hBld [(pI 0), (pI 0), (pI 0), (pI 0), (pI 0)] [(0, 1), (1, 1), (2, 1)] [(demK (demK (look' 1 e))), (demK (demK (look' 2 e))), (demK (demK (look' 3 e)))] fr up (fun r4 f4 u4 =>
  hBld [(pI 0), (pI 0), (pI 0), (pI 0), (pI 0), (pI 0), (pI 0), (pI 0)] [(0, 1), (1, 5), (6, 1)] [(.c (.p (pI 2))), (demK r4), (demK (demK (look' 4 e)))] f4 u4 (fun r6 f6 u6 =>
  hCall C 53 [(demK (demK (look' 0 e))), (demK r6)] f6 u6 (fun r7 f7 u7 =>
  k .normal [] f7 u7)))

noncomputable def h35 : KC := fun C n => g35_0 C
theorem h35_eq (C : Go.ScE.Callee) (n : Nat) : h35 C n = evK C n x35.body := by kernel_rfl

noncomputable def g36_0 (C : Go.ScE.Callee) : Env → Fram → List Fram → KX → R0 := fun e fr up k =>
  hCall C 34 [(demK (demK (look' 0 e))), (.c (.p (pI 0))), (demK (demK (look' 1 e)))] fr up (fun r2 f2 u2 =>
  k .normal [] f2 u2)

noncomputable def h36 : KC := fun C n => g36_0 C
theorem h36_eq (C : Go.ScE.Callee) (n : Nat) : h36 C n = evK C n x36.body := by kernel_rfl

noncomputable def g37_0 (C : Go.ScE.Callee) : Env → Fram → List Fram → KX → R0 := fun e fr up k =>
  hCall C 31 [(demK (demK (look' 0 e))), (.c (.p (pI 3))), (.c (.p (pI 0))), (demK (demK (look' 1 e)))] fr up (fun r2 f2 u2 =>
  headK (look' 0 e) (fun v0 => headK (look' 1 e) (fun v1 => headK (look' 2 e) (fun v2 => k .normal [(0, v0), (1, v1), (2, v2)] f2 u2))))

noncomputable def g37_1 (C : Go.ScE.Callee) : Env → Fram → List Fram → KX → R0 := fun e fr up k =>
  hCall C 31 [(demK (demK (look' 0 e))), (.c (.p (pI 4))), (.c (.p (pI 0))), (demK (demK (look' 2 e)))] fr up (fun r2 f2 u2 =>
  headK (look' 0 e) (fun v0 => headK (look' 1 e) (fun v1 => headK (look' 2 e) (fun v2 => k .normal [(0, v0), (1, v1), (2, v2)] f2 u2))))

noncomputable def g37_2 (C : Go.ScE.Callee) : Env → Fram → List Fram → KX → R0 := fun e fr up k =>
  hCall C 30 [(demK (demK (look' 0 e))), (.c (.p (pI 4))), (.c (.p (pI 0))), (demK (demK (look' 1 e)))] fr up (fun r2 f2 u2 =>
  headK (look' 0 e) (fun v0 => headK (look' 2 e) (fun v2 => k .normal [(0, v0), (2, v2)] f2 u2)))

noncomputable def g37_3 (C : Go.ScE.Callee) : Env → Fram → List Fram → KX → R0 := fun e fr up k =>
  hCall C 30 [(demK (demK (look' 0 e))), (.c (.p (pI 3))), (.c (.p (pI 0))), (demK (demK (look' 2 e)))] fr up (fun r2 f2 u2 =>
  k .normal [] f2 u2)

noncomputable def h37 : KC := fun C n => seqK (g37_0 C) (seqK (g37_1 C) (seqK (g37_2 C) (g37_3 C)))
theorem h37_eq (C : Go.ScE.Callee) (n : Nat) : h37 C n = evK C n x37.body := by kernel_rfl

noncomputable def g38_0 (C : Go.ScE.Callee) : Env → Fram → List Fram → KX → R0 := fun e fr up k =>
  hBld [(pI 0), (pI 0), (pI 0), (pI 0), (pI 0)] [(0, 1), (1, 1), (2, 1), (3, 1)] [(demK (demK (look' 1 e))), (demK (demK (look' 2 e))), (demK (demK (look' 3 e))), (demK (demK (look' 4 e)))] fr up (fun r5 f5 u5 =>
  hBld [(pI 0), (pI 0), (pI 0), (pI 0), (pI 0), (pI 0), (pI 0), (pI 0)] [(1, 5)] [(demK r5)] f5 u5 (fun r6 f6 u6 =>
  hCall C 53 [(demK (demK (look' 0 e))), (demK r6)] f6 u6 (fun r7 f7 u7 =>
  k .normal [] f7 u7)))

noncomputable def h38 : KC := fun C n => g38_0 C
theorem h38_eq (C : Go.ScE.Callee) (n : Nat) : h38 C n = evK C n x38.body := by kernel_rfl

noncomputable def g39_0 (C : Go.ScE.Callee) : Env → Fram → List Fram → KX → R0 := fun e fr up k =>
  hCall C 51 [(demK (demK (look' 0 e))), (.c (.p (pI 29))), (.c (.p (pI 0))), (demK (demK (look' 1 e))), (.c (.p (pI 0)))] fr up (fun r2 f2 u2 =>
  k .normal [] f2 u2)

noncomputable def h39 : KC := fun C n => g39_0 C
theorem h39_eq (C : Go.ScE.Callee) (n : Nat) : h39 C n = evK C n x39.body := by kernel_rfl

noncomputable def g40_0 (C : Go.ScE.Callee) : Env → Fram → List Fram → KX → R0 := fun e fr up k =>
  hCall C 27 [(demK (demK (look' 0 e))), (.c (.p (pI 1003)))] fr up (fun r1 f1 u1 =>
  headK (look' 0 e) (fun v0 => k .normal [(0, v0)] f1 u1))

noncomputable def g40_1 (C : Go.ScE.Callee) : Env → Fram → List Fram → KX → R0 := fun e fr up k =>
  hCall C 35 [(demK (demK (look' 0 e))), (.c (.p (pI 27))), (.c (.p (pI 3))), (.c (.p (pI 4))), (.c (.p (pI 1005)))] fr up (fun r1 f1 u1 =>
  headK (look' 0 e) (fun v0 => k .normal [(0, v0)] f1 u1))

noncomputable def g40_2 (C : Go.ScE.Callee) : Env → Fram → List Fram → KX → R0 := fun e fr up k =>
  hCall C 31 [(demK (demK (look' 0 e))), (.c (.p (pI 6))), (.c (.p (pI 3))), (.c (.p (pI 0)))] fr up (fun r1 f1 u1 =>
  headK (look' 0 e) (fun v0 => k .normal [(0, v0)] f1 u1))

noncomputable def g40_3 (C : Go.ScE.Callee) : Env → Fram → List Fram → KX → R0 := fun e fr up k =>
  hCall C 51 [(demK (demK (look' 0 e))), (.c (.p (pI 16))), (.c (.p (pI 7))), (.c (.p (pI 6))), (.c (.p (pI 7)))] fr up (fun r1 f1 u1 =>
  headK (look' 0 e) (fun v0 => k .normal [(0, v0)] f1 u1))

noncomputable def g40_4 (C : Go.ScE.Callee) : Env → Fram → List Fram → KX → R0 := fun e fr up k =>
  hCall C 33 [(demK (demK (look' 0 e))), (.c (.p (pI 8))), (.c (.p (pI 1)))] fr up (fun r1 f1 u1 =>
  headK (look' 0 e) (fun v0 => k .normal [(0, v0)] f1 u1))

noncomputable def g40_5 (C : Go.ScE.Callee) : Env → Fram → List Fram → KX → R0 := fun e fr up k =>
  hCall C 35 [(demK (demK (look' 0 e))), (.c (.p (pI 25))), (.c (.p (pI 7))), (.c (.p (pI 8))), (.c (.p (pI 1004)))] fr up (fun r1 f1 u1 =>
  headK (look' 0 e) (fun v0 => k .normal [(0, v0)] f1 u1))

noncomputable def g40_6 (C : Go.ScE.Callee) : Env → Fram → List Fram → KX → R0 := fun e fr up k =>
  hCall C 51 [(demK (demK (look' 0 e))), (.c (.p (pI 19))), (.c (.p (pI 7))), (.c (.p (pI 6))), (.c (.p (pI 3)))] fr up (fun r1 f1 u1 =>
  headK (look' 0 e) (fun v0 => k .normal [(0, v0)] f1 u1))

noncomputable def g40_7 (C : Go.ScE.Callee) : Env → Fram → List Fram → KX → R0 := fun e fr up k =>
  hCall C 31 [(demK (demK (look' 0 e))), (.c (.p (pI 9))), (.c (.p (pI 7))), (.c (.p (pI 0)))] fr up (fun r1 f1 u1 =>
  headK (look' 0 e) (fun v0 => k .normal [(0, v0)] f1 u1))

noncomputable def g40_8 (C : Go.ScE.Callee) : Env → Fram → List Fram → KX → R0 := fun e fr up k =>
  hCall C 51 [(demK (demK (look' 0 e))), (.c (.p (pI 16))), (.c (.p (pI 10))), (.c (.p (pI 9))), (.c (.p (pI 7)))] fr up (fun r1 f1 u1 =>
  headK (look' 0 e) (fun v0 => k .normal [(0, v0)] f1 u1))

noncomputable def g40_9 (C : Go.ScE.Callee) : Env → Fram → List Fram → KX → R0 := fun e fr up k =>
  hCall C 35 [(demK (demK (look' 0 e))), (.c (.p (pI 24))), (.c (.p (pI 10))), (.c (.p (pI 8))), (.c (.p (pI 1007)))] fr up (fun r1 f1 u1 =>
  headK (look' 0 e) (fun v0 => k .normal [(0, v0)] f1 u1))

noncomputable def g40_10 (C : Go.ScE.Callee) : Env → Fram → List Fram → KX → R0 := fun e fr up k =>
  hCall C 51 [(demK (demK (look' 0 e))), (.c (.p (pI 19))), (.c (.p (pI 10))), (.c (.p (pI 9))), (.c (.p (pI 6)))] fr up (fun r1 f1 u1 =>
  headK (look' 0 e) (fun v0 => k .normal [(0, v0)] f1 u1))

noncomputable def g40_11 (C : Go.ScE.Callee) : Env → Fram → List Fram → KX → R0 := fun e fr up k =>
  hCall C 51 [(demK (demK (look' 0 e))), (.c (.p (pI 18))), (.c (.p (pI 6))), (.c (.p (pI 1))), (.c (.p (pI 3)))] fr up (fun r1 f1 u1 =>
  headK (look' 0 e) (fun v0 => k .normal [(0, v0)] f1 u1))

noncomputable def g40_12 (C : Go.ScE.Callee) : Env → Fram → List Fram → KX → R0 := fun e fr up k =>
  hCall C 51 [(demK (demK (look' 0 e))), (.c (.p (pI 17))), (.c (.p (pI 6))), (.c (.p (pI 6))), (.c (.p (pI 1)))] fr up (fun r1 f1 u1 =>
  headK (look' 0 e) (fun v0 => k .normal [(0, v0)] f1 u1))

noncomputable def g40_13 (C : Go.ScE.Callee) : Env → Fram → List Fram → KX → R0 := fun e fr up k =>
  hCall C 30 [(demK (demK (look' 0 e))), (.c (.p (pI 9))), (.c (.p (pI 1))), (.c (.p (pI 0)))] fr up (fun r1 f1 u1 =>
  headK (look' 0 e) (fun v0 => k .normal [(0, v0)] f1 u1))

noncomputable def g40_14 (C : Go.ScE.Callee) : Env → Fram → List Fram → KX → R0 := fun e fr up k =>
  hCall C 30 [(demK (demK (look' 0 e))), (.c (.p (pI 6))), (.c (.p (pI 7))), (.c (.p (pI 0)))] fr up (fun r1 f1 u1 =>
  headK (look' 0 e) (fun v0 => k .normal [(0, v0)] f1 u1))

noncomputable def g40_15 (C : Go.ScE.Callee) : Env → Fram → List Fram → KX → R0 := fun e fr up k =>
  hCall C 30 [(demK (demK (look' 0 e))), (.c (.p (pI 6))), (.c (.p (pI 3))), (.c (.p (pI 0)))] fr up (fun r1 f1 u1 =>
  headK (look' 0 e) (fun v0 => k .normal [(0, v0)] f1 u1))

noncomputable def g40_16 (C : Go.ScE.Callee) : Env → Fram → List Fram → KX → R0 := fun e fr up k =>
  hCall C 51 [(demK (demK (look' 0 e))), (.c (.p (pI 15))), (.c (.p (pI 1))), (.c (.p (pI 1))), (.c (.p (pI 1)))] fr up (fun r1 f1 u1 =>
  headK (look' 0 e) (fun v0 => k .normal [(0, v0)] f1 u1))

noncomputable def g40_17 (C : Go.ScE.Callee) : Env → Fram → List Fram → KX → R0 := fun e fr up k =>
  hCall C 27 [(demK (demK (look' 0 e))), (.c (.p (pI 1006)))] fr up (fun r1 f1 u1 =>
  headK (look' 0 e) (fun v0 => k .normal [(0, v0)] f1 u1))

noncomputable def g40_18 (C : Go.ScE.Callee) : Env → Fram → List Fram → KX → R0 := fun e fr up k =>
  hCall C 35 [(demK (demK (look' 0 e))), (.c (.p (pI 24))), (.c (.p (pI 10))), (.c (.p (pI 0))), (.c (.p (pI 1004)))] fr up (fun r1 f1 u1 =>
  headK (look' 0 e) (fun v0 => k .normal [(0, v0)] f1 u1))

noncomputable def g40_19 (C : Go.ScE.Callee) : Env → Fram → List Fram → KX → R0 := fun e fr up k =>
  hCall C 51 [(demK (demK (look' 0 e))), (.c (.p (pI 15))), (.c (.p (pI 7))), (.c (.p (pI 7))), (.c (.p (pI 1)))] fr up (fun r1 f1 u1 =>
  headK (look' 0 e) (fun v0 => k .normal [(0, v0)] f1 u1))

noncomputable def g40_20 (C : Go.ScE.Callee) : Env → Fram → List Fram → KX → R0 := fun e fr up k =>
  hCall C 31 [(demK (demK (look' 0 e))), (.c (.p (pI 9))), (.c (.p (pI 7))), (.c (.p (pI 0)))] fr up (fun r1 f1 u1 =>
  headK (look' 0 e) (fun v0 => k .normal [(0, v0)] f1 u1))

noncomputable def g40_21 (C : Go.ScE.Callee) : Env → Fram → List Fram → KX → R0 := fun e fr up k =>
  hCall C 30 [(demK (demK (look' 0 e))), (.c (.p (pI 9))), (.c (.p (pI 1))), (.c (.p (pI 0)))] fr up (fun r1 f1 u1 =>
  headK (look' 0 e) (fun v0 => k .normal [(0, v0)] f1 u1))

noncomputable def g40_22 (C : Go.ScE.Callee) : Env → Fram → List Fram → KX → R0 := fun e fr up k =>
  hCall C 51 [(demK (demK (look' 0 e))), (.c (.p (pI 15))), (.c (.p (pI 1))), (.c (.p (pI 1))), (.c (.p (pI 1)))] fr up (fun r1 f1 u1 =>
  headK (look' 0 e) (fun v0 => k .normal [(0, v0)] f1 u1))

noncomputable def g40_23 (C : Go.ScE.Callee) : Env → Fram → List Fram → KX → R0 := fun e fr up k =>
  hCall C 51 [(demK (demK (look' 0 e))), (.c (.p (pI 15))), (.c (.p (pI 10))), (.c (.p (pI 10))), (.c (.p (pI (-1))))] fr up (fun r1 f1 u1 =>
  headK (look' 0 e) (fun v0 => k .normal [(0, v0)] f1 u1))

noncomputable def g40_24 (C : Go.ScE.Callee) : Env → Fram → List Fram → KX → R0 := fun e fr up k =>
  hCall C 36 [(demK (demK (look' 0 e))), (.c (.p (pI 1006)))] fr up (fun r1 f1 u1 =>
  headK (look' 0 e) (fun v0 => k .normal [(0, v0)] f1 u1))

noncomputable def g40_25 (C : Go.ScE.Callee) : Env → Fram → List Fram → KX → R0 := fun e fr up k =>
  hCall C 27 [(demK (demK (look' 0 e))), (.c (.p (pI 1007)))] fr up (fun r1 f1 u1 =>
  headK (look' 0 e) (fun v0 => k .normal [(0, v0)] f1 u1))

noncomputable def g40_26 (C : Go.ScE.Callee) : Env → Fram → List Fram → KX → R0 := fun e fr up k =>
  hCall C 30 [(demK (demK (look' 0 e))), (.c (.p (pI 9))), (.c (.p (pI 3))), (.c (.p (pI 0)))] fr up (fun r1 f1 u1 =>
  headK (look' 0 e) (fun v0 => k .normal [(0, v0)] f1 u1))

noncomputable def g40_27 (C : Go.ScE.Callee) : Env → Fram → List Fram → KX → R0 := fun e fr up k =>
  hCall C 27 [(demK (demK (look' 0 e))), (.c (.p (pI 1004)))] fr up (fun r1 f1 u1 =>
  headK (look' 0 e) (fun v0 => k .normal [(0, v0)] f1 u1))

noncomputable def g40_28 (C : Go.ScE.Callee) : Env → Fram → List Fram → KX → R0 := fun e fr up k =>
  hCall C 51 [(demK (demK (look' 0 e))), (.c (.p (pI 15))), (.c (.p (pI 3))), (.c (.p (pI 3))), (.c (.p (pI 1)))] fr up (fun r1 f1 u1 =>
  headK (look' 0 e) (fun v0 => k .normal [(0, v0)] f1 u1))

noncomputable def g40_29 (C : Go.ScE.Callee) : Env → Fram → List Fram → KX → R0 := fun e fr up k =>
  hCall C 36 [(demK (demK (look' 0 e))), (.c (.p (pI 1003)))] fr up (fun r1 f1 u1 =>
  headK (look' 0 e) (fun v0 => k .normal [(0, v0)] f1 u1))

noncomputable def g40_30 (C : Go.ScE.Callee) : Env → Fram → List Fram → KX → R0 := fun e fr up k =>
  hCall C 27 [(demK (demK (look' 0 e))), (.c (.p (pI 1005)))] fr up (fun r1 f1 u1 =>
  headK (look' 0 e) (fun v0 => k .normal [(0, v0)] f1 u1))

noncomputable def g40_31 (C : Go.ScE.Callee) : Env → Fram → List Fram → KX → R0 := fun e fr up k =>
  hCall C 39 [(demK (demK (look' 0 e))), (.c (.p (pI 5)))] fr up (fun r1 f1 u1 =>
  k .normal [] f1 u1)

noncomputable def h40 : KC := fun C n => seqK (g40_0 C) (seqK (g40_1 C) (seqK (g40_2 C) (seqK (g40_3 C) (seqK (g40_4 C) (seqK (g40_5 C) (seqK (g40_6 C) (seqK (g40_7 C) (seqK (g40_8 C) (seqK (g40_9 C) (seqK (g40_10 C) (seqK (g40_11 C) (seqK (g40_12 C) (seqK (g40_13 C) (seqK (g40_14 C) (seqK (g40_15 C) (seqK (g40_16 C) (seqK (g40_17 C) (seqK (g40_18 C) (seqK (g40_19 C) (seqK (g40_20 C) (seqK (g40_21 C) (seqK (g40_22 C) (seqK (g40_23 C) (seqK (g40_24 C) (seqK (g40_25 C) (seqK (g40_26 C) (seqK (g40_27 C) (seqK (g40_28 C) (seqK (g40_29 C) (seqK (g40_30 C) (g40_31 C)))))))))))))))))))))))))))))))
theorem h40_eq (C : Go.ScE.Callee) (n : Nat) : h40 C n = evK C n x40.body := by kernel_rfl

end Go.ScX
