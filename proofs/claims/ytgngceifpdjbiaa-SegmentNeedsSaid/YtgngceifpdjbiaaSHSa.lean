/- The small code laid out, with variables for slots. -/
import Derived.Test.YtgngceifpdjbiaaSX23
import Derived.Test.YtgngceifpdjbiaaSS5
set_option maxRecDepth 100000
set_option linter.unusedVariables false
namespace Go.ScX
open Go.ScE
noncomputable def q3_0 (B : Sy) (C : Go.ScE.Callee) : Env → Fram → List Fram → KX → R0 := fun e fr up k =>
  headK (look' 0 e) (fun v0 => headK (look' 1 e) (fun v1 => headK (look' 2 e) (fun v2 => k .normal [(0, v0), (1, v1), (2, v2)] fr up)))

noncomputable def q3_1 (B : Sy) (C : Go.ScE.Callee) : Env → Fram → List Fram → KX → R0 := fun e fr up k =>
  hLenLS B  (demK (demK (look' 0 e))) fr up (fun r1 f1 u1 =>
  hBinS B .gtr false (demK r1) (.c (.p (pI 30))) f1 u1 (fun r2 f2 u2 =>
  headK (look' 0 e) (fun v0 => headK (look' 1 e) (fun v1 => headK (look' 2 e) (fun v2 => headK r2 (fun v16 => k .normal [(0, v0), (1, v1), (2, v2), (16, v16)] f2 u2))))))

noncomputable def q3_2 (B : Sy) (C : Go.ScE.Callee) : Env → Fram → List Fram → KX → R0 := fun e fr up k =>
  hGen C (.slL 3 false true) [(demK (look' 0 e)), (.c (.p (pI 30)))] fr up (fun r1 f1 u1 =>
  headK r1 (fun v0 => headK (look' 1 e) (fun v1 => headK (look' 2 e) (fun v2 => k .normal [(0, v0), (1, v1), (2, v2)] f1 u1))))

noncomputable def q3_3 (B : Sy) (C : Go.ScE.Callee) : Env → Fram → List Fram → KX → R0 := fun e fr up k =>
  hCall C 7 [] fr up (fun r0 f0 u0 =>
  hGen C (.un .not) [(demK r0)] f0 u0 (fun r1 f1 u1 =>
  guardK false (demK r1) (fun K => K (demK (look' 1 e)) f1 u1) f1 u1 (fun r3 f3 u3 =>
  guardK false (demK r1) (fun K => hBinS B .lss false (demK r3) (.c (.p (pI 0))) f3 u3 K) f3 u3 (fun r4 f4 u4 =>
  hPick  (demK (demK r1)) (.c (.p (pB true))) (demK r4) f4 u4 (fun r5 f5 u5 =>
  guardK false (demK r5) (fun K => K (demK (look' 1 e)) f5 u5) f5 u5 (fun r7 f7 u7 =>
  guardK false (demK r5) (fun K => K (demK (look' 0 e)) f7 u7) f7 u7 (fun r8 f8 u8 =>
  guardK false (demK r5) (fun K => hLenLS B  (demK r8) f8 u8 K) f8 u8 (fun r9 f9 u9 =>
  guardK false (demK r5) (fun K => hBinS B .gtr false (demK r7) (demK r9) f9 u9 K) f9 u9 (fun r10 f10 u10 =>
  hPick  (demK (demK r5)) (.c (.p (pB true))) (demK r10) f10 u10 (fun r11 f11 u11 =>
  headK (look' 0 e) (fun v0 => headK (look' 1 e) (fun v1 => headK (look' 2 e) (fun v2 => headK r11 (fun v30 => k .normal [(0, v0), (1, v1), (2, v2), (30, v30)] f11 u11))))))))))))))

noncomputable def q3_4 (B : Sy) (C : Go.ScE.Callee) : Env → Fram → List Fram → KX → R0 := fun e fr up k =>
  hCall C 7 [] fr up (fun r0 f0 u0 =>
  headK (demK r0) (fun v6 => k .normal [(6, v6)] f0 u0))

noncomputable def q3_5 (B : Sy) (C : Go.ScE.Callee) : Env → Fram → List Fram → KX → R0 := fun e fr up k =>
  hBlds 3 [(pI 0), (pI 0), (pI 0)] 0 [] [] fr up (fun r0 f0 u0 =>
  hGen C (.slL 3 false true) [(demK (demK (look' 0 e))), (demK (demK (look' 1 e)))] f0 u0 (fun r3 f3 u3 =>
  hApp 3 24 r0 (demK r3) f3 u3 (fun r4 f4 u4 =>
  headK (look' 0 e) (fun v0 => headK (look' 1 e) (fun v1 => headK (look' 2 e) (fun v2 => headK r4 (fun v7 => k .normal [(0, v0), (1, v1), (2, v2), (7, v7)] f4 u4)))))))

noncomputable def q3_6 (B : Sy) (C : Go.ScE.Callee) : Env → Fram → List Fram → KX → R0 := fun e fr up k =>
  hBinS B .rem false (demK (demK (look' 2 e))) (.c (.p (pI 3))) fr up (fun r2 f2 u2 =>
  hBinS B .add false (demK r2) (.c (.p (pI 3))) f2 u2 (fun r3 f3 u3 =>
  hBinS B .rem false (demK r3) (.c (.p (pI 3))) f3 u3 (fun r4 f4 u4 =>
  hBinS B .add false (.c (.p (pI 1))) (demK r4) f4 u4 (fun r5 f5 u5 =>
  hBld [(pI 0), (pI 0), (pI 0)] [(0, 1)] [(demK r5)] f5 u5 (fun r6 f6 u6 =>
  hBlds 3 [(pI 0), (pI 0), (pI 0)] 1 [0] [(demK r6)] f6 u6 (fun r7 f7 u7 =>
  hApp 3 24 (look' 7 e) (demK r7) f7 u7 (fun r8 f8 u8 =>
  headK (look' 0 e) (fun v0 => headK (look' 1 e) (fun v1 => headK r8 (fun v7 => k .normal [(0, v0), (1, v1), (7, v7)] f8 u8))))))))))

noncomputable def q3_7 (B : Sy) (C : Go.ScE.Callee) : Env → Fram → List Fram → KX → R0 := fun e fr up k =>
  hGen C (.slL 3 true false) [(demK (demK (look' 0 e))), (demK (demK (look' 1 e)))] fr up (fun r3 f3 u3 =>
  hApp 3 24 (look' 7 e) (demK r3) f3 u3 (fun r4 f4 u4 =>
  headK (look' 0 e) (fun v0 => headK r4 (fun v7 => k .normal [(0, v0), (7, v7)] f4 u4))))

noncomputable def q3_8 (B : Sy) (C : Go.ScE.Callee) : Env → Fram → List Fram → KX → R0 := fun e fr up k =>
  hCall C 8 [(demK (look' 7 e))] fr up (fun r1 f1 u1 =>
  headK (look' 0 e) (fun v0 => headK (look' 7 e) (fun v7 => headK (demK r1) (fun v8 => k .normal [(0, v0), (7, v7), (8, v8)] f1 u1))))

noncomputable def q3_9 (B : Sy) (C : Go.ScE.Callee) : Env → Fram → List Fram → KX → R0 := fun e fr up k =>
  hBinS B .mul false (.c (.p (pI 8))) (demK (demK (look' 8 e))) fr up (fun r1 f1 u1 =>
  hBinS B .add false (demK r1) (.c (.p (pI 80))) f1 u1 (fun r2 f2 u2 =>
  headK (look' 0 e) (fun v0 => headK (look' 7 e) (fun v7 => headK (look' 8 e) (fun v8 => headK (demK r2) (fun v9 => k .normal [(0, v0), (7, v7), (8, v8), (9, v9)] f2 u2))))))

noncomputable def q3_10 (B : Sy) (C : Go.ScE.Callee) : Env → Fram → List Fram → KX → R0 := fun e fr up k =>
  hCall C 10 [] fr up (fun r0 f0 u0 =>
  hCall C 11 [] f0 u0 (fun r1 f1 u1 =>
  hBinS B .add false (.c (.p (pI 32))) (demK (demK (look' 8 e))) f1 u1 (fun r4 f4 u4 =>
  hBinS B .mul false (.c (.p (pI 2))) (demK (demK (look' 9 e))) f4 u4 (fun r6 f6 u6 =>
  hBinS B .add false (demK r4) (demK r6) f6 u6 (fun r7 f7 u7 =>
  hCall C 12 [(look' 0 e), (demK r7)] f7 u7 (fun r8 f8 u8 =>
  hCall C 9 [r0, r1, r8, (demK (demK (look' 8 e))), (demK (demK (look' 9 e))), (.c (.p (pI 0)))] f8 u8 (fun r11 f11 u11 =>
  hGen C (.ext 0) [(demK r11)] f11 u11 (fun r13 f13 u13 =>
  hGen C (.ext 1) [r11] f13 u13 (fun r14 f14 u14 =>
  hGen C (.alloc 0 true [(pI 0), (pI 0), (pS []), (pI 0), (pI 0), (pI 0), (pI 0), (pI 0), (pI 0), (pI 0), (pI 0), (pI 0), (pI 0), (pI 0), (pI 0), (pI 0), (pI 0), (pI 0), (pI 0), (pI 0), (pI 0), (pI 0), (pI 0), (pI 0), (pI 0), (pI 0), (pI 0), (pI 0), (pI 0), (pI 0), (pI 0), (pI 0), (pI 0), (pI 0), (pI 0), (pI 0), (pI 0), (.sl 1 [])]) [] f14 u14 (fun r15 f15 u15 =>
  hStS B 38 (demK r15) r13 f15 u15 (fun r16 f16 u16 =>
  headK (look' 7 e) (fun v7 => headK (look' 8 e) (fun v8 => headK (look' 9 e) (fun v9 => headK r15 (fun v10 => headK (demK r14) (fun v11 => k .normal [(7, v7), (8, v8), (9, v9), (10, v10), (11, v11)] f16 u16))))))))))))))))

noncomputable def q3_11 (B : Sy) (C : Go.ScE.Callee) : Env → Fram → List Fram → KX → R0 := fun e fr up k =>
  hCall C 10 [] fr up (fun r0 f0 u0 =>
  hCall C 11 [] f0 u0 (fun r1 f1 u1 =>
  hBinS B .add false (.c (.p (pI 32))) (demK (demK (look' 8 e))) f1 u1 (fun r4 f4 u4 =>
  hBinS B .mul false (.c (.p (pI 2))) (demK (demK (look' 9 e))) f4 u4 (fun r6 f6 u6 =>
  hBinS B .add false (demK r4) (demK r6) f6 u6 (fun r7 f7 u7 =>
  hCall C 12 [(look' 7 e), (demK r7)] f7 u7 (fun r8 f8 u8 =>
  hCall C 9 [r0, r1, r8, (demK (demK (look' 8 e))), (demK (demK (look' 9 e))), (.c (.p (pI 0)))] f8 u8 (fun r11 f11 u11 =>
  hGen C (.ext 0) [(demK r11)] f11 u11 (fun r13 f13 u13 =>
  hGen C (.ext 1) [r11] f13 u13 (fun r14 f14 u14 =>
  hGen C (.alloc 1 true [(pI 0), (pI 0), (pS []), (pI 0), (pI 0), (pI 0), (pI 0), (pI 0), (pI 0), (pI 0), (pI 0), (pI 0), (pI 0), (pI 0), (pI 0), (pI 0), (pI 0), (pI 0), (pI 0), (pI 0), (pI 0), (pI 0), (pI 0), (pI 0), (pI 0), (pI 0), (pI 0), (pI 0), (pI 0), (pI 0), (pI 0), (pI 0), (pI 0), (pI 0), (pI 0), (pI 0), (pI 0), (.sl 1 [])]) [] f14 u14 (fun r15 f15 u15 =>
  hStS B 38 (demK r15) r13 f15 u15 (fun r16 f16 u16 =>
  headK (look' 10 e) (fun v10 => headK (look' 11 e) (fun v11 => headK r15 (fun v12 => headK (demK r14) (fun v13 => k .normal [(10, v10), (11, v11), (12, v12), (13, v13)] f16 u16)))))))))))))))

noncomputable def q3_12 (B : Sy) (C : Go.ScE.Callee) : Env → Fram → List Fram → KX → R0 := fun e fr up k =>
  guardK true (demK (demK (look' 11 e))) (fun K => K (demK (look' 13 e)) fr up) fr up (fun r2 f2 u2 =>
  hPick  (demK (demK (demK (look' 11 e)))) (demK r2) (.c (.p (pB false))) f2 u2 (fun r3 f3 u3 =>
  guardK true (demK r3) (fun K => hFa 0 (demK (look' 10 e)) f3 u3 K) f3 u3 (fun r5 f5 u5 =>
  guardK true (demK r3) (fun K => hLdS B false 1 false (demK r5) f5 u5 K) f5 u5 (fun r6 f6 u6 =>
  guardK true (demK r3) (fun K => hBinS B .eql false (demK r6) (.c (.p (pI 0))) f6 u6 K) f6 u6 (fun r7 f7 u7 =>
  hPick  (demK (demK r3)) (demK r7) (.c (.p (pB false))) f7 u7 (fun r8 f8 u8 =>
  guardK true (demK r8) (fun K => hFa 0 (demK (look' 12 e)) f8 u8 K) f8 u8 (fun r10 f10 u10 =>
  guardK true (demK r8) (fun K => hLdS B false 1 false (demK r10) f10 u10 K) f10 u10 (fun r11 f11 u11 =>
  guardK true (demK r8) (fun K => hBinS B .eql false (demK r11) (.c (.p (pI 0))) f11 u11 K) f11 u11 (fun r12 f12 u12 =>
  hPick  (demK (demK r8)) (demK r12) (.c (.p (pB false))) f12 u12 (fun r13 f13 u13 =>
  guardK true (demK r13) (fun K => hFa 1 (demK (look' 10 e)) f13 u13 K) f13 u13 (fun r15 f15 u15 =>
  guardK true (demK r13) (fun K => hLdS B false 1 false (demK r15) f15 u15 K) f15 u15 (fun r16 f16 u16 =>
  guardK true (demK r13) (fun K => hBinS B .eql false (demK r16) (.c (.p (pI 0))) f16 u16 K) f16 u16 (fun r17 f17 u17 =>
  hPick  (demK (demK r13)) (demK r17) (.c (.p (pB false))) f17 u17 (fun r18 f18 u18 =>
  guardK true (demK r18) (fun K => hFa 1 (demK (look' 12 e)) f18 u18 K) f18 u18 (fun r20 f20 u20 =>
  guardK true (demK r18) (fun K => hLdS B false 1 false (demK r20) f20 u20 K) f20 u20 (fun r21 f21 u21 =>
  guardK true (demK r18) (fun K => hBinS B .eql false (demK r21) (.c (.p (pI 0))) f21 u21 K) f21 u21 (fun r22 f22 u22 =>
  hPick  (demK (demK r18)) (demK r22) (.c (.p (pB false))) f22 u22 (fun r23 f23 u23 =>
  guardK true (demK r23) (fun K => hFa 2 (demK (look' 10 e)) f23 u23 K) f23 u23 (fun r25 f25 u25 =>
  guardK true (demK r23) (fun K => hLdS B false 1 false (demK r25) f25 u25 K) f25 u25 (fun r26 f26 u26 =>
  guardK true (demK r23) (fun K => hFa 2 (demK (look' 12 e)) f26 u26 K) f26 u26 (fun r27 f27 u27 =>
  guardK true (demK r23) (fun K => hLdS B false 1 false (demK r27) f27 u27 K) f27 u27 (fun r28 f28 u28 =>
  guardK true (demK r23) (fun K => hBinS B .eql false (demK r26) (demK r28) f28 u28 K) f28 u28 (fun r29 f29 u29 =>
  hPick  (demK (demK r23)) (demK r29) (.c (.p (pB false))) f29 u29 (fun r30 f30 u30 =>
  headK (demK r30) (fun v6 => k .normal [(6, v6)] f30 u30)))))))))))))))))))))))))

noncomputable def s3 : KS := fun B C n => seqK (q3_0 B C) (seqK (seqK (q3_1 B C) (condK (.t 16) (q3_2 B C) (skipK))) (seqK (seqK (q3_3 B C) (condK (.t 30) (seqK (q3_4 B C) (retK)) (skipK))) (seqK (q3_5 B C) (seqK (q3_6 B C) (seqK (q3_7 B C) (seqK (q3_8 B C) (seqK (q3_9 B C) (seqK (q3_10 B C) (seqK (q3_11 B C) (seqK (q3_12 B C) (retK)))))))))))
theorem s3_eq (B : Sy) (C : Go.ScE.Callee) (n : Nat) : s3 B C n = evS B C n x3.body := by kernel_rfl

noncomputable def q4_0 (B : Sy) (C : Go.ScE.Callee) : Env → Fram → List Fram → KX → R0 := fun e fr up k =>
  headK (look' 0 e) (fun v0 => headK (look' 1 e) (fun v1 => k .normal [(0, v0), (1, v1)] fr up))

noncomputable def q4_1 (B : Sy) (C : Go.ScE.Callee) : Env → Fram → List Fram → KX → R0 := fun e fr up k =>
  hCall C 7 [] fr up (fun r0 f0 u0 =>
  hGen C (.un .not) [(demK r0)] f0 u0 (fun r1 f1 u1 =>
  guardK false (demK r1) (fun K => K (demK (look' 0 e)) f1 u1) f1 u1 (fun r3 f3 u3 =>
  guardK false (demK r1) (fun K => hBinS B .lss false (demK r3) (.c (.p (pI 1))) f3 u3 K) f3 u3 (fun r4 f4 u4 =>
  hPick  (demK (demK r1)) (.c (.p (pB true))) (demK r4) f4 u4 (fun r5 f5 u5 =>
  guardK false (demK r5) (fun K => K (demK (look' 0 e)) f5 u5) f5 u5 (fun r7 f7 u7 =>
  guardK false (demK r5) (fun K => hBinS B .gtr false (demK r7) (.c (.p (pI 300))) f7 u7 K) f7 u7 (fun r8 f8 u8 =>
  hPick  (demK (demK r5)) (.c (.p (pB true))) (demK r8) f8 u8 (fun r9 f9 u9 =>
  guardK false (demK r9) (fun K => K (demK (look' 1 e)) f9 u9) f9 u9 (fun r11 f11 u11 =>
  guardK false (demK r9) (fun K => hBinS B .lss false (demK r11) (.c (.p (pI 0))) f11 u11 K) f11 u11 (fun r12 f12 u12 =>
  hPick  (demK (demK r9)) (.c (.p (pB true))) (demK r12) f12 u12 (fun r13 f13 u13 =>
  guardK false (demK r13) (fun K => K (demK (look' 1 e)) f13 u13) f13 u13 (fun r15 f15 u15 =>
  guardK false (demK r13) (fun K => hBinS B .gtr false (demK r15) (.c (.p (pI 300))) f15 u15 K) f15 u15 (fun r16 f16 u16 =>
  hPick  (demK (demK r13)) (.c (.p (pB true))) (demK r16) f16 u16 (fun r17 f17 u17 =>
  headK (look' 0 e) (fun v0 => headK (look' 1 e) (fun v1 => headK r17 (fun v29 => k .normal [(0, v0), (1, v1), (29, v29)] f17 u17)))))))))))))))))

noncomputable def q4_2 (B : Sy) (C : Go.ScE.Callee) : Env → Fram → List Fram → KX → R0 := fun e fr up k =>
  hCall C 7 [] fr up (fun r0 f0 u0 =>
  headK (demK r0) (fun v4 => k .normal [(4, v4)] f0 u0))

noncomputable def q4_3 (B : Sy) (C : Go.ScE.Callee) : Env → Fram → List Fram → KX → R0 := fun e fr up k =>
  hCall C 10 [] fr up (fun r0 f0 u0 =>
  hCall C 11 [] f0 u0 (fun r1 f1 u1 =>
  hCall C 13 [(.c (.p (pI 10)))] f1 u1 (fun r2 f2 u2 =>
  hCall C 14 [(.c (.p (pI 0))), (.c (.p (pI 28))), (.c (.p (pI 0))), (.c (.p (pI 0)))] f2 u2 (fun r3 f3 u3 =>
  hBlds 8 [(pI 0), (pI 0), (pI 0), (pI 0), (pI 0), (pI 0), (pI 0), (pI 0)] 2 [0, 1] [(demK r2), (demK r3)] f3 u3 (fun r4 f4 u4 =>
  hCall C 9 [r0, r1, r4, (demK (demK (look' 0 e))), (demK (demK (look' 1 e))), (.c (.p (pI 0)))] f4 u4 (fun r7 f7 u7 =>
  hGen C (.ext 0) [(demK r7)] f7 u7 (fun r9 f9 u9 =>
  hGen C (.ext 1) [r7] f9 u9 (fun r10 f10 u10 =>
  hGen C (.alloc 0 true [(pI 0), (pI 0), (pS []), (pI 0), (pI 0), (pI 0), (pI 0), (pI 0), (pI 0), (pI 0), (pI 0), (pI 0), (pI 0), (pI 0), (pI 0), (pI 0), (pI 0), (pI 0), (pI 0), (pI 0), (pI 0), (pI 0), (pI 0), (pI 0), (pI 0), (pI 0), (pI 0), (pI 0), (pI 0), (pI 0), (pI 0), (pI 0), (pI 0), (pI 0), (pI 0), (pI 0), (pI 0), (.sl 1 [])]) [] f10 u10 (fun r11 f11 u11 =>
  hStS B 38 (demK r11) r9 f11 u11 (fun r12 f12 u12 =>
  headK (look' 0 e) (fun v0 => headK (look' 1 e) (fun v1 => headK r11 (fun v5 => headK (demK r10) (fun v6 => k .normal [(0, v0), (1, v1), (5, v5), (6, v6)] f12 u12))))))))))))))

noncomputable def q4_4 (B : Sy) (C : Go.ScE.Callee) : Env → Fram → List Fram → KX → R0 := fun e fr up k =>
  hBinS B .lss false (demK (demK (look' 1 e))) (.c (.p (pI 2))) fr up (fun r1 f1 u1 =>
  headK (look' 0 e) (fun v0 => headK (look' 5 e) (fun v5 => headK (look' 6 e) (fun v6 => headK r1 (fun v43 => k .normal [(0, v0), (5, v5), (6, v6), (43, v43)] f1 u1)))))

noncomputable def q4_5 (B : Sy) (C : Go.ScE.Callee) : Env → Fram → List Fram → KX → R0 := fun e fr up k =>
  guardK true (demK (demK (look' 6 e))) (fun K => hFa 0 (demK (look' 5 e)) fr up K) fr up (fun r2 f2 u2 =>
  guardK true (demK (demK (look' 6 e))) (fun K => hLdS B false 1 false (demK r2) f2 u2 K) f2 u2 (fun r3 f3 u3 =>
  guardK true (demK (demK (look' 6 e))) (fun K => hBinS B .eql false (demK r3) (.c (.p (pI 0))) f3 u3 K) f3 u3 (fun r4 f4 u4 =>
  hPick  (demK (demK (demK (look' 6 e)))) (demK r4) (.c (.p (pB false))) f4 u4 (fun r5 f5 u5 =>
  guardK true (demK r5) (fun K => hFa 1 (demK (look' 5 e)) f5 u5 K) f5 u5 (fun r7 f7 u7 =>
  guardK true (demK r5) (fun K => hLdS B false 1 false (demK r7) f7 u7 K) f7 u7 (fun r8 f8 u8 =>
  guardK true (demK r5) (fun K => hBinS B .eql false (demK r8) (.c (.p (pI 95))) f8 u8 K) f8 u8 (fun r9 f9 u9 =>
  hPick  (demK (demK r5)) (demK r9) (.c (.p (pB false))) f9 u9 (fun r10 f10 u10 =>
  headK (demK r10) (fun v4 => k .normal [(4, v4)] f10 u10)))))))))

noncomputable def q4_6 (B : Sy) (C : Go.ScE.Callee) : Env → Fram → List Fram → KX → R0 := fun e fr up k =>
  headK (look' 0 e) (fun v0 => headK (look' 5 e) (fun v5 => headK (look' 6 e) (fun v6 => headK (.c (.p (pI 18))) (fun v7 => k .normal [(0, v0), (5, v5), (6, v6), (7, v7)] fr up))))

noncomputable def q4_7 (B : Sy) (C : Go.ScE.Callee) : Env → Fram → List Fram → KX → R0 := fun e fr up k =>
  hFa 5 (demK (look' 5 e)) fr up (fun r0 f0 u0 =>
  hIaa 1 32 (demK r0) (.c (.p (pI 25))) f0 u0 (fun r1 f1 u1 =>
  hLdS B false 1 false (demK r1) f1 u1 (fun r2 f2 u2 =>
  hBinS B .shr false (demK r2) (.c (.p (pK .u64 3))) f2 u2 (fun r3 f3 u3 =>
  headK (look' 0 e) (fun v0 => headK (look' 5 e) (fun v5 => headK (look' 6 e) (fun v6 => headK (look' 7 e) (fun v7 => headK (demK r3) (fun v8 => k .normal [(0, v0), (5, v5), (6, v6), (7, v7), (8, v8)] f3 u3)))))))))

noncomputable def q4_8 (B : Sy) (C : Go.ScE.Callee) : Env → Fram → List Fram → KX → R0 := fun e fr up k =>
  hBinS B .add false (.c (.p (pI 32))) (demK (demK (look' 0 e))) fr up (fun r1 f1 u1 =>
  headK (look' 5 e) (fun v5 => headK (look' 6 e) (fun v6 => headK (look' 7 e) (fun v7 => headK (look' 8 e) (fun v8 => headK (demK r1) (fun v9 => k .normal [(5, v5), (6, v6), (7, v7), (8, v8), (9, v9)] f1 u1))))))

noncomputable def q4_9 (B : Sy) (C : Go.ScE.Callee) : Env → Fram → List Fram → KX → R0 := fun e fr up k =>
  hBinS B .geq false (demK (demK (look' 8 e))) (demK (demK (look' 9 e))) fr up (fun r2 f2 u2 =>
  guardK true (demK r2) (fun K => K (demK (look' 8 e)) f2 u2) f2 u2 (fun r4 f4 u4 =>
  guardK true (demK r2) (fun K => hBinS B .add false (demK r4) (.c (.p (pI 1))) f4 u4 K) f4 u4 (fun r5 f5 u5 =>
  guardK true (demK r2) (fun K => hFa 37 (demK (look' 5 e)) f5 u5 K) f5 u5 (fun r6 f6 u6 =>
  guardK true (demK r2) (fun K => hLdS B false 1 false (demK r6) f6 u6 K) f6 u6 (fun r7 f7 u7 =>
  guardK true (demK r2) (fun K => hLenLS B  (demK r7) f7 u7 K) f7 u7 (fun r8 f8 u8 =>
  guardK true (demK r2) (fun K => hBinS B .lss false (demK r5) (demK r8) f8 u8 K) f8 u8 (fun r9 f9 u9 =>
  hPick  (demK (demK r2)) (demK r9) (.c (.p (pB false))) f9 u9 (fun r10 f10 u10 =>
  guardK true (demK r10) (fun K => hFa 5 (demK (look' 5 e)) f10 u10 K) f10 u10 (fun r12 f12 u12 =>
  guardK true (demK r10) (fun K => hIaa 1 32 (demK r12) (.c (.p (pI 25))) f12 u12 K) f12 u12 (fun r13 f13 u13 =>
  guardK true (demK r10) (fun K => hLdS B false 1 false (demK r13) f13 u13 K) f13 u13 (fun r14 f14 u14 =>
  guardK true (demK r10) (fun K => hBinS B .and false (demK r14) (.c (.p (pI 7))) f14 u14 K) f14 u14 (fun r15 f15 u15 =>
  guardK true (demK r10) (fun K => hBinS B .eql false (demK r15) (.c (.p (pI 1))) f15 u15 K) f15 u15 (fun r16 f16 u16 =>
  hPick  (demK (demK r10)) (demK r16) (.c (.p (pB false))) f16 u16 (fun r17 f17 u17 =>
  guardK true (demK r17) (fun K => hFa 37 (demK (look' 5 e)) f17 u17 K) f17 u17 (fun r19 f19 u19 =>
  guardK true (demK r17) (fun K => hLdS B false 1 false (demK r19) f19 u19 K) f19 u19 (fun r20 f20 u20 =>
  guardK true (demK r17) (fun K => K (demK (look' 8 e)) f20 u20) f20 u20 (fun r21 f21 u21 =>
  guardK true (demK r17) (fun K => hIaS B 1 (demK r20) (demK r21) f21 u21 K) f21 u21 (fun r22 f22 u22 =>
  guardK true (demK r17) (fun K => hLdS B false 1 false (demK r22) f22 u22 K) f22 u22 (fun r23 f23 u23 =>
  guardK true (demK r17) (fun K => hBinS B .eql false (demK r23) (.c (.p (pI 111))) f23 u23 K) f23 u23 (fun r24 f24 u24 =>
  hPick  (demK (demK r17)) (demK r24) (.c (.p (pB false))) f24 u24 (fun r25 f25 u25 =>
  guardK true (demK r25) (fun K => hFa 37 (demK (look' 5 e)) f25 u25 K) f25 u25 (fun r27 f27 u27 =>
  guardK true (demK r25) (fun K => hLdS B false 1 false (demK r27) f27 u27 K) f27 u27 (fun r28 f28 u28 =>
  guardK true (demK r25) (fun K => K (demK (look' 8 e)) f28 u28) f28 u28 (fun r29 f29 u29 =>
  guardK true (demK r25) (fun K => hBinS B .add false (demK r29) (.c (.p (pI 1))) f29 u29 K) f29 u29 (fun r30 f30 u30 =>
  guardK true (demK r25) (fun K => hIaS B 1 (demK r28) (demK r30) f30 u30 K) f30 u30 (fun r31 f31 u31 =>
  guardK true (demK r25) (fun K => hLdS B false 1 false (demK r31) f31 u31 K) f31 u31 (fun r32 f32 u32 =>
  guardK true (demK r25) (fun K => hFa 4 (demK (look' 5 e)) f32 u32 K) f32 u32 (fun r33 f33 u33 =>
  guardK true (demK r25) (fun K => hLdS B false 1 false (demK r33) f33 u33 K) f33 u33 (fun r34 f34 u34 =>
  guardK true (demK r25) (fun K => hBinS B .mul false (.c (.p (pI 8))) (demK r34) f34 u34 K) f34 u34 (fun r35 f35 u35 =>
  guardK true (demK r25) (fun K => hBinS B .eql false (demK r32) (demK r35) f35 u35 K) f35 u35 (fun r36 f36 u36 =>
  hPick  (demK (demK r25)) (demK r36) (.c (.p (pB false))) f36 u36 (fun r37 f37 u37 =>
  headK (look' 5 e) (fun v5 => headK (look' 6 e) (fun v6 => headK (look' 7 e) (fun v7 => headK (demK r37) (fun v10 => k .normal [(5, v5), (6, v6), (7, v7), (10, v10)] f37 u37))))))))))))))))))))))))))))))))))))

noncomputable def q4_10 (B : Sy) (C : Go.ScE.Callee) : Env → Fram → List Fram → KX → R0 := fun e fr up k =>
  headK (look' 5 e) (fun v5 => headK (look' 6 e) (fun v6 => headK (look' 7 e) (fun v7 => headK (look' 10 e) (fun v10 => headK (.c (.p (pI 1))) (fun v11 => k .normal [(5, v5), (6, v6), (7, v7), (10, v10), (11, v11)] fr up)))))

noncomputable def q4_11 (B : Sy) (C : Go.ScE.Callee) : Env → Fram → List Fram → KX → R0 := fun e fr up k =>
  hBinS B .lss false (demK (demK (look' 11 e))) (.c (.p (pI 25))) fr up (fun r1 f1 u1 =>
  headK (look' 5 e) (fun v5 => headK (look' 6 e) (fun v6 => headK (look' 7 e) (fun v7 => headK (look' 10 e) (fun v10 => headK (look' 11 e) (fun v11 => headK r1 (fun v100 => k .normal [(5, v5), (6, v6), (7, v7), (10, v10), (11, v11), (100, v100)] f1 u1)))))))

noncomputable def q4_12 (B : Sy) (C : Go.ScE.Callee) : Env → Fram → List Fram → KX → R0 := fun e fr up k =>
  hFa 5 (demK (look' 5 e)) fr up (fun r1 f1 u1 =>
  hIaa 1 32 (demK r1) (demK (demK (look' 11 e))) f1 u1 (fun r2 f2 u2 =>
  hLdS B false 1 false (demK r2) f2 u2 (fun r3 f3 u3 =>
  hBinS B .and false (demK r3) (.c (.p (pI 7))) f3 u3 (fun r4 f4 u4 =>
  hBinS B .neq false (demK r4) (.c (.p (pI 0))) f4 u4 (fun r5 f5 u5 =>
  headK (look' 5 e) (fun v5 => headK (look' 6 e) (fun v6 => headK (look' 7 e) (fun v7 => headK (look' 10 e) (fun v10 => headK (look' 11 e) (fun v11 => headK r5 (fun v108 => k .normal [(5, v5), (6, v6), (7, v7), (10, v10), (11, v11), (108, v108)] f5 u5)))))))))))

noncomputable def q4_13 (B : Sy) (C : Go.ScE.Callee) : Env → Fram → List Fram → KX → R0 := fun e fr up k =>
  headK (.c (.p (pB false))) (fun v4 => k .normal [(4, v4)] fr up)

noncomputable def q4_14 (B : Sy) (C : Go.ScE.Callee) : Env → Fram → List Fram → KX → R0 := fun e fr up k =>
  hBinS B .add false (demK (demK (look' 11 e))) (.c (.p (pI 1))) fr up (fun r1 f1 u1 =>
  headK (look' 5 e) (fun v5 => headK (look' 6 e) (fun v6 => headK (look' 7 e) (fun v7 => headK (look' 10 e) (fun v10 => headK (demK r1) (fun v11 => k .normal [(5, v5), (6, v6), (7, v7), (10, v10), (11, v11)] f1 u1))))))

noncomputable def q4_15 (B : Sy) (C : Go.ScE.Callee) : Env → Fram → List Fram → KX → R0 := fun e fr up k =>
  guardK true (demK (demK (look' 6 e))) (fun K => hFa 0 (demK (look' 5 e)) fr up K) fr up (fun r2 f2 u2 =>
  guardK true (demK (demK (look' 6 e))) (fun K => hLdS B false 1 false (demK r2) f2 u2 K) f2 u2 (fun r3 f3 u3 =>
  guardK true (demK (demK (look' 6 e))) (fun K => hBinS B .eql false (demK r3) (.c (.p (pI 0))) f3 u3 K) f3 u3 (fun r4 f4 u4 =>
  hPick  (demK (demK (demK (look' 6 e)))) (demK r4) (.c (.p (pB false))) f4 u4 (fun r5 f5 u5 =>
  guardK true (demK r5) (fun K => hFa 1 (demK (look' 5 e)) f5 u5 K) f5 u5 (fun r7 f7 u7 =>
  guardK true (demK r5) (fun K => hLdS B false 1 false (demK r7) f7 u7 K) f7 u7 (fun r8 f8 u8 =>
  guardK true (demK r5) (fun K => hBinS B .eql false (demK r8) (.c (.p (pI 0))) f8 u8 K) f8 u8 (fun r9 f9 u9 =>
  hPick  (demK (demK r5)) (demK r9) (.c (.p (pB false))) f9 u9 (fun r10 f10 u10 =>
  guardK true (demK r10) (fun K => K (demK (look' 10 e)) f10 u10) f10 u10 (fun r12 f12 u12 =>
  hPick  (demK (demK r10)) (demK r12) (.c (.p (pB false))) f12 u12 (fun r13 f13 u13 =>
  guardK true (demK r13) (fun K => hFa 5 (demK (look' 5 e)) f13 u13 K) f13 u13 (fun r15 f15 u15 =>
  guardK true (demK r13) (fun K => hIaa 1 32 (demK r15) (.c (.p (pI 30))) f15 u15 K) f15 u15 (fun r16 f16 u16 =>
  guardK true (demK r13) (fun K => hLdS B false 1 false (demK r16) f16 u16 K) f16 u16 (fun r17 f17 u17 =>
  guardK true (demK r13) (fun K => hBinS B .eql false (demK r17) (.c (.p (pI 33))) f17 u17 K) f17 u17 (fun r18 f18 u18 =>
  hPick  (demK (demK r13)) (demK r18) (.c (.p (pB false))) f18 u18 (fun r19 f19 u19 =>
  guardK true (demK r19) (fun K => hFa 5 (demK (look' 5 e)) f19 u19 K) f19 u19 (fun r21 f21 u21 =>
  guardK true (demK r19) (fun K => hIaa 1 32 (demK r21) (.c (.p (pI 29))) f21 u21 K) f21 u21 (fun r22 f22 u22 =>
  guardK true (demK r19) (fun K => hLdS B false 1 false (demK r22) f22 u22 K) f22 u22 (fun r23 f23 u23 =>
  guardK true (demK r19) (fun K => hFa 37 (demK (look' 5 e)) f23 u23 K) f23 u23 (fun r24 f24 u24 =>
  guardK true (demK r19) (fun K => hLdS B false 1 false (demK r24) f24 u24 K) f24 u24 (fun r25 f25 u25 =>
  guardK true (demK r19) (fun K => hIaS B 1 (demK r25) (.c (.p (pI 28))) f25 u25 K) f25 u25 (fun r26 f26 u26 =>
  guardK true (demK r19) (fun K => hLdS B false 1 false (demK r26) f26 u26 K) f26 u26 (fun r27 f27 u27 =>
  guardK true (demK r19) (fun K => hBinS B .add false (demK r27) (.c (.p (pI 2))) f27 u27 K) f27 u27 (fun r28 f28 u28 =>
  guardK true (demK r19) (fun K => hBinS B .eql false (demK r23) (demK r28) f28 u28 K) f28 u28 (fun r29 f29 u29 =>
  hPick  (demK (demK r19)) (demK r29) (.c (.p (pB false))) f29 u29 (fun r30 f30 u30 =>
  guardK true (demK r30) (fun K => hFa 37 (demK (look' 5 e)) f30 u30 K) f30 u30 (fun r32 f32 u32 =>
  guardK true (demK r30) (fun K => hLdS B false 1 false (demK r32) f32 u32 K) f32 u32 (fun r33 f33 u33 =>
  guardK true (demK r30) (fun K => hIaS B 1 (demK r33) (.c (.p (pI 25))) f33 u33 K) f33 u33 (fun r34 f34 u34 =>
  guardK true (demK r30) (fun K => hLdS B false 1 false (demK r34) f34 u34 K) f34 u34 (fun r35 f35 u35 =>
  guardK true (demK r30) (fun K => K (demK (look' 7 e)) f35 u35) f35 u35 (fun r36 f36 u36 =>
  guardK true (demK r30) (fun K => hBinS B .eql false (demK r35) (demK r36) f36 u36 K) f36 u36 (fun r37 f37 u37 =>
  hPick  (demK (demK r30)) (demK r37) (.c (.p (pB false))) f37 u37 (fun r38 f38 u38 =>
  guardK true (demK r38) (fun K => hFa 37 (demK (look' 5 e)) f38 u38 K) f38 u38 (fun r40 f40 u40 =>
  guardK true (demK r38) (fun K => hLdS B false 1 false (demK r40) f40 u40 K) f40 u40 (fun r41 f41 u41 =>
  guardK true (demK r38) (fun K => hIaS B 1 (demK r41) (.c (.p (pI 26))) f41 u41 K) f41 u41 (fun r42 f42 u42 =>
  guardK true (demK r38) (fun K => hLdS B false 1 false (demK r42) f42 u42 K) f42 u42 (fun r43 f43 u43 =>
  guardK true (demK r38) (fun K => K (demK (look' 7 e)) f43 u43) f43 u43 (fun r44 f44 u44 =>
  guardK true (demK r38) (fun K => hBinS B .eql false (demK r43) (demK r44) f44 u44 K) f44 u44 (fun r45 f45 u45 =>
  hPick  (demK (demK r38)) (demK r45) (.c (.p (pB false))) f45 u45 (fun r46 f46 u46 =>
  headK (demK r46) (fun v4 => k .normal [(4, v4)] f46 u46))))))))))))))))))))))))))))))))))))))))

noncomputable def s4 : KS := fun B C n => seqK (q4_0 B C) (seqK (seqK (q4_1 B C) (condK (.t 29) (seqK (q4_2 B C) (retK)) (skipK))) (seqK (q4_3 B C) (seqK (seqK (q4_4 B C) (condK (.t 43) (seqK (q4_5 B C) (retK)) (skipK))) (seqK (q4_6 B C) (seqK (q4_7 B C) (seqK (q4_8 B C) (seqK (q4_9 B C) (seqK (seqK (q4_10 B C) (blockK 0 (loopsK [5, 6, 7, 10, 11] [0] (seqK (seqK (q4_11 B C) (condK (.t 100) (skipK) (exitK 0))) (seqK (blockK 1 (seqK (q4_12 B C) (condK (.t 108) (seqK (q4_13 B C) (retK)) (skipK)))) (q4_14 B C))) n))) (seqK (q4_15 B C) (retK))))))))))
theorem s4_eq (B : Sy) (C : Go.ScE.Callee) (n : Nat) : s4 B C n = evS B C n x4.body := by kernel_rfl

noncomputable def q5_0 (B : Sy) (C : Go.ScE.Callee) : Env → Fram → List Fram → KX → R0 := fun e fr up k =>
  headK (look' 0 e) (fun v0 => headK (look' 1 e) (fun v1 => k .normal [(0, v0), (1, v1)] fr up))

noncomputable def q5_1 (B : Sy) (C : Go.ScE.Callee) : Env → Fram → List Fram → KX → R0 := fun e fr up k =>
  hCall C 7 [] fr up (fun r0 f0 u0 =>
  hGen C (.un .not) [(demK r0)] f0 u0 (fun r1 f1 u1 =>
  headK (look' 0 e) (fun v0 => headK (look' 1 e) (fun v1 => headK r1 (fun v14 => k .normal [(0, v0), (1, v1), (14, v14)] f1 u1)))))

noncomputable def q5_2 (B : Sy) (C : Go.ScE.Callee) : Env → Fram → List Fram → KX → R0 := fun e fr up k =>
  headK (.c (.p (pB false))) (fun v4 => k .normal [(4, v4)] fr up)

noncomputable def q5_3 (B : Sy) (C : Go.ScE.Callee) : Env → Fram → List Fram → KX → R0 := fun e fr up k =>
  hBinS B .rem false (demK (demK (look' 0 e))) (.c (.p (pI 16))) fr up (fun r1 f1 u1 =>
  hBinS B .add false (demK r1) (.c (.p (pI 16))) f1 u1 (fun r2 f2 u2 =>
  hBinS B .rem false (demK r2) (.c (.p (pI 16))) f2 u2 (fun r3 f3 u3 =>
  hBinS B .add false (.c (.p (pI 80))) (demK r3) f3 u3 (fun r4 f4 u4 =>
  headK (look' 1 e) (fun v1 => headK (demK r4) (fun v5 => k .normal [(1, v1), (5, v5)] f4 u4))))))

noncomputable def q5_4 (B : Sy) (C : Go.ScE.Callee) : Env → Fram → List Fram → KX → R0 := fun e fr up k =>
  hCall C 10 [] fr up (fun r0 f0 u0 =>
  hCall C 11 [] f0 u0 (fun r1 f1 u1 =>
  hCall C 13 [(.c (.p (pI 10)))] f1 u1 (fun r2 f2 u2 =>
  hBinS B .add false (.c (.p (pI (-69)))) (demK (demK (look' 5 e))) f2 u2 (fun r4 f4 u4 =>
  hCall C 15 [(.c (.p (pI 0))), (demK r4)] f4 u4 (fun r5 f5 u5 =>
  hBlds 8 [(pI 0), (pI 0), (pI 0), (pI 0), (pI 0), (pI 0), (pI 0), (pI 0)] 2 [0, 1] [(demK r2), (demK r5)] f5 u5 (fun r6 f6 u6 =>
  hCall C 9 [r0, r1, r6, (.c (.p (pI 20))), (.c (.p (pI 20))), (.c (.p (pI 0)))] f6 u6 (fun r7 f7 u7 =>
  hGen C (.ext 0) [(demK r7)] f7 u7 (fun r9 f9 u9 =>
  hGen C (.ext 1) [r7] f9 u9 (fun r10 f10 u10 =>
  hGen C (.alloc 0 true [(pI 0), (pI 0), (pS []), (pI 0), (pI 0), (pI 0), (pI 0), (pI 0), (pI 0), (pI 0), (pI 0), (pI 0), (pI 0), (pI 0), (pI 0), (pI 0), (pI 0), (pI 0), (pI 0), (pI 0), (pI 0), (pI 0), (pI 0), (pI 0), (pI 0), (pI 0), (pI 0), (pI 0), (pI 0), (pI 0), (pI 0), (pI 0), (pI 0), (pI 0), (pI 0), (pI 0), (pI 0), (.sl 1 [])]) [] f10 u10 (fun r11 f11 u11 =>
  hStS B 38 (demK r11) r9 f11 u11 (fun r12 f12 u12 =>
  headK (look' 1 e) (fun v1 => headK (look' 5 e) (fun v5 => headK r11 (fun v6 => headK (demK r10) (fun v7 => k .normal [(1, v1), (5, v5), (6, v6), (7, v7)] f12 u12)))))))))))))))

noncomputable def q5_5 (B : Sy) (C : Go.ScE.Callee) : Env → Fram → List Fram → KX → R0 := fun e fr up k =>
  hGen C (.un .not) [(demK (demK (look' 7 e)))] fr up (fun r1 f1 u1 =>
  guardK false (demK r1) (fun K => hFa 0 (demK (look' 6 e)) f1 u1 K) f1 u1 (fun r3 f3 u3 =>
  guardK false (demK r1) (fun K => hLdS B false 1 false (demK r3) f3 u3 K) f3 u3 (fun r4 f4 u4 =>
  guardK false (demK r1) (fun K => hBinS B .neq false (demK r4) (.c (.p (pI 0))) f4 u4 K) f4 u4 (fun r5 f5 u5 =>
  hPick  (demK (demK r1)) (.c (.p (pB true))) (demK r5) f5 u5 (fun r6 f6 u6 =>
  guardK false (demK r6) (fun K => hFa 1 (demK (look' 6 e)) f6 u6 K) f6 u6 (fun r8 f8 u8 =>
  guardK false (demK r6) (fun K => hLdS B false 1 false (demK r8) f8 u8 K) f8 u8 (fun r9 f9 u9 =>
  guardK false (demK r6) (fun K => K (demK (look' 5 e)) f9 u9) f9 u9 (fun r10 f10 u10 =>
  guardK false (demK r6) (fun K => hBinS B .neq false (demK r9) (demK r10) f10 u10 K) f10 u10 (fun r11 f11 u11 =>
  hPick  (demK (demK r6)) (.c (.p (pB true))) (demK r11) f11 u11 (fun r12 f12 u12 =>
  headK (look' 1 e) (fun v1 => headK r12 (fun v43 => k .normal [(1, v1), (43, v43)] f12 u12))))))))))))

noncomputable def q5_6 (B : Sy) (C : Go.ScE.Callee) : Env → Fram → List Fram → KX → R0 := fun e fr up k =>
  headK (.c (.p (pB false))) (fun v4 => k .normal [(4, v4)] fr up)

noncomputable def q5_7 (B : Sy) (C : Go.ScE.Callee) : Env → Fram → List Fram → KX → R0 := fun e fr up k =>
  hBinS B .rem false (demK (demK (look' 1 e))) (.c (.p (pI 7))) fr up (fun r1 f1 u1 =>
  hBinS B .add false (demK r1) (.c (.p (pI 7))) f1 u1 (fun r2 f2 u2 =>
  hBinS B .rem false (demK r2) (.c (.p (pI 7))) f2 u2 (fun r3 f3 u3 =>
  headK (demK r3) (fun v8 => k .normal [(8, v8)] f3 u3))))

noncomputable def q5_8 (B : Sy) (C : Go.ScE.Callee) : Env → Fram → List Fram → KX → R0 := fun e fr up k =>
  hCall C 13 [(.c (.p (pI 10)))] fr up (fun r0 f0 u0 =>
  hCall C 16 [(.c (.p (pI 26))), (.c (.p (pI 60)))] f0 u0 (fun r1 f1 u1 =>
  hCall C 14 [(.c (.p (pI 18))), (.c (.p (pI 26))), (.c (.p (pI 26))), (.c (.p (pI 3)))] f1 u1 (fun r2 f2 u2 =>
  hCall C 14 [(.c (.p (pI 19))), (.c (.p (pI 27))), (.c (.p (pI 25))), (.c (.p (pI 3)))] f2 u2 (fun r3 f3 u3 =>
  hCall C 14 [(.c (.p (pI 23))), (.c (.p (pI 26))), (.c (.p (pI 27))), (.c (.p (pI 1)))] f3 u3 (fun r4 f4 u4 =>
  hCall C 15 [(.c (.p (pI 0))), (.c (.p (pI 7)))] f4 u4 (fun r5 f5 u5 =>
  hBlds 8 [(pI 0), (pI 0), (pI 0), (pI 0), (pI 0), (pI 0), (pI 0), (pI 0)] 6 [0, 1, 2, 3, 4, 5] [(demK r0), (demK r1), (demK r2), (demK r3), (demK r4), (demK r5)] f5 u5 (fun r6 f6 u6 =>
  headK (look' 8 e) (fun v8 => headK r6 (fun v9 => k .normal [(8, v8), (9, v9)] f6 u6)))))))))

noncomputable def q5_9 (B : Sy) (C : Go.ScE.Callee) : Env → Fram → List Fram → KX → R0 := fun e fr up k =>
  hCall C 13 [(.c (.p (pI 60)))] fr up (fun r1 f1 u1 =>
  hCall C 14 [(.c (.p (pI 15))), (.c (.p (pI 25))), (.c (.p (pI 1))), (.c (.p (pI 0)))] f1 u1 (fun r2 f2 u2 =>
  hCall C 17 [(.c (.p (pI 28))), (demK (demK (look' 8 e)))] f2 u2 (fun r4 f4 u4 =>
  hCall C 15 [(.c (.p (pI 0))), (.c (.p (pI 3)))] f4 u4 (fun r5 f5 u5 =>
  hBlds 8 [(pI 0), (pI 0), (pI 0), (pI 0), (pI 0), (pI 0), (pI 0), (pI 0)] 4 [0, 1, 2, 3] [(demK r1), (demK r2), (demK r4), (demK r5)] f5 u5 (fun r6 f6 u6 =>
  hApp 8 64 (look' 9 e) (demK r6) f6 u6 (fun r7 f7 u7 =>
  headK (look' 8 e) (fun v8 => headK r7 (fun v9 => k .normal [(8, v8), (9, v9)] f7 u7))))))))

noncomputable def q5_10 (B : Sy) (C : Go.ScE.Callee) : Env → Fram → List Fram → KX → R0 := fun e fr up k =>
  hCall C 10 [] fr up (fun r0 f0 u0 =>
  hCall C 11 [] f0 u0 (fun r1 f1 u1 =>
  hCall C 9 [r0, r1, (look' 9 e), (.c (.p (pI 20))), (.c (.p (pI 20))), (.c (.p (pI 0)))] f1 u1 (fun r3 f3 u3 =>
  hGen C (.ext 0) [(demK r3)] f3 u3 (fun r5 f5 u5 =>
  hGen C (.ext 1) [r3] f5 u5 (fun r6 f6 u6 =>
  hGen C (.alloc 1 true [(pI 0), (pI 0), (pS []), (pI 0), (pI 0), (pI 0), (pI 0), (pI 0), (pI 0), (pI 0), (pI 0), (pI 0), (pI 0), (pI 0), (pI 0), (pI 0), (pI 0), (pI 0), (pI 0), (pI 0), (pI 0), (pI 0), (pI 0), (pI 0), (pI 0), (pI 0), (pI 0), (pI 0), (pI 0), (pI 0), (pI 0), (pI 0), (pI 0), (pI 0), (pI 0), (pI 0), (pI 0), (.sl 1 [])]) [] f6 u6 (fun r7 f7 u7 =>
  hStS B 38 (demK r7) r5 f7 u7 (fun r8 f8 u8 =>
  headK (look' 8 e) (fun v8 => headK r7 (fun v10 => headK (demK r6) (fun v11 => k .normal [(8, v8), (10, v10), (11, v11)] f8 u8))))))))))

noncomputable def q5_11 (B : Sy) (C : Go.ScE.Callee) : Env → Fram → List Fram → KX → R0 := fun e fr up k =>
  headK (look' 8 e) (fun v8 => headK (look' 10 e) (fun v10 => headK (look' 11 e) (fun v11 => headK (.c (.p (pI 91))) (fun v12 => k .normal [(8, v8), (10, v10), (11, v11), (12, v12)] fr up))))

noncomputable def q5_12 (B : Sy) (C : Go.ScE.Callee) : Env → Fram → List Fram → KX → R0 := fun e fr up k =>
  hBinS B .eql false (demK (demK (look' 8 e))) (.c (.p (pI 1))) fr up (fun r1 f1 u1 =>
  headK (look' 10 e) (fun v10 => headK (look' 11 e) (fun v11 => headK (look' 12 e) (fun v12 => headK r1 (fun v71 => k .normal [(10, v10), (11, v11), (12, v12), (71, v71)] f1 u1)))))

noncomputable def q5_13 (B : Sy) (C : Go.ScE.Callee) : Env → Fram → List Fram → KX → R0 := fun e fr up k =>
  headK (look' 10 e) (fun v10 => headK (look' 11 e) (fun v11 => headK (.c (.p (pI 0))) (fun v12 => k .normal [(10, v10), (11, v11), (12, v12)] fr up)))

noncomputable def q5_14 (B : Sy) (C : Go.ScE.Callee) : Env → Fram → List Fram → KX → R0 := fun e fr up k =>
  guardK true (demK (demK (look' 11 e))) (fun K => hFa 0 (demK (look' 10 e)) fr up K) fr up (fun r2 f2 u2 =>
  guardK true (demK (demK (look' 11 e))) (fun K => hLdS B false 1 false (demK r2) f2 u2 K) f2 u2 (fun r3 f3 u3 =>
  guardK true (demK (demK (look' 11 e))) (fun K => hBinS B .eql false (demK r3) (.c (.p (pI 0))) f3 u3 K) f3 u3 (fun r4 f4 u4 =>
  hPick  (demK (demK (demK (look' 11 e)))) (demK r4) (.c (.p (pB false))) f4 u4 (fun r5 f5 u5 =>
  guardK true (demK r5) (fun K => hFa 1 (demK (look' 10 e)) f5 u5 K) f5 u5 (fun r7 f7 u7 =>
  guardK true (demK r5) (fun K => hLdS B false 1 false (demK r7) f7 u7 K) f7 u7 (fun r8 f8 u8 =>
  guardK true (demK r5) (fun K => K (demK (look' 12 e)) f8 u8) f8 u8 (fun r9 f9 u9 =>
  guardK true (demK r5) (fun K => hBinS B .eql false (demK r8) (demK r9) f9 u9 K) f9 u9 (fun r10 f10 u10 =>
  hPick  (demK (demK r5)) (demK r10) (.c (.p (pB false))) f10 u10 (fun r11 f11 u11 =>
  headK (demK r11) (fun v4 => k .normal [(4, v4)] f11 u11))))))))))

noncomputable def s5 : KS := fun B C n => seqK (q5_0 B C) (seqK (seqK (q5_1 B C) (condK (.t 14) (seqK (q5_2 B C) (retK)) (skipK))) (seqK (q5_3 B C) (seqK (q5_4 B C) (seqK (seqK (q5_5 B C) (condK (.t 43) (seqK (q5_6 B C) (retK)) (skipK))) (seqK (q5_7 B C) (seqK (q5_8 B C) (seqK (q5_9 B C) (seqK (q5_10 B C) (seqK (q5_11 B C) (seqK (seqK (q5_12 B C) (condK (.t 71) (q5_13 B C) (skipK))) (seqK (q5_14 B C) (retK))))))))))))
theorem s5_eq (B : Sy) (C : Go.ScE.Callee) (n : Nat) : s5 B C n = evS B C n x5.body := by kernel_rfl

noncomputable def q6_0 (B : Sy) (C : Go.ScE.Callee) : Env → Fram → List Fram → KX → R0 := fun e fr up k =>
  headK (look' 0 e) (fun v0 => headK (look' 1 e) (fun v1 => k .normal [(0, v0), (1, v1)] fr up))

noncomputable def q6_1 (B : Sy) (C : Go.ScE.Callee) : Env → Fram → List Fram → KX → R0 := fun e fr up k =>
  hCall C 7 [] fr up (fun r0 f0 u0 =>
  hGen C (.un .not) [(demK r0)] f0 u0 (fun r1 f1 u1 =>
  guardK false (demK r1) (fun K => K (demK (look' 0 e)) f1 u1) f1 u1 (fun r3 f3 u3 =>
  guardK false (demK r1) (fun K => hBinS B .lss false (demK r3) (.c (.p (pI 0))) f3 u3 K) f3 u3 (fun r4 f4 u4 =>
  hPick  (demK (demK r1)) (.c (.p (pB true))) (demK r4) f4 u4 (fun r5 f5 u5 =>
  guardK false (demK r5) (fun K => K (demK (look' 0 e)) f5 u5) f5 u5 (fun r7 f7 u7 =>
  guardK false (demK r5) (fun K => hBinS B .gtr false (demK r7) (.c (.p (pI 1000))) f7 u7 K) f7 u7 (fun r8 f8 u8 =>
  hPick  (demK (demK r5)) (.c (.p (pB true))) (demK r8) f8 u8 (fun r9 f9 u9 =>
  guardK false (demK r9) (fun K => K (demK (look' 1 e)) f9 u9) f9 u9 (fun r11 f11 u11 =>
  guardK false (demK r9) (fun K => hBinS B .lss false (demK r11) (.c (.p (pI 2))) f11 u11 K) f11 u11 (fun r12 f12 u12 =>
  hPick  (demK (demK r9)) (.c (.p (pB true))) (demK r12) f12 u12 (fun r13 f13 u13 =>
  guardK false (demK r13) (fun K => K (demK (look' 1 e)) f13 u13) f13 u13 (fun r15 f15 u15 =>
  guardK false (demK r13) (fun K => hBinS B .gtr false (demK r15) (.c (.p (pI 1000))) f15 u15 K) f15 u15 (fun r16 f16 u16 =>
  hPick  (demK (demK r13)) (.c (.p (pB true))) (demK r16) f16 u16 (fun r17 f17 u17 =>
  headK (look' 0 e) (fun v0 => headK (look' 1 e) (fun v1 => headK r17 (fun v25 => k .normal [(0, v0), (1, v1), (25, v25)] f17 u17)))))))))))))))))

noncomputable def q6_2 (B : Sy) (C : Go.ScE.Callee) : Env → Fram → List Fram → KX → R0 := fun e fr up k =>
  hCall C 7 [] fr up (fun r0 f0 u0 =>
  headK (demK r0) (fun v4 => k .normal [(4, v4)] f0 u0))

noncomputable def q6_3 (B : Sy) (C : Go.ScE.Callee) : Env → Fram → List Fram → KX → R0 := fun e fr up k =>
  hCall C 13 [(.c (.p (pI 10)))] fr up (fun r0 f0 u0 =>
  hCall C 17 [(.c (.p (pI 26))), (demK (demK (look' 0 e)))] f0 u0 (fun r2 f2 u2 =>
  hCall C 15 [(.c (.p (pI 31))), (.c (.p (pI 2)))] f2 u2 (fun r3 f3 u3 =>
  hCall C 14 [(.c (.p (pI 0))), (.c (.p (pI 0))), (.c (.p (pI 0))), (.c (.p (pI 0)))] f3 u3 (fun r4 f4 u4 =>
  hBlds 8 [(pI 0), (pI 0), (pI 0), (pI 0), (pI 0), (pI 0), (pI 0), (pI 0)] 4 [0, 1, 2, 3] [(demK r0), (demK r2), (demK r3), (demK r4)] f4 u4 (fun r5 f5 u5 =>
  headK (look' 0 e) (fun v0 => headK (look' 1 e) (fun v1 => headK r5 (fun v5 => k .normal [(0, v0), (1, v1), (5, v5)] f5 u5))))))))

noncomputable def q6_4 (B : Sy) (C : Go.ScE.Callee) : Env → Fram → List Fram → KX → R0 := fun e fr up k =>
  hCall C 10 [] fr up (fun r0 f0 u0 =>
  hCall C 11 [] f0 u0 (fun r1 f1 u1 =>
  hCall C 9 [r0, r1, (look' 5 e), (.c (.p (pI 20))), (demK (demK (look' 1 e))), (.c (.p (pI 0)))] f1 u1 (fun r4 f4 u4 =>
  hGen C (.ext 0) [(demK r4)] f4 u4 (fun r6 f6 u6 =>
  hGen C (.ext 1) [r4] f6 u6 (fun r7 f7 u7 =>
  hGen C (.alloc 0 true [(pI 0), (pI 0), (pS []), (pI 0), (pI 0), (pI 0), (pI 0), (pI 0), (pI 0), (pI 0), (pI 0), (pI 0), (pI 0), (pI 0), (pI 0), (pI 0), (pI 0), (pI 0), (pI 0), (pI 0), (pI 0), (pI 0), (pI 0), (pI 0), (pI 0), (pI 0), (pI 0), (pI 0), (pI 0), (pI 0), (pI 0), (pI 0), (pI 0), (pI 0), (pI 0), (pI 0), (pI 0), (.sl 1 [])]) [] f7 u7 (fun r8 f8 u8 =>
  hStS B 38 (demK r8) r6 f8 u8 (fun r9 f9 u9 =>
  headK (look' 0 e) (fun v0 => headK (look' 1 e) (fun v1 => headK r8 (fun v6 => headK (demK r7) (fun v7 => k .normal [(0, v0), (1, v1), (6, v6), (7, v7)] f9 u9)))))))))))

noncomputable def q6_5 (B : Sy) (C : Go.ScE.Callee) : Env → Fram → List Fram → KX → R0 := fun e fr up k =>
  hBinS B .add false (demK (demK (look' 0 e))) (.c (.p (pI 2))) fr up (fun r1 f1 u1 =>
  hBinS B .gtr false (demK r1) (demK (demK (look' 1 e))) f1 u1 (fun r3 f3 u3 =>
  headK (look' 6 e) (fun v6 => headK (look' 7 e) (fun v7 => headK r3 (fun v44 => k .normal [(6, v6), (7, v7), (44, v44)] f3 u3)))))

noncomputable def q6_6 (B : Sy) (C : Go.ScE.Callee) : Env → Fram → List Fram → KX → R0 := fun e fr up k =>
  guardK true (demK (demK (look' 7 e))) (fun K => hFa 0 (demK (look' 6 e)) fr up K) fr up (fun r2 f2 u2 =>
  guardK true (demK (demK (look' 7 e))) (fun K => hLdS B false 1 false (demK r2) f2 u2 K) f2 u2 (fun r3 f3 u3 =>
  guardK true (demK (demK (look' 7 e))) (fun K => hBinS B .eql false (demK r3) (.c (.p (pI 0))) f3 u3 K) f3 u3 (fun r4 f4 u4 =>
  hPick  (demK (demK (demK (look' 7 e)))) (demK r4) (.c (.p (pB false))) f4 u4 (fun r5 f5 u5 =>
  guardK true (demK r5) (fun K => hFa 1 (demK (look' 6 e)) f5 u5 K) f5 u5 (fun r7 f7 u7 =>
  guardK true (demK r5) (fun K => hLdS B false 1 false (demK r7) f7 u7 K) f7 u7 (fun r8 f8 u8 =>
  guardK true (demK r5) (fun K => hBinS B .eql false (demK r8) (.c (.p (pI 95))) f8 u8 K) f8 u8 (fun r9 f9 u9 =>
  hPick  (demK (demK r5)) (demK r9) (.c (.p (pB false))) f9 u9 (fun r10 f10 u10 =>
  headK (demK r10) (fun v4 => k .normal [(4, v4)] f10 u10)))))))))

noncomputable def q6_7 (B : Sy) (C : Go.ScE.Callee) : Env → Fram → List Fram → KX → R0 := fun e fr up k =>
  guardK true (demK (demK (look' 7 e))) (fun K => hFa 0 (demK (look' 6 e)) fr up K) fr up (fun r2 f2 u2 =>
  guardK true (demK (demK (look' 7 e))) (fun K => hLdS B false 1 false (demK r2) f2 u2 K) f2 u2 (fun r3 f3 u3 =>
  guardK true (demK (demK (look' 7 e))) (fun K => hBinS B .eql false (demK r3) (.c (.p (pI 0))) f3 u3 K) f3 u3 (fun r4 f4 u4 =>
  hPick  (demK (demK (demK (look' 7 e)))) (demK r4) (.c (.p (pB false))) f4 u4 (fun r5 f5 u5 =>
  guardK true (demK r5) (fun K => hFa 1 (demK (look' 6 e)) f5 u5 K) f5 u5 (fun r7 f7 u7 =>
  guardK true (demK r5) (fun K => hLdS B false 1 false (demK r7) f7 u7 K) f7 u7 (fun r8 f8 u8 =>
  guardK true (demK r5) (fun K => hBinS B .eql false (demK r8) (.c (.p (pI 0))) f8 u8 K) f8 u8 (fun r9 f9 u9 =>
  hPick  (demK (demK r5)) (demK r9) (.c (.p (pB false))) f9 u9 (fun r10 f10 u10 =>
  guardK true (demK r10) (fun K => hFa 5 (demK (look' 6 e)) f10 u10 K) f10 u10 (fun r12 f12 u12 =>
  guardK true (demK r10) (fun K => hIaa 1 32 (demK r12) (.c (.p (pI 29))) f12 u12 K) f12 u12 (fun r13 f13 u13 =>
  guardK true (demK r10) (fun K => hLdS B false 1 false (demK r13) f13 u13 K) f13 u13 (fun r14 f14 u14 =>
  guardK true (demK r10) (fun K => hFa 37 (demK (look' 6 e)) f14 u14 K) f14 u14 (fun r15 f15 u15 =>
  guardK true (demK r10) (fun K => hLdS B false 1 false (demK r15) f15 u15 K) f15 u15 (fun r16 f16 u16 =>
  guardK true (demK r10) (fun K => hIaS B 1 (demK r16) (.c (.p (pI 28))) f16 u16 K) f16 u16 (fun r17 f17 u17 =>
  guardK true (demK r10) (fun K => hLdS B false 1 false (demK r17) f17 u17 K) f17 u17 (fun r18 f18 u18 =>
  guardK true (demK r10) (fun K => hBinS B .add false (demK r18) (.c (.p (pI 2))) f18 u18 K) f18 u18 (fun r19 f19 u19 =>
  guardK true (demK r10) (fun K => hBinS B .eql false (demK r14) (demK r19) f19 u19 K) f19 u19 (fun r20 f20 u20 =>
  hPick  (demK (demK r10)) (demK r20) (.c (.p (pB false))) f20 u20 (fun r21 f21 u21 =>
  guardK true (demK r21) (fun K => hFa 37 (demK (look' 6 e)) f21 u21 K) f21 u21 (fun r23 f23 u23 =>
  guardK true (demK r21) (fun K => hLdS B false 1 false (demK r23) f23 u23 K) f23 u23 (fun r24 f24 u24 =>
  guardK true (demK r21) (fun K => hIaS B 1 (demK r24) (.c (.p (pI 28))) f24 u24 K) f24 u24 (fun r25 f25 u25 =>
  guardK true (demK r21) (fun K => hLdS B false 1 false (demK r25) f25 u25 K) f25 u25 (fun r26 f26 u26 =>
  guardK true (demK r21) (fun K => hBinS B .eql false (demK r26) (.c (.p (pI 52))) f26 u26 K) f26 u26 (fun r27 f27 u27 =>
  hPick  (demK (demK r21)) (demK r27) (.c (.p (pB false))) f27 u27 (fun r28 f28 u28 =>
  headK (demK r28) (fun v4 => k .normal [(4, v4)] f28 u28)))))))))))))))))))))))))

noncomputable def s6 : KS := fun B C n => seqK (q6_0 B C) (seqK (seqK (q6_1 B C) (condK (.t 25) (seqK (q6_2 B C) (retK)) (skipK))) (seqK (q6_3 B C) (seqK (q6_4 B C) (seqK (seqK (q6_5 B C) (condK (.t 44) (seqK (q6_6 B C) (retK)) (skipK))) (seqK (q6_7 B C) (retK))))))
theorem s6_eq (B : Sy) (C : Go.ScE.Callee) (n : Nat) : s6 B C n = evS B C n x6.body := by kernel_rfl

noncomputable def q7_0 (B : Sy) (C : Go.ScE.Callee) : Env → Fram → List Fram → KX → R0 := fun e fr up k =>
  k .normal [] fr up

noncomputable def q7_1 (B : Sy) (C : Go.ScE.Callee) : Env → Fram → List Fram → KX → R0 := fun e fr up k =>
  hCall C 10 [] fr up (fun r0 f0 u0 =>
  headK r0 (fun v1 => k .normal [(1, v1)] f0 u0))

noncomputable def q7_2 (B : Sy) (C : Go.ScE.Callee) : Env → Fram → List Fram → KX → R0 := fun e fr up k =>
  hCall C 11 [] fr up (fun r1 f1 u1 =>
  hCall C 13 [(.c (.p (pI 10)))] f1 u1 (fun r2 f2 u2 =>
  hCall C 15 [(.c (.p (pI 0))), (.c (.p (pI 4)))] f2 u2 (fun r3 f3 u3 =>
  hBlds 8 [(pI 0), (pI 0), (pI 0), (pI 0), (pI 0), (pI 0), (pI 0), (pI 0)] 2 [0, 1] [(demK r2), (demK r3)] f3 u3 (fun r4 f4 u4 =>
  hCall C 9 [(demK (look' 1 e)), r1, r4, (.c (.p (pI 10))), (.c (.p (pI 10))), (.c (.p (pI 0)))] f4 u4 (fun r5 f5 u5 =>
  hGen C (.ext 0) [(demK r5)] f5 u5 (fun r7 f7 u7 =>
  hGen C (.ext 1) [r5] f7 u7 (fun r8 f8 u8 =>
  hGen C (.alloc 0 true [(pI 0), (pI 0), (pS []), (pI 0), (pI 0), (pI 0), (pI 0), (pI 0), (pI 0), (pI 0), (pI 0), (pI 0), (pI 0), (pI 0), (pI 0), (pI 0), (pI 0), (pI 0), (pI 0), (pI 0), (pI 0), (pI 0), (pI 0), (pI 0), (pI 0), (pI 0), (pI 0), (pI 0), (pI 0), (pI 0), (pI 0), (pI 0), (pI 0), (pI 0), (pI 0), (pI 0), (pI 0), (.sl 1 [])]) [] f8 u8 (fun r9 f9 u9 =>
  hStS B 38 (demK r9) r7 f9 u9 (fun r10 f10 u10 =>
  headK (look' 1 e) (fun v1 => headK r9 (fun v2 => headK (demK r8) (fun v3 => k .normal [(1, v1), (2, v2), (3, v3)] f10 u10))))))))))))

noncomputable def q7_3 (B : Sy) (C : Go.ScE.Callee) : Env → Fram → List Fram → KX → R0 := fun e fr up k =>
  guardK true (demK (demK (look' 3 e))) (fun K => hFa 0 (demK (look' 2 e)) fr up K) fr up (fun r2 f2 u2 =>
  guardK true (demK (demK (look' 3 e))) (fun K => hLdS B false 1 false (demK r2) f2 u2 K) f2 u2 (fun r3 f3 u3 =>
  guardK true (demK (demK (look' 3 e))) (fun K => hBinS B .eql false (demK r3) (.c (.p (pI 0))) f3 u3 K) f3 u3 (fun r4 f4 u4 =>
  hPick  (demK (demK (demK (look' 3 e)))) (demK r4) (.c (.p (pB false))) f4 u4 (fun r5 f5 u5 =>
  guardK true (demK r5) (fun K => hFa 1 (demK (look' 2 e)) f5 u5 K) f5 u5 (fun r7 f7 u7 =>
  guardK true (demK r5) (fun K => hLdS B false 1 false (demK r7) f7 u7 K) f7 u7 (fun r8 f8 u8 =>
  guardK true (demK r5) (fun K => hBinS B .eql false (demK r8) (.c (.p (pI 0))) f8 u8 K) f8 u8 (fun r9 f9 u9 =>
  hPick  (demK (demK r5)) (demK r9) (.c (.p (pB false))) f9 u9 (fun r10 f10 u10 =>
  guardK true (demK r10) (fun K => K (demK (look' 1 e)) f10 u10) f10 u10 (fun r12 f12 u12 =>
  guardK true (demK r10) (fun K => hCall C 18 [(demK r12)] f12 u12 K) f12 u12 (fun r13 f13 u13 =>
  hPick  (demK (demK r10)) (demK r13) (.c (.p (pB false))) f13 u13 (fun r14 f14 u14 =>
  headK (demK r14) (fun v0 => k .normal [(0, v0)] f14 u14))))))))))))

noncomputable def s7 : KS := fun B C n => seqK (q7_0 B C) (seqK (q7_1 B C) (seqK (q7_2 B C) (seqK (q7_3 B C) (retK))))
theorem s7_eq (B : Sy) (C : Go.ScE.Callee) (n : Nat) : s7 B C n = evS B C n x7.body := by kernel_rfl

noncomputable def q8_0 (B : Sy) (C : Go.ScE.Callee) : Env → Fram → List Fram → KX → R0 := fun e fr up k =>
  headK (look' 0 e) (fun v0 => k .normal [(0, v0)] fr up)

noncomputable def q8_1 (B : Sy) (C : Go.ScE.Callee) : Env → Fram → List Fram → KX → R0 := fun e fr up k =>
  headK (look' 0 e) (fun v0 => headK (.c (.p (pI 3))) (fun v3 => k .normal [(0, v0), (3, v3)] fr up))

noncomputable def q8_2 (B : Sy) (C : Go.ScE.Callee) : Env → Fram → List Fram → KX → R0 := fun e fr up k =>
  headK (look' 0 e) (fun v0 => headK (look' 3 e) (fun v3 => headK (.c (.p (pI 0))) (fun v4 => k .normal [(0, v0), (3, v3), (4, v4)] fr up)))

noncomputable def q8_3 (B : Sy) (C : Go.ScE.Callee) : Env → Fram → List Fram → KX → R0 := fun e fr up k =>
  hLenLS B  (demK (demK (look' 0 e))) fr up (fun r2 f2 u2 =>
  hBinS B .lss false (demK (demK (look' 4 e))) (demK r2) f2 u2 (fun r3 f3 u3 =>
  headK (look' 0 e) (fun v0 => headK (look' 3 e) (fun v3 => headK (look' 4 e) (fun v4 => headK r3 (fun v8 => k .normal [(0, v0), (3, v3), (4, v4), (8, v8)] f3 u3))))))

noncomputable def q8_4 (B : Sy) (C : Go.ScE.Callee) : Env → Fram → List Fram → KX → R0 := fun e fr up k =>
  hIaS B 3 (demK (demK (look' 0 e))) (demK (demK (look' 4 e))) fr up (fun r3 f3 u3 =>
  hLdS B true 3 false (demK r3) f3 u3 (fun r4 f4 u4 =>
  hCall C 19 [(demK r4)] f4 u4 (fun r5 f5 u5 =>
  hGen C (.fld false 1 1) [(demK r5)] f5 u5 (fun r6 f6 u6 =>
  hBinS B .add false (demK r6) (.c (.p (pI 3))) f6 u6 (fun r7 f7 u7 =>
  hBinS B .add false (demK (demK (look' 3 e))) (demK r7) f7 u7 (fun r8 f8 u8 =>
  headK (look' 0 e) (fun v0 => headK (demK r8) (fun v3 => headK (look' 4 e) (fun v4 => k .normal [(0, v0), (3, v3), (4, v4)] f8 u8)))))))))

noncomputable def q8_5 (B : Sy) (C : Go.ScE.Callee) : Env → Fram → List Fram → KX → R0 := fun e fr up k =>
  hBinS B .add false (demK (demK (look' 4 e))) (.c (.p (pI 1))) fr up (fun r1 f1 u1 =>
  headK (look' 0 e) (fun v0 => headK (look' 3 e) (fun v3 => headK (demK r1) (fun v4 => k .normal [(0, v0), (3, v3), (4, v4)] f1 u1))))

noncomputable def q8_6 (B : Sy) (C : Go.ScE.Callee) : Env → Fram → List Fram → KX → R0 := fun e fr up k =>
  headK (demK (demK (look' 3 e))) (fun v2 => k .normal [(2, v2)] fr up)

noncomputable def s8 : KS := fun B C n => seqK (q8_0 B C) (seqK (q8_1 B C) (seqK (seqK (q8_2 B C) (blockK 0 (loopsK [0, 3, 4] [] (seqK (seqK (q8_3 B C) (condK (.t 8) (skipK) (exitK 0))) (seqK (blockK 1 (q8_4 B C)) (q8_5 B C))) n))) (seqK (q8_6 B C) (retK))))
theorem s8_eq (B : Sy) (C : Go.ScE.Callee) (n : Nat) : s8 B C n = evS B C n x8.body := by kernel_rfl

noncomputable def q9_0 (B : Sy) (C : Go.ScE.Callee) : Env → Fram → List Fram → KX → R0 := fun e fr up k =>
  hGen C (.alloc 0 true [(pI 0), (pI 0), (pS []), (pI 0), (pI 0), (pI 0), (pI 0), (pI 0), (pI 0), (pI 0), (pI 0), (pI 0), (pI 0), (pI 0), (pI 0), (pI 0), (pI 0), (pI 0), (pI 0), (pI 0), (pI 0), (pI 0), (pI 0), (pI 0), (pI 0), (pI 0), (pI 0), (pI 0), (pI 0), (pI 0), (pI 0), (pI 0), (pI 0), (pI 0), (pI 0), (pI 0), (pI 0), (.sl 1 [])]) [] fr up (fun r0 f0 u0 =>
  headK (look' 0 e) (fun v0 => headK (look' 1 e) (fun v1 => headK (look' 2 e) (fun v2 => headK (look' 3 e) (fun v3 => headK (look' 4 e) (fun v4 => headK (look' 5 e) (fun v5 => headK r0 (fun v12 => k .normal [(0, v0), (1, v1), (2, v2), (3, v3), (4, v4), (5, v5), (12, v12)] f0 u0))))))))

noncomputable def q9_1 (B : Sy) (C : Go.ScE.Callee) : Env → Fram → List Fram → KX → R0 := fun e fr up k =>
  hCall C 20 [(look' 0 e), (look' 1 e), (look' 2 e), (demK (demK (look' 3 e))), (demK (demK (look' 4 e))), (demK (demK (look' 5 e)))] fr up (fun r6 f6 u6 =>
  hGen C (.ext 0) [(demK r6)] f6 u6 (fun r8 f8 u8 =>
  hGen C (.ext 1) [r6] f8 u8 (fun r9 f9 u9 =>
  hGen C (.alloc 1 true [(.sl 1 []), (.sl 1 []), (pI 0)]) [] f9 u9 (fun r10 f10 u10 =>
  hStS B 3 (demK r10) r8 f10 u10 (fun r11 f11 u11 =>
  headK (look' 12 e) (fun v12 => headK r10 (fun v14 => headK (demK r9) (fun v15 => k .normal [(12, v12), (14, v14), (15, v15)] f11 u11))))))))

noncomputable def q9_2 (B : Sy) (C : Go.ScE.Callee) : Env → Fram → List Fram → KX → R0 := fun e fr up k =>
  hLdS B true 3 false (demK (look' 14 e)) fr up (fun r0 f0 u0 =>
  hCall C 21 [r0, (.c (.p (pS []))), (.c (.p (pI 1000000)))] f0 u0 (fun r1 f1 u1 =>
  hStS B 38 (demK (look' 12 e)) r1 f1 u1 (fun r3 f3 u3 =>
  headK (look' 12 e) (fun v12 => headK (demK (demK (look' 15 e))) (fun v13 => k .normal [(12, v12), (13, v13)] f3 u3)))))

noncomputable def s9 : KS := fun B C n => seqK (q9_0 B C) (seqK (q9_1 B C) (seqK (q9_2 B C) (retK)))
theorem s9_eq (B : Sy) (C : Go.ScE.Callee) (n : Nat) : s9 B C n = evS B C n x9.body := by kernel_rfl

noncomputable def q10_0 (B : Sy) (C : Go.ScE.Callee) : Env → Fram → List Fram → KX → R0 := fun e fr up k =>
  k .normal [] fr up

noncomputable def q10_1 (B : Sy) (C : Go.ScE.Callee) : Env → Fram → List Fram → KX → R0 := fun e fr up k =>
  hBld [(.sl 8 [])] [] [] fr up (fun r0 f0 u0 =>
  hGen C (.box 0) [r0] f0 u0 (fun r1 f1 u1 =>
  headK (demK r1) (fun v1 => k .normal [(1, v1)] f1 u1)))

noncomputable def q10_2 (B : Sy) (C : Go.ScE.Callee) : Env → Fram → List Fram → KX → R0 := fun e fr up k =>
  hCall C 22 [(demK (demK (look' 1 e)))] fr up (fun r1 f1 u1 =>
  headK (look' 1 e) (fun v1 => k .normal [(1, v1)] f1 u1))

noncomputable def q10_3 (B : Sy) (C : Go.ScE.Callee) : Env → Fram → List Fram → KX → R0 := fun e fr up k =>
  hCall C 23 [(demK (demK (look' 1 e)))] fr up (fun r1 f1 u1 =>
  headK (look' 1 e) (fun v1 => k .normal [(1, v1)] f1 u1))

noncomputable def q10_4 (B : Sy) (C : Go.ScE.Callee) : Env → Fram → List Fram → KX → R0 := fun e fr up k =>
  hCall C 24 [(demK (demK (look' 1 e)))] fr up (fun r1 f1 u1 =>
  headK (look' 1 e) (fun v1 => k .normal [(1, v1)] f1 u1))

noncomputable def q10_5 (B : Sy) (C : Go.ScE.Callee) : Env → Fram → List Fram → KX → R0 := fun e fr up k =>
  hCall C 25 [(demK (demK (look' 1 e)))] fr up (fun r1 f1 u1 =>
  headK (look' 1 e) (fun v1 => k .normal [(1, v1)] f1 u1))

noncomputable def q10_6 (B : Sy) (C : Go.ScE.Callee) : Env → Fram → List Fram → KX → R0 := fun e fr up k =>
  hCall C 26 [(demK (demK (look' 1 e)))] fr up (fun r1 f1 u1 =>
  headK (look' 1 e) (fun v1 => k .normal [(1, v1)] f1 u1))

noncomputable def q10_7 (B : Sy) (C : Go.ScE.Callee) : Env → Fram → List Fram → KX → R0 := fun e fr up k =>
  headK (look' 1 e) (fun v1 => headK (.c (.p (pI 80))) (fun v2 => k .normal [(1, v1), (2, v2)] fr up))

noncomputable def q10_8 (B : Sy) (C : Go.ScE.Callee) : Env → Fram → List Fram → KX → R0 := fun e fr up k =>
  hBinS B .leq false (demK (demK (look' 2 e))) (.c (.p (pI 95))) fr up (fun r1 f1 u1 =>
  headK (look' 1 e) (fun v1 => headK (look' 2 e) (fun v2 => headK r1 (fun v16 => k .normal [(1, v1), (2, v2), (16, v16)] f1 u1))))

noncomputable def q10_9 (B : Sy) (C : Go.ScE.Callee) : Env → Fram → List Fram → KX → R0 := fun e fr up k =>
  hCall C 28 [(demK (demK (look' 2 e)))] fr up (fun r2 f2 u2 =>
  hCall C 27 [(demK (demK (look' 1 e))), (demK r2)] f2 u2 (fun r3 f3 u3 =>
  headK (look' 1 e) (fun v1 => headK (look' 2 e) (fun v2 => k .normal [(1, v1), (2, v2)] f3 u3))))

noncomputable def q10_10 (B : Sy) (C : Go.ScE.Callee) : Env → Fram → List Fram → KX → R0 := fun e fr up k =>
  hCall C 29 [(demK (demK (look' 1 e))), (.c (.p (pI 26))), (demK (demK (look' 2 e)))] fr up (fun r2 f2 u2 =>
  headK (look' 1 e) (fun v1 => headK (look' 2 e) (fun v2 => k .normal [(1, v1), (2, v2)] f2 u2)))

noncomputable def q10_11 (B : Sy) (C : Go.ScE.Callee) : Env → Fram → List Fram → KX → R0 := fun e fr up k =>
  hBinS B .add false (demK (demK (look' 2 e))) (.c (.p (pI 1))) fr up (fun r1 f1 u1 =>
  headK (look' 1 e) (fun v1 => headK (demK r1) (fun v2 => k .normal [(1, v1), (2, v2)] f1 u1)))

noncomputable def q10_12 (B : Sy) (C : Go.ScE.Callee) : Env → Fram → List Fram → KX → R0 := fun e fr up k =>
  hGen C (.nck) [(demK (demK (look' 1 e)))] fr up (fun r1 f1 u1 =>
  hFa 0 (demK r1) f1 u1 (fun r2 f2 u2 =>
  hLdS B false 1 false (demK r2) f2 u2 (fun r3 f3 u3 =>
  headK r3 (fun v0 => k .normal [(0, v0)] f3 u3))))

noncomputable def s10 : KS := fun B C n => seqK (q10_0 B C) (seqK (q10_1 B C) (seqK (q10_2 B C) (seqK (q10_3 B C) (seqK (q10_4 B C) (seqK (q10_5 B C) (seqK (q10_6 B C) (seqK (seqK (q10_7 B C) (blockK 0 (loopsK [1, 2] [0] (seqK (seqK (q10_8 B C) (condK (.t 16) (skipK) (exitK 0))) (seqK (blockK 1 (seqK (q10_9 B C) (q10_10 B C))) (q10_11 B C))) n))) (seqK (q10_12 B C) (retK)))))))))
theorem s10_eq (B : Sy) (C : Go.ScE.Callee) (n : Nat) : s10 B C n = evS B C n x10.body := by kernel_rfl

noncomputable def q11_0 (B : Sy) (C : Go.ScE.Callee) : Env → Fram → List Fram → KX → R0 := fun e fr up k =>
  k .normal [] fr up

noncomputable def q11_1 (B : Sy) (C : Go.ScE.Callee) : Env → Fram → List Fram → KX → R0 := fun e fr up k =>
  hBld [(.sl 8 [])] [] [] fr up (fun r0 f0 u0 =>
  hGen C (.box 0) [r0] f0 u0 (fun r1 f1 u1 =>
  headK (demK r1) (fun v1 => k .normal [(1, v1)] f1 u1)))

noncomputable def q11_2 (B : Sy) (C : Go.ScE.Callee) : Env → Fram → List Fram → KX → R0 := fun e fr up k =>
  hCall C 27 [(demK (demK (look' 1 e))), (.c (.p (pI 1)))] fr up (fun r1 f1 u1 =>
  headK (look' 1 e) (fun v1 => k .normal [(1, v1)] f1 u1))

noncomputable def q11_3 (B : Sy) (C : Go.ScE.Callee) : Env → Fram → List Fram → KX → R0 := fun e fr up k =>
  headK (look' 1 e) (fun v1 => headK (.c (.p (pI 1))) (fun v2 => k .normal [(1, v1), (2, v2)] fr up))

noncomputable def q11_4 (B : Sy) (C : Go.ScE.Callee) : Env → Fram → List Fram → KX → R0 := fun e fr up k =>
  hBinS B .leq false (demK (demK (look' 2 e))) (.c (.p (pI 25))) fr up (fun r1 f1 u1 =>
  headK (look' 1 e) (fun v1 => headK (look' 2 e) (fun v2 => headK r1 (fun v9 => k .normal [(1, v1), (2, v2), (9, v9)] f1 u1))))

noncomputable def q11_5 (B : Sy) (C : Go.ScE.Callee) : Env → Fram → List Fram → KX → R0 := fun e fr up k =>
  hBinS B .add false (.c (.p (pI 0))) (demK (demK (look' 2 e))) fr up (fun r3 f3 u3 =>
  hBinS B .sub false (demK r3) (.c (.p (pI 1))) f3 u3 (fun r4 f4 u4 =>
  hCall C 30 [(demK (demK (look' 1 e))), (demK (demK (look' 2 e))), (.c (.p (pI 0))), (demK r4)] f4 u4 (fun r5 f5 u5 =>
  headK (look' 1 e) (fun v1 => headK (look' 2 e) (fun v2 => k .normal [(1, v1), (2, v2)] f5 u5)))))

noncomputable def q11_6 (B : Sy) (C : Go.ScE.Callee) : Env → Fram → List Fram → KX → R0 := fun e fr up k =>
  hBinS B .add false (demK (demK (look' 2 e))) (.c (.p (pI 1))) fr up (fun r1 f1 u1 =>
  headK (look' 1 e) (fun v1 => headK (demK r1) (fun v2 => k .normal [(1, v1), (2, v2)] f1 u1)))

noncomputable def q11_7 (B : Sy) (C : Go.ScE.Callee) : Env → Fram → List Fram → KX → R0 := fun e fr up k =>
  hCall C 31 [(demK (demK (look' 1 e))), (.c (.p (pI 1))), (.c (.p (pI 0))), (.c (.p (pI 30)))] fr up (fun r1 f1 u1 =>
  headK (look' 1 e) (fun v1 => k .normal [(1, v1)] f1 u1))

noncomputable def q11_8 (B : Sy) (C : Go.ScE.Callee) : Env → Fram → List Fram → KX → R0 := fun e fr up k =>
  hCall C 32 [(demK (demK (look' 1 e))), (.c (.p (pI 2))), (.c (.p (pI 1)))] fr up (fun r1 f1 u1 =>
  headK (look' 1 e) (fun v1 => k .normal [(1, v1)] f1 u1))

noncomputable def q11_9 (B : Sy) (C : Go.ScE.Callee) : Env → Fram → List Fram → KX → R0 := fun e fr up k =>
  hCall C 33 [(demK (demK (look' 1 e))), (.c (.p (pI 3))), (.c (.p (pI 0)))] fr up (fun r1 f1 u1 =>
  headK (look' 1 e) (fun v1 => k .normal [(1, v1)] f1 u1))

noncomputable def q11_10 (B : Sy) (C : Go.ScE.Callee) : Env → Fram → List Fram → KX → R0 := fun e fr up k =>
  hCall C 33 [(demK (demK (look' 1 e))), (.c (.p (pI 4))), (.c (.p (pI 27)))] fr up (fun r1 f1 u1 =>
  headK (look' 1 e) (fun v1 => k .normal [(1, v1)] f1 u1))

noncomputable def q11_11 (B : Sy) (C : Go.ScE.Callee) : Env → Fram → List Fram → KX → R0 := fun e fr up k =>
  hCall C 34 [(demK (demK (look' 1 e))), (.c (.p (pI 5))), (.c (.p (pI 1003)))] fr up (fun r1 f1 u1 =>
  headK (look' 1 e) (fun v1 => k .normal [(1, v1)] f1 u1))

noncomputable def q11_12 (B : Sy) (C : Go.ScE.Callee) : Env → Fram → List Fram → KX → R0 := fun e fr up k =>
  hCall C 33 [(demK (demK (look' 1 e))), (.c (.p (pI 3))), (.c (.p (pI 32)))] fr up (fun r1 f1 u1 =>
  headK (look' 1 e) (fun v1 => k .normal [(1, v1)] f1 u1))

noncomputable def q11_13 (B : Sy) (C : Go.ScE.Callee) : Env → Fram → List Fram → KX → R0 := fun e fr up k =>
  hCall C 32 [(demK (demK (look' 1 e))), (.c (.p (pI 4))), (.c (.p (pI 30)))] fr up (fun r1 f1 u1 =>
  headK (look' 1 e) (fun v1 => k .normal [(1, v1)] f1 u1))

noncomputable def q11_14 (B : Sy) (C : Go.ScE.Callee) : Env → Fram → List Fram → KX → R0 := fun e fr up k =>
  hCall C 34 [(demK (demK (look' 1 e))), (.c (.p (pI 5))), (.c (.p (pI 1003)))] fr up (fun r1 f1 u1 =>
  headK (look' 1 e) (fun v1 => k .normal [(1, v1)] f1 u1))

noncomputable def q11_15 (B : Sy) (C : Go.ScE.Callee) : Env → Fram → List Fram → KX → R0 := fun e fr up k =>
  hCall C 27 [(demK (demK (look' 1 e))), (.c (.p (pI 1000)))] fr up (fun r1 f1 u1 =>
  headK (look' 1 e) (fun v1 => k .normal [(1, v1)] f1 u1))

noncomputable def q11_16 (B : Sy) (C : Go.ScE.Callee) : Env → Fram → List Fram → KX → R0 := fun e fr up k =>
  hCall C 35 [(demK (demK (look' 1 e))), (.c (.p (pI 27))), (.c (.p (pI 2))), (.c (.p (pI 1))), (.c (.p (pI 1001)))] fr up (fun r1 f1 u1 =>
  headK (look' 1 e) (fun v1 => k .normal [(1, v1)] f1 u1))

noncomputable def q11_17 (B : Sy) (C : Go.ScE.Callee) : Env → Fram → List Fram → KX → R0 := fun e fr up k =>
  hCall C 32 [(demK (demK (look' 1 e))), (.c (.p (pI 3))), (.c (.p (pI 2)))] fr up (fun r1 f1 u1 =>
  headK (look' 1 e) (fun v1 => k .normal [(1, v1)] f1 u1))

noncomputable def q11_18 (B : Sy) (C : Go.ScE.Callee) : Env → Fram → List Fram → KX → R0 := fun e fr up k =>
  hCall C 32 [(demK (demK (look' 1 e))), (.c (.p (pI 4))), (.c (.p (pI 1)))] fr up (fun r1 f1 u1 =>
  headK (look' 1 e) (fun v1 => k .normal [(1, v1)] f1 u1))

noncomputable def q11_19 (B : Sy) (C : Go.ScE.Callee) : Env → Fram → List Fram → KX → R0 := fun e fr up k =>
  hCall C 32 [(demK (demK (look' 1 e))), (.c (.p (pI 2))), (.c (.p (pI 1)))] fr up (fun r1 f1 u1 =>
  headK (look' 1 e) (fun v1 => k .normal [(1, v1)] f1 u1))

noncomputable def q11_20 (B : Sy) (C : Go.ScE.Callee) : Env → Fram → List Fram → KX → R0 := fun e fr up k =>
  hCall C 34 [(demK (demK (look' 1 e))), (.c (.p (pI 5))), (.c (.p (pI 1003)))] fr up (fun r1 f1 u1 =>
  headK (look' 1 e) (fun v1 => k .normal [(1, v1)] f1 u1))

noncomputable def q11_21 (B : Sy) (C : Go.ScE.Callee) : Env → Fram → List Fram → KX → R0 := fun e fr up k =>
  hCall C 36 [(demK (demK (look' 1 e))), (.c (.p (pI 1000)))] fr up (fun r1 f1 u1 =>
  headK (look' 1 e) (fun v1 => k .normal [(1, v1)] f1 u1))

noncomputable def q11_22 (B : Sy) (C : Go.ScE.Callee) : Env → Fram → List Fram → KX → R0 := fun e fr up k =>
  hCall C 27 [(demK (demK (look' 1 e))), (.c (.p (pI 1001)))] fr up (fun r1 f1 u1 =>
  headK (look' 1 e) (fun v1 => k .normal [(1, v1)] f1 u1))

noncomputable def q11_23 (B : Sy) (C : Go.ScE.Callee) : Env → Fram → List Fram → KX → R0 := fun e fr up k =>
  hCall C 37 [(demK (demK (look' 1 e))), (.c (.p (pI 28))), (.c (.p (pI 30)))] fr up (fun r1 f1 u1 =>
  headK (look' 1 e) (fun v1 => k .normal [(1, v1)] f1 u1))

noncomputable def q11_24 (B : Sy) (C : Go.ScE.Callee) : Env → Fram → List Fram → KX → R0 := fun e fr up k =>
  hCall C 37 [(demK (demK (look' 1 e))), (.c (.p (pI 29))), (.c (.p (pI 31)))] fr up (fun r1 f1 u1 =>
  headK (look' 1 e) (fun v1 => k .normal [(1, v1)] f1 u1))

noncomputable def q11_25 (B : Sy) (C : Go.ScE.Callee) : Env → Fram → List Fram → KX → R0 := fun e fr up k =>
  hCall C 32 [(demK (demK (look' 1 e))), (.c (.p (pI 29))), (.c (.p (pI 1)))] fr up (fun r1 f1 u1 =>
  headK (look' 1 e) (fun v1 => k .normal [(1, v1)] f1 u1))

noncomputable def q11_26 (B : Sy) (C : Go.ScE.Callee) : Env → Fram → List Fram → KX → R0 := fun e fr up k =>
  hCall C 38 [(demK (demK (look' 1 e))), (.c (.p (pI 1))), (.c (.p (pI 3))), (.c (.p (pI 1))), (.c (.p (pI 26)))] fr up (fun r1 f1 u1 =>
  headK (look' 1 e) (fun v1 => k .normal [(1, v1)] f1 u1))

noncomputable def q11_27 (B : Sy) (C : Go.ScE.Callee) : Env → Fram → List Fram → KX → R0 := fun e fr up k =>
  hCall C 31 [(demK (demK (look' 1 e))), (.c (.p (pI 4))), (.c (.p (pI 0))), (.c (.p (pI 29)))] fr up (fun r1 f1 u1 =>
  headK (look' 1 e) (fun v1 => k .normal [(1, v1)] f1 u1))

noncomputable def q11_28 (B : Sy) (C : Go.ScE.Callee) : Env → Fram → List Fram → KX → R0 := fun e fr up k =>
  hCall C 35 [(demK (demK (look' 1 e))), (.c (.p (pI 26))), (.c (.p (pI 4))), (.c (.p (pI 3))), (.c (.p (pI 1002)))] fr up (fun r1 f1 u1 =>
  headK (look' 1 e) (fun v1 => k .normal [(1, v1)] f1 u1))

noncomputable def q11_29 (B : Sy) (C : Go.ScE.Callee) : Env → Fram → List Fram → KX → R0 := fun e fr up k =>
  headK (look' 1 e) (fun v1 => headK (.c (.p (pI 1))) (fun v3 => k .normal [(1, v1), (3, v3)] fr up))

noncomputable def q11_30 (B : Sy) (C : Go.ScE.Callee) : Env → Fram → List Fram → KX → R0 := fun e fr up k =>
  hBinS B .leq false (demK (demK (look' 3 e))) (.c (.p (pI 25))) fr up (fun r1 f1 u1 =>
  headK (look' 1 e) (fun v1 => headK (look' 3 e) (fun v3 => headK r1 (fun v63 => k .normal [(1, v1), (3, v3), (63, v63)] f1 u1))))

noncomputable def q11_31 (B : Sy) (C : Go.ScE.Callee) : Env → Fram → List Fram → KX → R0 := fun e fr up k =>
  hBinS B .add false (.c (.p (pI 0))) (demK (demK (look' 3 e))) fr up (fun r3 f3 u3 =>
  hBinS B .sub false (demK r3) (.c (.p (pI 1))) f3 u3 (fun r4 f4 u4 =>
  hCall C 31 [(demK (demK (look' 1 e))), (demK (demK (look' 3 e))), (.c (.p (pI 0))), (demK r4)] f4 u4 (fun r5 f5 u5 =>
  headK (look' 1 e) (fun v1 => headK (look' 3 e) (fun v3 => k .normal [(1, v1), (3, v3)] f5 u5)))))

noncomputable def q11_32 (B : Sy) (C : Go.ScE.Callee) : Env → Fram → List Fram → KX → R0 := fun e fr up k =>
  hBinS B .add false (demK (demK (look' 3 e))) (.c (.p (pI 1))) fr up (fun r1 f1 u1 =>
  headK (look' 1 e) (fun v1 => headK (demK r1) (fun v3 => k .normal [(1, v1), (3, v3)] f1 u1)))

noncomputable def q11_33 (B : Sy) (C : Go.ScE.Callee) : Env → Fram → List Fram → KX → R0 := fun e fr up k =>
  hCall C 39 [(demK (demK (look' 1 e))), (.c (.p (pI 31)))] fr up (fun r1 f1 u1 =>
  headK (look' 1 e) (fun v1 => k .normal [(1, v1)] f1 u1))

noncomputable def q11_34 (B : Sy) (C : Go.ScE.Callee) : Env → Fram → List Fram → KX → R0 := fun e fr up k =>
  hCall C 27 [(demK (demK (look' 1 e))), (.c (.p (pI 1002)))] fr up (fun r1 f1 u1 =>
  headK (look' 1 e) (fun v1 => k .normal [(1, v1)] f1 u1))

noncomputable def q11_35 (B : Sy) (C : Go.ScE.Callee) : Env → Fram → List Fram → KX → R0 := fun e fr up k =>
  hCall C 29 [(demK (demK (look' 1 e))), (.c (.p (pI 26))), (.c (.p (pI 95)))] fr up (fun r1 f1 u1 =>
  headK (look' 1 e) (fun v1 => k .normal [(1, v1)] f1 u1))

noncomputable def q11_36 (B : Sy) (C : Go.ScE.Callee) : Env → Fram → List Fram → KX → R0 := fun e fr up k =>
  hCall C 40 [(demK (demK (look' 1 e)))] fr up (fun r1 f1 u1 =>
  headK (look' 1 e) (fun v1 => k .normal [(1, v1)] f1 u1))

noncomputable def q11_37 (B : Sy) (C : Go.ScE.Callee) : Env → Fram → List Fram → KX → R0 := fun e fr up k =>
  hGen C (.nck) [(demK (demK (look' 1 e)))] fr up (fun r1 f1 u1 =>
  hFa 0 (demK r1) f1 u1 (fun r2 f2 u2 =>
  hLdS B false 1 false (demK r2) f2 u2 (fun r3 f3 u3 =>
  headK r3 (fun v0 => k .normal [(0, v0)] f3 u3))))

noncomputable def s11 : KS := fun B C n => seqK (q11_0 B C) (seqK (q11_1 B C) (seqK (q11_2 B C) (seqK (seqK (q11_3 B C) (blockK 0 (loopsK [1, 2] [0] (seqK (seqK (q11_4 B C) (condK (.t 9) (skipK) (exitK 0))) (seqK (blockK 1 (q11_5 B C)) (q11_6 B C))) n))) (seqK (q11_7 B C) (seqK (q11_8 B C) (seqK (q11_9 B C) (seqK (q11_10 B C) (seqK (q11_11 B C) (seqK (q11_12 B C) (seqK (q11_13 B C) (seqK (q11_14 B C) (seqK (q11_15 B C) (seqK (q11_16 B C) (seqK (q11_17 B C) (seqK (q11_18 B C) (seqK (q11_19 B C) (seqK (q11_20 B C) (seqK (q11_21 B C) (seqK (q11_22 B C) (seqK (q11_23 B C) (seqK (q11_24 B C) (seqK (q11_25 B C) (seqK (q11_26 B C) (seqK (q11_27 B C) (seqK (q11_28 B C) (seqK (seqK (q11_29 B C) (blockK 2 (loopsK [1, 3] [0] (seqK (seqK (q11_30 B C) (condK (.t 63) (skipK) (exitK 2))) (seqK (blockK 3 (q11_31 B C)) (q11_32 B C))) n))) (seqK (q11_33 B C) (seqK (q11_34 B C) (seqK (q11_35 B C) (seqK (q11_36 B C) (seqK (q11_37 B C) (retK))))))))))))))))))))))))))))))))
theorem s11_eq (B : Sy) (C : Go.ScE.Callee) (n : Nat) : s11 B C n = evS B C n x11.body := by kernel_rfl

noncomputable def q12_0 (B : Sy) (C : Go.ScE.Callee) : Env → Fram → List Fram → KX → R0 := fun e fr up k =>
  headK (look' 0 e) (fun v0 => headK (look' 1 e) (fun v1 => k .normal [(0, v0), (1, v1)] fr up))

noncomputable def q12_1 (B : Sy) (C : Go.ScE.Callee) : Env → Fram → List Fram → KX → R0 := fun e fr up k =>
  hCall C 13 [(.c (.p (pI 10)))] fr up (fun r0 f0 u0 =>
  hBlds 8 [(pI 0), (pI 0), (pI 0), (pI 0), (pI 0), (pI 0), (pI 0), (pI 0)] 1 [0] [(demK r0)] f0 u0 (fun r1 f1 u1 =>
  headK (look' 0 e) (fun v0 => headK (look' 1 e) (fun v1 => headK r1 (fun v5 => k .normal [(0, v0), (1, v1), (5, v5)] f1 u1)))))

noncomputable def q12_2 (B : Sy) (C : Go.ScE.Callee) : Env → Fram → List Fram → KX → R0 := fun e fr up k =>
  hCall C 41 [(.c (.p (pI 0))), (.c (.p (pI 0))), (.c (.p (pI 51)))] fr up (fun r1 f1 u1 =>
  hApp 8 64 (look' 5 e) (demK r1) f1 u1 (fun r2 f2 u2 =>
  headK (look' 0 e) (fun v0 => headK (look' 1 e) (fun v1 => headK r2 (fun v5 => k .normal [(0, v0), (1, v1), (5, v5)] f2 u2)))))

noncomputable def q12_3 (B : Sy) (C : Go.ScE.Callee) : Env → Fram → List Fram → KX → R0 := fun e fr up k =>
  headK (look' 0 e) (fun v0 => headK (look' 1 e) (fun v1 => headK (look' 5 e) (fun v5 => headK (.c (.p (pI 0))) (fun v6 => k .normal [(0, v0), (1, v1), (5, v5), (6, v6)] fr up))))

noncomputable def q12_4 (B : Sy) (C : Go.ScE.Callee) : Env → Fram → List Fram → KX → R0 := fun e fr up k =>
  hLenLS B  (demK (demK (look' 0 e))) fr up (fun r2 f2 u2 =>
  hBinS B .lss false (demK (demK (look' 6 e))) (demK r2) f2 u2 (fun r3 f3 u3 =>
  headK (look' 0 e) (fun v0 => headK (look' 1 e) (fun v1 => headK (look' 5 e) (fun v5 => headK (look' 6 e) (fun v6 => headK r3 (fun v16 => k .normal [(0, v0), (1, v1), (5, v5), (6, v6), (16, v16)] f3 u3)))))))

noncomputable def q12_5 (B : Sy) (C : Go.ScE.Callee) : Env → Fram → List Fram → KX → R0 := fun e fr up k =>
  hIaS B 3 (demK (demK (look' 0 e))) (demK (demK (look' 6 e))) fr up (fun r2 f2 u2 =>
  hLdS B true 3 false (demK r2) f2 u2 (fun r3 f3 u3 =>
  hCall C 19 [(demK r3)] f3 u3 (fun r4 f4 u4 =>
  hGen C (.alloc 0 true [(pI 0), (pI 0), (pI 0)]) [] f4 u4 (fun r5 f5 u5 =>
  hStS B 3 (demK r5) (demK r4) f5 u5 (fun r6 f6 u6 =>
  headK (look' 0 e) (fun v0 => headK (look' 1 e) (fun v1 => headK (look' 5 e) (fun v5 => headK (look' 6 e) (fun v6 => headK r5 (fun v7 => k .normal [(0, v0), (1, v1), (5, v5), (6, v6), (7, v7)] f6 u6))))))))))

noncomputable def q12_6 (B : Sy) (C : Go.ScE.Callee) : Env → Fram → List Fram → KX → R0 := fun e fr up k =>
  hIaS B 3 (demK (demK (look' 0 e))) (demK (demK (look' 6 e))) fr up (fun r2 f2 u2 =>
  hFa 0 (demK r2) f2 u2 (fun r3 f3 u3 =>
  hLdS B false 1 false (demK r3) f3 u3 (fun r4 f4 u4 =>
  headK (look' 0 e) (fun v0 => headK (look' 1 e) (fun v1 => headK (look' 5 e) (fun v5 => headK (look' 6 e) (fun v6 => headK (look' 7 e) (fun v7 => headK r4 (fun v28 => k .normal [(0, v0), (1, v1), (5, v5), (6, v6), (7, v7), (28, v28)] f4 u4)))))))))

noncomputable def q12_7 (B : Sy) (C : Go.ScE.Callee) : Env → Fram → List Fram → KX → R0 := fun e fr up k =>
  hBinS B .eql false (demK (look' 28 e)) (.c (.p (pI 0))) fr up (fun r0 f0 u0 =>
  headK (look' 0 e) (fun v0 => headK (look' 1 e) (fun v1 => headK (look' 5 e) (fun v5 => headK (look' 6 e) (fun v6 => headK (look' 7 e) (fun v7 => headK (look' 28 e) (fun v28 => headK (demK r0) (fun v29 => k .normal [(0, v0), (1, v1), (5, v5), (6, v6), (7, v7), (28, v28), (29, v29)] f0 u0))))))))

noncomputable def q12_8 (B : Sy) (C : Go.ScE.Callee) : Env → Fram → List Fram → KX → R0 := fun e fr up k =>
  hFa 1 (demK (look' 7 e)) fr up (fun r1 f1 u1 =>
  hLdS B false 1 false (demK r1) f1 u1 (fun r2 f2 u2 =>
  hFa 2 (demK (look' 7 e)) f2 u2 (fun r3 f3 u3 =>
  hLdS B false 1 false (demK r3) f3 u3 (fun r4 f4 u4 =>
  hCall C 41 [(demK r2), (demK r4), (.c (.p (pI 50)))] f4 u4 (fun r5 f5 u5 =>
  hApp 8 64 (look' 5 e) (demK r5) f5 u5 (fun r6 f6 u6 =>
  headK (look' 0 e) (fun v0 => headK (look' 1 e) (fun v1 => headK r6 (fun v5 => headK (look' 6 e) (fun v6 => k .normal [(0, v0), (1, v1), (5, v5), (6, v6)] f6 u6))))))))))

noncomputable def q12_9 (B : Sy) (C : Go.ScE.Callee) : Env → Fram → List Fram → KX → R0 := fun e fr up k =>
  hBinS B .eql false (demK (look' 28 e)) (.c (.p (pI 1))) fr up (fun r0 f0 u0 =>
  headK (look' 0 e) (fun v0 => headK (look' 1 e) (fun v1 => headK (look' 5 e) (fun v5 => headK (look' 6 e) (fun v6 => headK (look' 28 e) (fun v28 => headK (demK r0) (fun v38 => k .normal [(0, v0), (1, v1), (5, v5), (6, v6), (28, v28), (38, v38)] f0 u0)))))))

noncomputable def q12_10 (B : Sy) (C : Go.ScE.Callee) : Env → Fram → List Fram → KX → R0 := fun e fr up k =>
  hCall C 15 [(.c (.p (pI 31))), (.c (.p (pI 6)))] fr up (fun r1 f1 u1 =>
  hBlds 8 [(pI 0), (pI 0), (pI 0), (pI 0), (pI 0), (pI 0), (pI 0), (pI 0)] 1 [0] [(demK r1)] f1 u1 (fun r2 f2 u2 =>
  hApp 8 64 (look' 5 e) (demK r2) f2 u2 (fun r3 f3 u3 =>
  headK (look' 0 e) (fun v0 => headK (look' 1 e) (fun v1 => headK r3 (fun v5 => headK (look' 6 e) (fun v6 => k .normal [(0, v0), (1, v1), (5, v5), (6, v6)] f3 u3)))))))

noncomputable def q12_11 (B : Sy) (C : Go.ScE.Callee) : Env → Fram → List Fram → KX → R0 := fun e fr up k =>
  hBinS B .eql false (demK (look' 28 e)) (.c (.p (pI 2))) fr up (fun r0 f0 u0 =>
  headK (look' 0 e) (fun v0 => headK (look' 1 e) (fun v1 => headK (look' 5 e) (fun v5 => headK (look' 6 e) (fun v6 => headK (look' 28 e) (fun v28 => headK (demK r0) (fun v44 => k .normal [(0, v0), (1, v1), (5, v5), (6, v6), (28, v28), (44, v44)] f0 u0)))))))

noncomputable def q12_12 (B : Sy) (C : Go.ScE.Callee) : Env → Fram → List Fram → KX → R0 := fun e fr up k =>
  hCall C 17 [(.c (.p (pI 26))), (.c (.p (pI 0)))] fr up (fun r1 f1 u1 =>
  hCall C 15 [(.c (.p (pI 31))), (.c (.p (pI 1)))] f1 u1 (fun r2 f2 u2 =>
  hBlds 8 [(pI 0), (pI 0), (pI 0), (pI 0), (pI 0), (pI 0), (pI 0), (pI 0)] 2 [0, 1] [(demK r1), (demK r2)] f2 u2 (fun r3 f3 u3 =>
  hApp 8 64 (look' 5 e) (demK r3) f3 u3 (fun r4 f4 u4 =>
  headK (look' 0 e) (fun v0 => headK (look' 1 e) (fun v1 => headK r4 (fun v5 => headK (look' 6 e) (fun v6 => k .normal [(0, v0), (1, v1), (5, v5), (6, v6)] f4 u4))))))))

noncomputable def q12_13 (B : Sy) (C : Go.ScE.Callee) : Env → Fram → List Fram → KX → R0 := fun e fr up k =>
  hBinS B .eql false (demK (look' 28 e)) (.c (.p (pI 3))) fr up (fun r0 f0 u0 =>
  headK (look' 0 e) (fun v0 => headK (look' 1 e) (fun v1 => headK (look' 5 e) (fun v5 => headK (look' 6 e) (fun v6 => headK (demK r0) (fun v51 => k .normal [(0, v0), (1, v1), (5, v5), (6, v6), (51, v51)] f0 u0))))))

noncomputable def q12_14 (B : Sy) (C : Go.ScE.Callee) : Env → Fram → List Fram → KX → R0 := fun e fr up k =>
  hBinS B .add false (.c (.p (pI 100))) (demK (demK (look' 6 e))) fr up (fun r2 f2 u2 =>
  hCall C 41 [(.c (.p (pI 0))), (.c (.p (pI 0))), (demK r2)] f2 u2 (fun r3 f3 u3 =>
  hApp 8 64 (look' 5 e) (demK r3) f3 u3 (fun r4 f4 u4 =>
  headK (look' 0 e) (fun v0 => headK (look' 1 e) (fun v1 => headK r4 (fun v5 => headK (look' 6 e) (fun v6 => k .normal [(0, v0), (1, v1), (5, v5), (6, v6)] f4 u4)))))))

noncomputable def q12_15 (B : Sy) (C : Go.ScE.Callee) : Env → Fram → List Fram → KX → R0 := fun e fr up k =>
  hCall C 17 [(.c (.p (pI 26))), (.c (.p (pI 2)))] fr up (fun r1 f1 u1 =>
  hCall C 15 [(.c (.p (pI 31))), (.c (.p (pI 2)))] f1 u1 (fun r2 f2 u2 =>
  hCall C 17 [(.c (.p (pI 27))), (.c (.p (pI 111)))] f2 u2 (fun r3 f3 u3 =>
  hCall C 14 [(.c (.p (pI 23))), (.c (.p (pI 27))), (.c (.p (pI 29))), (.c (.p (pI 0)))] f3 u3 (fun r4 f4 u4 =>
  hCall C 16 [(.c (.p (pI 27))), (.c (.p (pI 52)))] f4 u4 (fun r5 f5 u5 =>
  hCall C 14 [(.c (.p (pI 18))), (.c (.p (pI 27))), (.c (.p (pI 27))), (.c (.p (pI 3)))] f5 u5 (fun r6 f6 u6 =>
  hCall C 14 [(.c (.p (pI 23))), (.c (.p (pI 27))), (.c (.p (pI 29))), (.c (.p (pI 1)))] f6 u6 (fun r7 f7 u7 =>
  hCall C 14 [(.c (.p (pI 18))), (.c (.p (pI 25))), (.c (.p (pI 29))), (.c (.p (pI 3)))] f7 u7 (fun r8 f8 u8 =>
  hCall C 14 [(.c (.p (pI 17))), (.c (.p (pI 25))), (.c (.p (pI 25))), (.c (.p (pI 1)))] f8 u8 (fun r9 f9 u9 =>
  hCall C 14 [(.c (.p (pI 15))), (.c (.p (pI 29))), (.c (.p (pI 29))), (.c (.p (pI 2)))] f9 u9 (fun r10 f10 u10 =>
  hBlds 8 [(pI 0), (pI 0), (pI 0), (pI 0), (pI 0), (pI 0), (pI 0), (pI 0)] 10 [0, 1, 2, 3, 4, 5, 6, 7, 8, 9] [(demK r1), (demK r2), (demK r3), (demK r4), (demK r5), (demK r6), (demK r7), (demK r8), (demK r9), (demK r10)] f10 u10 (fun r11 f11 u11 =>
  hApp 8 64 (look' 5 e) (demK r11) f11 u11 (fun r12 f12 u12 =>
  headK (look' 0 e) (fun v0 => headK (look' 1 e) (fun v1 => headK r12 (fun v5 => headK (look' 6 e) (fun v6 => k .normal [(0, v0), (1, v1), (5, v5), (6, v6)] f12 u12))))))))))))))))

noncomputable def q12_16 (B : Sy) (C : Go.ScE.Callee) : Env → Fram → List Fram → KX → R0 := fun e fr up k =>
  hCall C 15 [(.c (.p (pI 0))), (.c (.p (pI 7)))] fr up (fun r1 f1 u1 =>
  hBinS B .add false (.c (.p (pI 100))) (demK (demK (look' 6 e))) f1 u1 (fun r3 f3 u3 =>
  hCall C 13 [(demK r3)] f3 u3 (fun r4 f4 u4 =>
  hCall C 14 [(.c (.p (pI 15))), (.c (.p (pI 30))), (.c (.p (pI 30))), (.c (.p (pI (-1))))] f4 u4 (fun r5 f5 u5 =>
  hBlds 8 [(pI 0), (pI 0), (pI 0), (pI 0), (pI 0), (pI 0), (pI 0), (pI 0)] 3 [0, 1, 2] [(demK r1), (demK r4), (demK r5)] f5 u5 (fun r6 f6 u6 =>
  hApp 8 64 (look' 5 e) (demK r6) f6 u6 (fun r7 f7 u7 =>
  headK (look' 0 e) (fun v0 => headK (look' 1 e) (fun v1 => headK r7 (fun v5 => headK (look' 6 e) (fun v6 => k .normal [(0, v0), (1, v1), (5, v5), (6, v6)] f7 u7))))))))))

noncomputable def q12_17 (B : Sy) (C : Go.ScE.Callee) : Env → Fram → List Fram → KX → R0 := fun e fr up k =>
  hBinS B .add false (demK (demK (look' 6 e))) (.c (.p (pI 1))) fr up (fun r1 f1 u1 =>
  headK (look' 0 e) (fun v0 => headK (look' 1 e) (fun v1 => headK (look' 5 e) (fun v5 => headK (demK r1) (fun v6 => k .normal [(0, v0), (1, v1), (5, v5), (6, v6)] f1 u1)))))

noncomputable def q12_18 (B : Sy) (C : Go.ScE.Callee) : Env → Fram → List Fram → KX → R0 := fun e fr up k =>
  hCall C 17 [(.c (.p (pI 1))), (.c (.p (pI 0)))] fr up (fun r1 f1 u1 =>
  hCall C 15 [(.c (.p (pI 0))), (.c (.p (pI 4)))] f1 u1 (fun r2 f2 u2 =>
  hBlds 8 [(pI 0), (pI 0), (pI 0), (pI 0), (pI 0), (pI 0), (pI 0), (pI 0)] 2 [0, 1] [(demK r1), (demK r2)] f2 u2 (fun r3 f3 u3 =>
  hApp 8 64 (look' 5 e) (demK r3) f3 u3 (fun r4 f4 u4 =>
  headK (look' 1 e) (fun v1 => headK r4 (fun v5 => k .normal [(1, v1), (5, v5)] f4 u4))))))

noncomputable def q12_19 (B : Sy) (C : Go.ScE.Callee) : Env → Fram → List Fram → KX → R0 := fun e fr up k =>
  hCall C 13 [(.c (.p (pI 50)))] fr up (fun r1 f1 u1 =>
  hCall C 14 [(.c (.p (pI 22))), (.c (.p (pI 26))), (.c (.p (pI 30))), (.c (.p (pI (-1))))] f1 u1 (fun r2 f2 u2 =>
  hCall C 14 [(.c (.p (pI 19))), (.c (.p (pI 26))), (.c (.p (pI 26))), (.c (.p (pI 3)))] f2 u2 (fun r3 f3 u3 =>
  hCall C 14 [(.c (.p (pI 16))), (.c (.p (pI 26))), (.c (.p (pI 26))), (.c (.p (pI 4095)))] f3 u3 (fun r4 f4 u4 =>
  hCall C 14 [(.c (.p (pI 15))), (.c (.p (pI 30))), (.c (.p (pI 30))), (.c (.p (pI (-1))))] f4 u4 (fun r5 f5 u5 =>
  hBlds 8 [(pI 0), (pI 0), (pI 0), (pI 0), (pI 0), (pI 0), (pI 0), (pI 0)] 5 [0, 1, 2, 3, 4] [(demK r1), (demK r2), (demK r3), (demK r4), (demK r5)] f5 u5 (fun r6 f6 u6 =>
  hApp 8 64 (look' 5 e) (demK r6) f6 u6 (fun r7 f7 u7 =>
  headK (look' 1 e) (fun v1 => headK r7 (fun v5 => k .normal [(1, v1), (5, v5)] f7 u7)))))))))

noncomputable def q12_20 (B : Sy) (C : Go.ScE.Callee) : Env → Fram → List Fram → KX → R0 := fun e fr up k =>
  hCall C 13 [(.c (.p (pI 60)))] fr up (fun r1 f1 u1 =>
  hCall C 42 [(.c (.p (pI 24))), (.c (.p (pI 26))), (.c (.p (pI 0))), (.c (.p (pI 61)))] f1 u1 (fun r2 f2 u2 =>
  hCall C 14 [(.c (.p (pI 15))), (.c (.p (pI 30))), (.c (.p (pI 30))), (.c (.p (pI (-1))))] f2 u2 (fun r3 f3 u3 =>
  hCall C 14 [(.c (.p (pI 22))), (.c (.p (pI 27))), (.c (.p (pI 30))), (.c (.p (pI 0)))] f3 u3 (fun r4 f4 u4 =>
  hCall C 14 [(.c (.p (pI 19))), (.c (.p (pI 27))), (.c (.p (pI 27))), (.c (.p (pI 3)))] f4 u4 (fun r5 f5 u5 =>
  hCall C 14 [(.c (.p (pI 31))), (.c (.p (pI 27))), (.c (.p (pI 0))), (.c (.p (pI 0)))] f5 u5 (fun r6 f6 u6 =>
  hCall C 14 [(.c (.p (pI 15))), (.c (.p (pI 26))), (.c (.p (pI 26))), (.c (.p (pI (-1))))] f6 u6 (fun r7 f7 u7 =>
  hCall C 15 [(.c (.p (pI 0))), (.c (.p (pI 60)))] f7 u7 (fun r8 f8 u8 =>
  hCall C 13 [(.c (.p (pI 61)))] f8 u8 (fun r9 f9 u9 =>
  hCall C 15 [(.c (.p (pI 0))), (.c (.p (pI 4)))] f9 u9 (fun r10 f10 u10 =>
  hBlds 8 [(pI 0), (pI 0), (pI 0), (pI 0), (pI 0), (pI 0), (pI 0), (pI 0)] 10 [0, 1, 2, 3, 4, 5, 6, 7, 8, 9] [(demK r1), (demK r2), (demK r3), (demK r4), (demK r5), (demK r6), (demK r7), (demK r8), (demK r9), (demK r10)] f10 u10 (fun r11 f11 u11 =>
  hApp 8 64 (look' 5 e) (demK r11) f11 u11 (fun r12 f12 u12 =>
  headK (look' 1 e) (fun v1 => headK r12 (fun v5 => k .normal [(1, v1), (5, v5)] f12 u12))))))))))))))

noncomputable def q12_21 (B : Sy) (C : Go.ScE.Callee) : Env → Fram → List Fram → KX → R0 := fun e fr up k =>
  hCall C 13 [(.c (.p (pI 51)))] fr up (fun r1 f1 u1 =>
  hCall C 14 [(.c (.p (pI 15))), (.c (.p (pI 30))), (.c (.p (pI 30))), (.c (.p (pI (-1))))] f1 u1 (fun r2 f2 u2 =>
  hCall C 14 [(.c (.p (pI 22))), (.c (.p (pI 26))), (.c (.p (pI 0))), (demK (demK (look' 1 e)))] f2 u2 (fun r4 f4 u4 =>
  hCall C 42 [(.c (.p (pI 24))), (.c (.p (pI 26))), (.c (.p (pI 0))), (.c (.p (pI 61)))] f4 u4 (fun r5 f5 u5 =>
  hCall C 14 [(.c (.p (pI 15))), (.c (.p (pI 26))), (.c (.p (pI 26))), (.c (.p (pI (-1))))] f5 u5 (fun r6 f6 u6 =>
  hCall C 14 [(.c (.p (pI 23))), (.c (.p (pI 26))), (.c (.p (pI 0))), (demK (demK (look' 1 e)))] f6 u6 (fun r8 f8 u8 =>
  hBlds 8 [(pI 0), (pI 0), (pI 0), (pI 0), (pI 0), (pI 0), (pI 0), (pI 0)] 6 [0, 1, 2, 3, 4, 5] [(demK r1), (demK r2), (demK r4), (demK r5), (demK r6), (demK r8)] f8 u8 (fun r9 f9 u9 =>
  hApp 8 64 (look' 5 e) (demK r9) f9 u9 (fun r10 f10 u10 =>
  headK r10 (fun v5 => k .normal [(5, v5)] f10 u10)))))))))

noncomputable def q12_22 (B : Sy) (C : Go.ScE.Callee) : Env → Fram → List Fram → KX → R0 := fun e fr up k =>
  hCall C 14 [(.c (.p (pI 22))), (.c (.p (pI 25))), (.c (.p (pI 0))), (.c (.p (pI 26)))] fr up (fun r1 f1 u1 =>
  hCall C 14 [(.c (.p (pI 16))), (.c (.p (pI 26))), (.c (.p (pI 25))), (.c (.p (pI 7)))] f1 u1 (fun r2 f2 u2 =>
  hCall C 17 [(.c (.p (pI 27))), (.c (.p (pI 1)))] f2 u2 (fun r3 f3 u3 =>
  hCall C 42 [(.c (.p (pI 25))), (.c (.p (pI 26))), (.c (.p (pI 27))), (.c (.p (pI 61)))] f3 u3 (fun r4 f4 u4 =>
  hCall C 17 [(.c (.p (pI 1))), (.c (.p (pI 0)))] f4 u4 (fun r5 f5 u5 =>
  hCall C 17 [(.c (.p (pI 28))), (.c (.p (pI 1)))] f5 u5 (fun r6 f6 u6 =>
  hCall C 15 [(.c (.p (pI 0))), (.c (.p (pI 3)))] f6 u6 (fun r7 f7 u7 =>
  hBlds 8 [(pI 0), (pI 0), (pI 0), (pI 0), (pI 0), (pI 0), (pI 0), (pI 0)] 7 [0, 1, 2, 3, 4, 5, 6] [(demK r1), (demK r2), (demK r3), (demK r4), (demK r5), (demK r6), (demK r7)] f7 u7 (fun r8 f8 u8 =>
  hApp 8 64 (look' 5 e) (demK r8) f8 u8 (fun r9 f9 u9 =>
  headK r9 (fun v5 => k .normal [(5, v5)] f9 u9))))))))))

noncomputable def q12_23 (B : Sy) (C : Go.ScE.Callee) : Env → Fram → List Fram → KX → R0 := fun e fr up k =>
  hCall C 13 [(.c (.p (pI 52)))] fr up (fun r1 f1 u1 =>
  hCall C 14 [(.c (.p (pI 23))), (.c (.p (pI 1))), (.c (.p (pI 0))), (.c (.p (pI 26)))] f1 u1 (fun r2 f2 u2 =>
  hCall C 17 [(.c (.p (pI 1))), (.c (.p (pI 0)))] f2 u2 (fun r3 f3 u3 =>
  hCall C 15 [(.c (.p (pI 0))), (.c (.p (pI 4)))] f3 u3 (fun r4 f4 u4 =>
  hBlds 8 [(pI 0), (pI 0), (pI 0), (pI 0), (pI 0), (pI 0), (pI 0), (pI 0)] 4 [0, 1, 2, 3] [(demK r1), (demK r2), (demK r3), (demK r4)] f4 u4 (fun r5 f5 u5 =>
  hApp 8 64 (look' 5 e) (demK r5) f5 u5 (fun r6 f6 u6 =>
  headK r6 (fun v5 => k .normal [(5, v5)] f6 u6)))))))

noncomputable def q12_24 (B : Sy) (C : Go.ScE.Callee) : Env → Fram → List Fram → KX → R0 := fun e fr up k =>
  headK (look' 5 e) (fun v4 => k .normal [(4, v4)] fr up)

noncomputable def s12 : KS := fun B C n => seqK (q12_0 B C) (seqK (q12_1 B C) (seqK (q12_2 B C) (seqK (seqK (q12_3 B C) (blockK 0 (loopsK [0, 1, 5, 6] [] (seqK (seqK (q12_4 B C) (condK (.t 16) (skipK) (exitK 0))) (seqK (blockK 1 (seqK (q12_5 B C) (seqK (q12_6 B C) (blockK 2 (seqK (q12_7 B C) (condK (.t 29) (q12_8 B C) (seqK (q12_9 B C) (condK (.t 38) (q12_10 B C) (seqK (q12_11 B C) (condK (.t 44) (q12_12 B C) (seqK (q12_13 B C) (condK (.t 51) (seqK (q12_14 B C) (seqK (q12_15 B C) (q12_16 B C))) (skipK))))))))))))) (q12_17 B C))) n))) (seqK (q12_18 B C) (seqK (q12_19 B C) (seqK (q12_20 B C) (seqK (q12_21 B C) (seqK (q12_22 B C) (seqK (q12_23 B C) (seqK (q12_24 B C) (retK)))))))))))
theorem s12_eq (B : Sy) (C : Go.ScE.Callee) (n : Nat) : s12 B C n = evS B C n x12.body := by kernel_rfl

noncomputable def q13_0 (B : Sy) (C : Go.ScE.Callee) : Env → Fram → List Fram → KX → R0 := fun e fr up k =>
  hGen C (.alloc 0 true [(pI 0), (pI 0), (pI 0), (pI 0), (pI 0), (pI 0), (pI 0), (pI 0)]) [] fr up (fun r0 f0 u0 =>
  headK (look' 0 e) (fun v0 => headK r0 (fun v2 => k .normal [(0, v0), (2, v2)] f0 u0)))

noncomputable def q13_1 (B : Sy) (C : Go.ScE.Callee) : Env → Fram → List Fram → KX → R0 := fun e fr up k =>
  hBld [(pI 0), (pI 0), (pI 0), (pI 0), (pI 0), (pI 0), (pI 0), (pI 0)] [(0, 1), (6, 1)] [(.c (.p (pI 1))), (demK (demK (look' 0 e)))] fr up (fun r1 f1 u1 =>
  hStS B 8 (demK (look' 2 e)) (demK r1) f1 u1 (fun r2 f2 u2 =>
  headK (look' 2 e) (fun v2 => k .normal [(2, v2)] f2 u2)))

noncomputable def s13 : KS := fun B C n => seqK (q13_0 B C) (seqK (q13_1 B C) (retK))
theorem s13_eq (B : Sy) (C : Go.ScE.Callee) (n : Nat) : s13 B C n = evS B C n x13.body := by kernel_rfl

noncomputable def q14_0 (B : Sy) (C : Go.ScE.Callee) : Env → Fram → List Fram → KX → R0 := fun e fr up k =>
  hGen C (.alloc 0 true [(pI 0), (pI 0), (pI 0), (pI 0), (pI 0), (pI 0), (pI 0), (pI 0)]) [] fr up (fun r0 f0 u0 =>
  headK (look' 0 e) (fun v0 => headK (look' 1 e) (fun v1 => headK (look' 2 e) (fun v2 => headK (look' 3 e) (fun v3 => headK r0 (fun v8 => k .normal [(0, v0), (1, v1), (2, v2), (3, v3), (8, v8)] f0 u0))))))

noncomputable def q14_1 (B : Sy) (C : Go.ScE.Callee) : Env → Fram → List Fram → KX → R0 := fun e fr up k =>
  hBld [(pI 0), (pI 0), (pI 0), (pI 0), (pI 0)] [(0, 1), (1, 1), (2, 1), (4, 1)] [(demK (demK (look' 0 e))), (demK (demK (look' 1 e))), (demK (demK (look' 2 e))), (demK (demK (look' 3 e)))] fr up (fun r4 f4 u4 =>
  hBld [(pI 0), (pI 0), (pI 0), (pI 0), (pI 0), (pI 0), (pI 0), (pI 0)] [(1, 5)] [(demK r4)] f4 u4 (fun r5 f5 u5 =>
  hStS B 8 (demK (look' 8 e)) (demK r5) f5 u5 (fun r6 f6 u6 =>
  headK (look' 8 e) (fun v8 => k .normal [(8, v8)] f6 u6))))

noncomputable def s14 : KS := fun B C n => seqK (q14_0 B C) (seqK (q14_1 B C) (retK))
theorem s14_eq (B : Sy) (C : Go.ScE.Callee) (n : Nat) : s14 B C n = evS B C n x14.body := by kernel_rfl

noncomputable def q15_0 (B : Sy) (C : Go.ScE.Callee) : Env → Fram → List Fram → KX → R0 := fun e fr up k =>
  hGen C (.alloc 0 true [(pI 0), (pI 0), (pI 0), (pI 0), (pI 0), (pI 0), (pI 0), (pI 0)]) [] fr up (fun r0 f0 u0 =>
  headK (look' 0 e) (fun v0 => headK (look' 1 e) (fun v1 => headK r0 (fun v4 => k .normal [(0, v0), (1, v1), (4, v4)] f0 u0))))

noncomputable def q15_1 (B : Sy) (C : Go.ScE.Callee) : Env → Fram → List Fram → KX → R0 := fun e fr up k =>
  hBld [(pI 0), (pI 0), (pI 0), (pI 0), (pI 0)] [(0, 1), (1, 1)] [(.c (.p (pI 28))), (demK (demK (look' 0 e)))] fr up (fun r1 f1 u1 =>
  hBld [(pI 0), (pI 0), (pI 0), (pI 0), (pI 0), (pI 0), (pI 0), (pI 0)] [(0, 1), (1, 5), (6, 1)] [(.c (.p (pI 3))), (demK r1), (demK (demK (look' 1 e)))] f1 u1 (fun r3 f3 u3 =>
  hStS B 8 (demK (look' 4 e)) (demK r3) f3 u3 (fun r4 f4 u4 =>
  headK (look' 4 e) (fun v4 => k .normal [(4, v4)] f4 u4))))

noncomputable def s15 : KS := fun B C n => seqK (q15_0 B C) (seqK (q15_1 B C) (retK))
theorem s15_eq (B : Sy) (C : Go.ScE.Callee) (n : Nat) : s15 B C n = evS B C n x15.body := by kernel_rfl

noncomputable def q16_0 (B : Sy) (C : Go.ScE.Callee) : Env → Fram → List Fram → KX → R0 := fun e fr up k =>
  hGen C (.alloc 0 true [(pI 0), (pI 0), (pI 0), (pI 0), (pI 0), (pI 0), (pI 0), (pI 0)]) [] fr up (fun r0 f0 u0 =>
  headK (look' 0 e) (fun v0 => headK (look' 1 e) (fun v1 => headK r0 (fun v4 => k .normal [(0, v0), (1, v1), (4, v4)] f0 u0))))

noncomputable def q16_1 (B : Sy) (C : Go.ScE.Callee) : Env → Fram → List Fram → KX → R0 := fun e fr up k =>
  hBld [(pI 0), (pI 0), (pI 0), (pI 0), (pI 0)] [(0, 1), (1, 1)] [(.c (.p (pI 20))), (demK (demK (look' 0 e)))] fr up (fun r1 f1 u1 =>
  hBld [(pI 0), (pI 0), (pI 0), (pI 0), (pI 0), (pI 0), (pI 0), (pI 0)] [(0, 1), (1, 5), (6, 1)] [(.c (.p (pI 5))), (demK r1), (demK (demK (look' 1 e)))] f1 u1 (fun r3 f3 u3 =>
  hStS B 8 (demK (look' 4 e)) (demK r3) f3 u3 (fun r4 f4 u4 =>
  headK (look' 4 e) (fun v4 => k .normal [(4, v4)] f4 u4))))

noncomputable def s16 : KS := fun B C n => seqK (q16_0 B C) (seqK (q16_1 B C) (retK))
theorem s16_eq (B : Sy) (C : Go.ScE.Callee) (n : Nat) : s16 B C n = evS B C n x16.body := by kernel_rfl

noncomputable def q17_0 (B : Sy) (C : Go.ScE.Callee) : Env → Fram → List Fram → KX → R0 := fun e fr up k =>
  hGen C (.alloc 0 true [(pI 0), (pI 0), (pI 0), (pI 0), (pI 0), (pI 0), (pI 0), (pI 0)]) [] fr up (fun r0 f0 u0 =>
  headK (look' 0 e) (fun v0 => headK (look' 1 e) (fun v1 => headK r0 (fun v4 => k .normal [(0, v0), (1, v1), (4, v4)] f0 u0))))

noncomputable def q17_1 (B : Sy) (C : Go.ScE.Callee) : Env → Fram → List Fram → KX → R0 := fun e fr up k =>
  hBld [(pI 0), (pI 0), (pI 0), (pI 0), (pI 0)] [(0, 1), (1, 1)] [(.c (.p (pI 20))), (demK (demK (look' 0 e)))] fr up (fun r1 f1 u1 =>
  hBld [(pI 0), (pI 0), (pI 0), (pI 0), (pI 0), (pI 0), (pI 0), (pI 0)] [(0, 1), (1, 5), (7, 1)] [(.c (.p (pI 4))), (demK r1), (demK (demK (look' 1 e)))] f1 u1 (fun r3 f3 u3 =>
  hStS B 8 (demK (look' 4 e)) (demK r3) f3 u3 (fun r4 f4 u4 =>
  headK (look' 4 e) (fun v4 => k .normal [(4, v4)] f4 u4))))

noncomputable def s17 : KS := fun B C n => seqK (q17_0 B C) (seqK (q17_1 B C) (retK))
theorem s17_eq (B : Sy) (C : Go.ScE.Callee) (n : Nat) : s17 B C n = evS B C n x17.body := by kernel_rfl

noncomputable def q18_0 (B : Sy) (C : Go.ScE.Callee) : Env → Fram → List Fram → KX → R0 := fun e fr up k =>
  headK (look' 0 e) (fun v0 => k .normal [(0, v0)] fr up)

noncomputable def q18_1 (B : Sy) (C : Go.ScE.Callee) : Env → Fram → List Fram → KX → R0 := fun e fr up k =>
  hLenLS B  (demK (demK (look' 0 e))) fr up (fun r1 f1 u1 =>
  hBinS B .eql false (demK r1) (.c (.p (pI 0))) f1 u1 (fun r2 f2 u2 =>
  guardK false (demK r2) (fun K => K (demK (look' 0 e)) f2 u2) f2 u2 (fun r4 f4 u4 =>
  guardK false (demK r2) (fun K => hIaS B 8 (demK r4) (.c (.p (pI 0))) f4 u4 K) f4 u4 (fun r5 f5 u5 =>
  guardK false (demK r2) (fun K => hLdS B true 8 false (demK r5) f5 u5 K) f5 u5 (fun r6 f6 u6 =>
  guardK false (demK r2) (fun K => Bool.rec (motive := fun _ => R0) fail0 (hCall C 13 [(.c (.p (pI 9)))] f6 u6 K) (chkD (.call 13) false [] [(.c (.p (pI 9)))])) f6 u6 (fun r7 f7 u7 =>
  guardK false (demK r2) (fun K => hGen C (.beq true 8) [(demK r6), (demK r7)] f7 u7 K) f7 u7 (fun r8 f8 u8 =>
  hPick  (demK (demK r2)) (.c (.p (pB true))) (demK r8) f8 u8 (fun r9 f9 u9 =>
  headK (look' 0 e) (fun v0 => headK r9 (fun v15 => k .normal [(0, v0), (15, v15)] f9 u9))))))))))

noncomputable def q18_2 (B : Sy) (C : Go.ScE.Callee) : Env → Fram → List Fram → KX → R0 := fun e fr up k =>
  headK (.c (.p (pB false))) (fun v2 => k .normal [(2, v2)] fr up)

noncomputable def q18_3 (B : Sy) (C : Go.ScE.Callee) : Env → Fram → List Fram → KX → R0 := fun e fr up k =>
  headK (look' 0 e) (fun v0 => headK (.c (.p (pI 0))) (fun v3 => k .normal [(0, v0), (3, v3)] fr up))

noncomputable def q18_4 (B : Sy) (C : Go.ScE.Callee) : Env → Fram → List Fram → KX → R0 := fun e fr up k =>
  hLenLS B  (demK (demK (look' 0 e))) fr up (fun r2 f2 u2 =>
  hBinS B .lss false (demK (demK (look' 3 e))) (demK r2) f2 u2 (fun r3 f3 u3 =>
  headK (look' 0 e) (fun v0 => headK (look' 3 e) (fun v3 => headK r3 (fun v19 => k .normal [(0, v0), (3, v3), (19, v19)] f3 u3)))))

noncomputable def q18_5 (B : Sy) (C : Go.ScE.Callee) : Env → Fram → List Fram → KX → R0 := fun e fr up k =>
  hIaS B 8 (demK (demK (look' 0 e))) (demK (demK (look' 3 e))) fr up (fun r2 f2 u2 =>
  hFa 6 (demK r2) f2 u2 (fun r3 f3 u3 =>
  hLdS B false 1 false (demK r3) f3 u3 (fun r4 f4 u4 =>
  headK (look' 0 e) (fun v0 => headK (look' 3 e) (fun v3 => headK (demK r4) (fun v4 => k .normal [(0, v0), (3, v3), (4, v4)] f4 u4))))))

noncomputable def q18_6 (B : Sy) (C : Go.ScE.Callee) : Env → Fram → List Fram → KX → R0 := fun e fr up k =>
  hBinS B .geq false (demK (demK (look' 4 e))) (.c (.p (pI 2000))) fr up (fun r1 f1 u1 =>
  guardK true (demK r1) (fun K => K (demK (look' 4 e)) f1 u1) f1 u1 (fun r3 f3 u3 =>
  guardK true (demK r1) (fun K => hBinS B .leq false (demK r3) (.c (.p (pI 2999))) f3 u3 K) f3 u3 (fun r4 f4 u4 =>
  hPick  (demK (demK r1)) (demK r4) (.c (.p (pB false))) f4 u4 (fun r5 f5 u5 =>
  guardK false (demK r5) (fun K => K (demK (look' 4 e)) f5 u5) f5 u5 (fun r7 f7 u7 =>
  guardK false (demK r5) (fun K => hBinS B .geq false (demK r7) (.c (.p (pI 2))) f7 u7 K) f7 u7 (fun r8 f8 u8 =>
  guardK false (demK r5) (fun K => K (demK r8) f8 u8) f8 u8 (fun r9 f9 u9 =>
  guardK true r9 (fun K => K (demK (look' 4 e)) f9 u9) f9 u9 (fun r10 f10 u10 =>
  guardK true r9 (fun K => hBinS B .leq false (demK r10) (.c (.p (pI 9))) f10 u10 K) f10 u10 (fun r11 f11 u11 =>
  guardK false (demK r5) (fun K => hPick  (demK r9) (demK r11) (.c (.p (pB false))) f11 u11 K) f11 u11 (fun r12 f12 u12 =>
  hPick  (demK (demK r5)) (.c (.p (pB true))) (demK r12) f12 u12 (fun r13 f13 u13 =>
  guardK false (demK r13) (fun K => K (demK (look' 4 e)) f13 u13) f13 u13 (fun r15 f15 u15 =>
  guardK false (demK r13) (fun K => hBinS B .geq false (demK r15) (.c (.p (pI 11))) f15 u15 K) f15 u15 (fun r16 f16 u16 =>
  guardK false (demK r13) (fun K => K (demK r16) f16 u16) f16 u16 (fun r17 f17 u17 =>
  guardK true r17 (fun K => K (demK (look' 4 e)) f17 u17) f17 u17 (fun r18 f18 u18 =>
  guardK true r17 (fun K => hBinS B .leq false (demK r18) (.c (.p (pI 26))) f18 u18 K) f18 u18 (fun r19 f19 u19 =>
  guardK false (demK r13) (fun K => hPick  (demK r17) (demK r19) (.c (.p (pB false))) f19 u19 K) f19 u19 (fun r20 f20 u20 =>
  hPick  (demK (demK r13)) (.c (.p (pB true))) (demK r20) f20 u20 (fun r21 f21 u21 =>
  headK (look' 0 e) (fun v0 => headK (look' 3 e) (fun v3 => headK (look' 4 e) (fun v4 => headK (demK r21) (fun v5 => k .normal [(0, v0), (3, v3), (4, v4), (5, v5)] f21 u21))))))))))))))))))))))

noncomputable def q18_7 (B : Sy) (C : Go.ScE.Callee) : Env → Fram → List Fram → KX → R0 := fun e fr up k =>
  hIaS B 8 (demK (demK (look' 0 e))) (demK (demK (look' 3 e))) fr up (fun r2 f2 u2 =>
  hFa 0 (demK r2) f2 u2 (fun r3 f3 u3 =>
  hLdS B false 1 false (demK r3) f3 u3 (fun r4 f4 u4 =>
  hBinS B .eql false (demK r4) (.c (.p (pI 1))) f4 u4 (fun r5 f5 u5 =>
  guardK true (demK r5) (fun K => K (demK (look' 5 e)) f5 u5) f5 u5 (fun r7 f7 u7 =>
  guardK true (demK r5) (fun K => hGen C (.un .not) [(demK r7)] f7 u7 K) f7 u7 (fun r8 f8 u8 =>
  hPick  (demK (demK r5)) (demK r8) (.c (.p (pB false))) f8 u8 (fun r9 f9 u9 =>
  guardK false (demK r9) (fun K => K (demK (look' 0 e)) f9 u9) f9 u9 (fun r11 f11 u11 =>
  guardK false (demK r9) (fun K => K (demK (look' 3 e)) f11 u11) f11 u11 (fun r12 f12 u12 =>
  guardK false (demK r9) (fun K => hIaS B 8 (demK r11) (demK r12) f12 u12 K) f12 u12 (fun r13 f13 u13 =>
  guardK false (demK r9) (fun K => hLdS B true 8 false (demK r13) f13 u13 K) f13 u13 (fun r14 f14 u14 =>
  guardK false (demK r9) (fun K => hCall C 43 [(demK r14)] f14 u14 K) f14 u14 (fun r15 f15 u15 =>
  guardK false (demK r9) (fun K => K (demK r15) f15 u15) f15 u15 (fun r16 f16 u16 =>
  guardK true r16 (fun K => K (demK (look' 5 e)) f16 u16) f16 u16 (fun r17 f17 u17 =>
  guardK true r16 (fun K => hGen C (.un .not) [(demK r17)] f17 u17 K) f17 u17 (fun r18 f18 u18 =>
  guardK false (demK r9) (fun K => hPick  (demK r16) (demK r18) (.c (.p (pB false))) f18 u18 K) f18 u18 (fun r19 f19 u19 =>
  guardK false (demK r9) (fun K => K (demK r19) f19 u19) f19 u19 (fun r20 f20 u20 =>
  guardK true r20 (fun K => K (demK (look' 4 e)) f20 u20) f20 u20 (fun r21 f21 u21 =>
  guardK true r20 (fun K => hBinS B .neq false (demK r21) (.c (.p (pI 1))) f21 u21 K) f21 u21 (fun r22 f22 u22 =>
  guardK false (demK r9) (fun K => hPick  (demK r20) (demK r22) (.c (.p (pB false))) f22 u22 K) f22 u22 (fun r23 f23 u23 =>
  guardK false (demK r9) (fun K => K (demK r23) f23 u23) f23 u23 (fun r24 f24 u24 =>
  guardK true r24 (fun K => K (demK (look' 4 e)) f24 u24) f24 u24 (fun r25 f25 u25 =>
  guardK true r24 (fun K => hBinS B .neq false (demK r25) (.c (.p (pI 10))) f25 u25 K) f25 u25 (fun r26 f26 u26 =>
  guardK false (demK r9) (fun K => hPick  (demK r24) (demK r26) (.c (.p (pB false))) f26 u26 K) f26 u26 (fun r27 f27 u27 =>
  hPick  (demK (demK r9)) (.c (.p (pB true))) (demK r27) f27 u27 (fun r28 f28 u28 =>
  headK (look' 0 e) (fun v0 => headK (look' 3 e) (fun v3 => headK r28 (fun v77 => k .normal [(0, v0), (3, v3), (77, v77)] f28 u28))))))))))))))))))))))))))))

noncomputable def q18_8 (B : Sy) (C : Go.ScE.Callee) : Env → Fram → List Fram → KX → R0 := fun e fr up k =>
  headK (.c (.p (pB false))) (fun v2 => k .normal [(2, v2)] fr up)

noncomputable def q18_9 (B : Sy) (C : Go.ScE.Callee) : Env → Fram → List Fram → KX → R0 := fun e fr up k =>
  hBinS B .add false (demK (demK (look' 3 e))) (.c (.p (pI 1))) fr up (fun r1 f1 u1 =>
  headK (look' 0 e) (fun v0 => headK (demK r1) (fun v3 => k .normal [(0, v0), (3, v3)] f1 u1)))

noncomputable def q18_10 (B : Sy) (C : Go.ScE.Callee) : Env → Fram → List Fram → KX → R0 := fun e fr up k =>
  headK (.c (.p (pB true))) (fun v2 => k .normal [(2, v2)] fr up)

noncomputable def s18 : KS := fun B C n => seqK (q18_0 B C) (seqK (seqK (q18_1 B C) (condK (.t 15) (seqK (q18_2 B C) (retK)) (skipK))) (seqK (seqK (q18_3 B C) (blockK 0 (loopsK [0, 3] [] (seqK (seqK (q18_4 B C) (condK (.t 19) (skipK) (exitK 0))) (seqK (blockK 1 (seqK (q18_5 B C) (seqK (q18_6 B C) (seqK (q18_7 B C) (condK (.t 77) (seqK (q18_8 B C) (retK)) (skipK)))))) (q18_9 B C))) n))) (seqK (q18_10 B C) (retK))))
theorem s18_eq (B : Sy) (C : Go.ScE.Callee) (n : Nat) : s18 B C n = evS B C n x18.body := by kernel_rfl

noncomputable def q19_0 (B : Sy) (C : Go.ScE.Callee) : Env → Fram → List Fram → KX → R0 := fun e fr up k =>
  hGen C (.box 0) [(demK (look' 0 e))] fr up (fun r0 f0 u0 =>
  hGen C (.alloc 1 true [(pI 0), (pI 0), (pI 0)]) [] f0 u0 (fun r1 f1 u1 =>
  headK r0 (fun v1 => headK r1 (fun v2 => k .normal [(1, v1), (2, v2)] f1 u1))))

noncomputable def q19_1 (B : Sy) (C : Go.ScE.Callee) : Env → Fram → List Fram → KX → R0 := fun e fr up k =>
  hFa 1 (demK (look' 1 e)) fr up (fun r0 f0 u0 =>
  hLdS B false 1 false (demK r0) f0 u0 (fun r1 f1 u1 =>
  hBinS B .rem false (demK r1) (.c (.p (pI 8))) f1 u1 (fun r2 f2 u2 =>
  hBinS B .add false (demK r2) (.c (.p (pI 8))) f2 u2 (fun r3 f3 u3 =>
  hBinS B .rem false (demK r3) (.c (.p (pI 8))) f3 u3 (fun r4 f4 u4 =>
  hFa 1 (demK (look' 1 e)) f4 u4 (fun r5 f5 u5 =>
  hStS B 1 (demK r5) (demK r4) f5 u5 (fun r6 f6 u6 =>
  headK (look' 1 e) (fun v1 => headK (look' 2 e) (fun v2 => k .normal [(1, v1), (2, v2)] f6 u6)))))))))

noncomputable def q19_2 (B : Sy) (C : Go.ScE.Callee) : Env → Fram → List Fram → KX → R0 := fun e fr up k =>
  hFa 2 (demK (look' 1 e)) fr up (fun r0 f0 u0 =>
  hLdS B false 1 false (demK r0) f0 u0 (fun r1 f1 u1 =>
  hBinS B .rem false (demK r1) (.c (.p (pI 200))) f1 u1 (fun r2 f2 u2 =>
  hBinS B .add false (demK r2) (.c (.p (pI 200))) f2 u2 (fun r3 f3 u3 =>
  hBinS B .rem false (demK r3) (.c (.p (pI 200))) f3 u3 (fun r4 f4 u4 =>
  hFa 2 (demK (look' 1 e)) f4 u4 (fun r5 f5 u5 =>
  hStS B 1 (demK r5) (demK r4) f5 u5 (fun r6 f6 u6 =>
  headK (look' 1 e) (fun v1 => headK (look' 2 e) (fun v2 => k .normal [(1, v1), (2, v2)] f6 u6)))))))))

noncomputable def q19_3 (B : Sy) (C : Go.ScE.Callee) : Env → Fram → List Fram → KX → R0 := fun e fr up k =>
  hLdS B true 3 false (demK (look' 1 e)) fr up (fun r0 f0 u0 =>
  hStS B 3 (demK (look' 2 e)) (demK r0) f0 u0 (fun r1 f1 u1 =>
  headK (look' 2 e) (fun v2 => k .normal [(2, v2)] f1 u1)))

noncomputable def s19 : KS := fun B C n => seqK (q19_0 B C) (seqK (q19_1 B C) (seqK (q19_2 B C) (seqK (q19_3 B C) (retK))))
theorem s19_eq (B : Sy) (C : Go.ScE.Callee) (n : Nat) : s19 B C n = evS B C n x19.body := by kernel_rfl

noncomputable def q20_0 (B : Sy) (C : Go.ScE.Callee) : Env → Fram → List Fram → KX → R0 := fun e fr up k =>
  hGen C (.alloc 0 true [(.sl 1 []), (.sl 1 []), (pI 0)]) [] fr up (fun r0 f0 u0 =>
  headK (look' 0 e) (fun v0 => headK (look' 1 e) (fun v1 => headK (look' 2 e) (fun v2 => headK (look' 3 e) (fun v3 => headK (look' 4 e) (fun v4 => headK (look' 5 e) (fun v5 => headK r0 (fun v12 => k .normal [(0, v0), (1, v1), (2, v2), (3, v3), (4, v4), (5, v5), (12, v12)] f0 u0))))))))

noncomputable def q20_1 (B : Sy) (C : Go.ScE.Callee) : Env → Fram → List Fram → KX → R0 := fun e fr up k =>
  hBlds 8 [(pI 0), (pI 0), (pI 0), (pI 0), (pI 0), (pI 0), (pI 0), (pI 0)] 0 [] [] fr up (fun r0 f0 u0 =>
  hApp 8 64 r0 (demK (look' 0 e)) f0 u0 (fun r2 f2 u2 =>
  hApp 8 64 r2 (demK (look' 1 e)) f2 u2 (fun r4 f4 u4 =>
  hApp 8 64 r4 (demK (look' 2 e)) f4 u4 (fun r6 f6 u6 =>
  hCall C 44 [r6] f6 u6 (fun r7 f7 u7 =>
  hGen C (.ext 0) [(demK r7)] f7 u7 (fun r9 f9 u9 =>
  hGen C (.ext 1) [(demK r7)] f9 u9 (fun r10 f10 u10 =>
  hGen C (.ext 2) [r7] f10 u10 (fun r11 f11 u11 =>
  headK (look' 3 e) (fun v3 => headK (look' 4 e) (fun v4 => headK (look' 5 e) (fun v5 => headK (look' 12 e) (fun v12 => headK r9 (fun v14 => headK (demK r11) (fun v16 => k .normal [(3, v3), (4, v4), (5, v5), (12, v12), (14, v14), (16, v16)] f11 u11))))))))))))))

noncomputable def q20_2 (B : Sy) (C : Go.ScE.Callee) : Env → Fram → List Fram → KX → R0 := fun e fr up k =>
  hBinS B .add false (.c (.p (pI 32))) (demK (demK (look' 3 e))) fr up (fun r1 f1 u1 =>
  headK (look' 4 e) (fun v4 => headK (look' 5 e) (fun v5 => headK (look' 12 e) (fun v12 => headK (look' 14 e) (fun v14 => headK (look' 16 e) (fun v16 => headK (demK r1) (fun v17 => k .normal [(4, v4), (5, v5), (12, v12), (14, v14), (16, v16), (17, v17)] f1 u1)))))))

noncomputable def q20_3 (B : Sy) (C : Go.ScE.Callee) : Env → Fram → List Fram → KX → R0 := fun e fr up k =>
  hBinS B .mul false (.c (.p (pI 2))) (demK (demK (look' 4 e))) fr up (fun r2 f2 u2 =>
  hBinS B .add false (demK (demK (look' 17 e))) (demK r2) f2 u2 (fun r3 f3 u3 =>
  hBinS B .add false (demK r3) (.c (.p (pI 1))) f3 u3 (fun r4 f4 u4 =>
  hMksS B 1 1 [(pI 0)] (demK r4) (demK r4) f4 u4 (fun r5 f5 u5 =>
  headK (look' 4 e) (fun v4 => headK (look' 5 e) (fun v5 => headK (look' 12 e) (fun v12 => headK (look' 14 e) (fun v14 => headK (look' 16 e) (fun v16 => headK (look' 17 e) (fun v17 => headK r5 (fun v18 => k .normal [(4, v4), (5, v5), (12, v12), (14, v14), (16, v16), (17, v17), (18, v18)] f5 u5)))))))))))

noncomputable def q20_4 (B : Sy) (C : Go.ScE.Callee) : Env → Fram → List Fram → KX → R0 := fun e fr up k =>
  hIaS B 1 (demK (demK (look' 18 e))) (.c (.p (pI 28))) fr up (fun r2 f2 u2 =>
  hStS B 1 (demK r2) (demK (demK (look' 17 e))) f2 u2 (fun r3 f3 u3 =>
  headK (look' 4 e) (fun v4 => headK (look' 5 e) (fun v5 => headK (look' 12 e) (fun v12 => headK (look' 14 e) (fun v14 => headK (look' 16 e) (fun v16 => headK (look' 17 e) (fun v17 => headK (look' 18 e) (fun v18 => k .normal [(4, v4), (5, v5), (12, v12), (14, v14), (16, v16), (17, v17), (18, v18)] f3 u3)))))))))

noncomputable def q20_5 (B : Sy) (C : Go.ScE.Callee) : Env → Fram → List Fram → KX → R0 := fun e fr up k =>
  hBinS B .add false (demK (demK (look' 17 e))) (demK (demK (look' 4 e))) fr up (fun r3 f3 u3 =>
  hIaS B 1 (demK (demK (look' 18 e))) (.c (.p (pI 29))) f3 u3 (fun r4 f4 u4 =>
  hStS B 1 (demK r4) (demK r3) f4 u4 (fun r5 f5 u5 =>
  headK (look' 4 e) (fun v4 => headK (look' 5 e) (fun v5 => headK (look' 12 e) (fun v12 => headK (look' 14 e) (fun v14 => headK (look' 16 e) (fun v16 => headK (look' 17 e) (fun v17 => headK (look' 18 e) (fun v18 => k .normal [(4, v4), (5, v5), (12, v12), (14, v14), (16, v16), (17, v17), (18, v18)] f5 u5))))))))))

noncomputable def q20_6 (B : Sy) (C : Go.ScE.Callee) : Env → Fram → List Fram → KX → R0 := fun e fr up k =>
  hBinS B .add false (demK (demK (look' 17 e))) (demK (demK (look' 4 e))) fr up (fun r3 f3 u3 =>
  hIaS B 1 (demK (demK (look' 18 e))) (.c (.p (pI 30))) f3 u3 (fun r4 f4 u4 =>
  hStS B 1 (demK r4) (demK r3) f4 u4 (fun r5 f5 u5 =>
  headK (look' 4 e) (fun v4 => headK (look' 5 e) (fun v5 => headK (look' 12 e) (fun v12 => headK (look' 14 e) (fun v14 => headK (look' 16 e) (fun v16 => headK (look' 17 e) (fun v17 => headK (look' 18 e) (fun v18 => k .normal [(4, v4), (5, v5), (12, v12), (14, v14), (16, v16), (17, v17), (18, v18)] f5 u5))))))))))

noncomputable def q20_7 (B : Sy) (C : Go.ScE.Callee) : Env → Fram → List Fram → KX → R0 := fun e fr up k =>
  hBinS B .mul false (.c (.p (pI 2))) (demK (demK (look' 4 e))) fr up (fun r3 f3 u3 =>
  hBinS B .add false (demK (demK (look' 17 e))) (demK r3) f3 u3 (fun r4 f4 u4 =>
  hIaS B 1 (demK (demK (look' 18 e))) (.c (.p (pI 31))) f4 u4 (fun r5 f5 u5 =>
  hStS B 1 (demK r5) (demK r4) f5 u5 (fun r6 f6 u6 =>
  headK (look' 4 e) (fun v4 => headK (look' 5 e) (fun v5 => headK (look' 12 e) (fun v12 => headK (look' 14 e) (fun v14 => headK (look' 16 e) (fun v16 => headK (look' 17 e) (fun v17 => headK (look' 18 e) (fun v18 => k .normal [(4, v4), (5, v5), (12, v12), (14, v14), (16, v16), (17, v17), (18, v18)] f6 u6)))))))))))

noncomputable def q20_8 (B : Sy) (C : Go.ScE.Callee) : Env → Fram → List Fram → KX → R0 := fun e fr up k =>
  hBinS B .mul false (.c (.p (pI 2))) (demK (demK (look' 4 e))) fr up (fun r3 f3 u3 =>
  hBinS B .add false (demK (demK (look' 17 e))) (demK r3) f3 u3 (fun r4 f4 u4 =>
  hIaS B 1 (demK (demK (look' 18 e))) (demK r4) f4 u4 (fun r6 f6 u6 =>
  hStS B 1 (demK r6) (demK (demK (look' 5 e))) f6 u6 (fun r7 f7 u7 =>
  headK (look' 12 e) (fun v12 => headK (look' 14 e) (fun v14 => headK (look' 16 e) (fun v16 => headK (look' 18 e) (fun v18 => k .normal [(12, v12), (14, v14), (16, v16), (18, v18)] f7 u7))))))))

noncomputable def q20_9 (B : Sy) (C : Go.ScE.Callee) : Env → Fram → List Fram → KX → R0 := fun e fr up k =>
  hLenLS B  (demK (look' 18 e)) fr up (fun r3 f3 u3 =>
  hBld [(.sl 1 []), (.sl 1 []), (pI 0)] [(0, 1), (1, 1), (2, 1)] [(look' 14 e), (demK (look' 18 e)), (demK r3)] f3 u3 (fun r4 f4 u4 =>
  hBinS B .eql false (demK (demK (look' 16 e))) (.c (.p (pI 0))) f4 u4 (fun r6 f6 u6 =>
  hStS B 3 (demK (look' 12 e)) r4 f6 u6 (fun r7 f7 u7 =>
  headK (look' 12 e) (fun v12 => headK (demK r6) (fun v13 => k .normal [(12, v12), (13, v13)] f7 u7))))))

noncomputable def s20 : KS := fun B C n => seqK (q20_0 B C) (seqK (q20_1 B C) (seqK (q20_2 B C) (seqK (q20_3 B C) (seqK (q20_4 B C) (seqK (q20_5 B C) (seqK (q20_6 B C) (seqK (q20_7 B C) (seqK (q20_8 B C) (seqK (q20_9 B C) (retK))))))))))
theorem s20_eq (B : Sy) (C : Go.ScE.Callee) (n : Nat) : s20 B C n = evS B C n x20.body := by kernel_rfl

noncomputable def q21_0 (B : Sy) (C : Go.ScE.Callee) : Env → Fram → List Fram → KX → R0 := fun e fr up k =>
  hGen C (.box 0) [(look' 0 e)] fr up (fun r0 f0 u0 =>
  hGen C (.alloc 1 true [(pI 0), (pI 0), (pS []), (pI 0), (pI 0), (pI 0), (pI 0), (pI 0), (pI 0), (pI 0), (pI 0), (pI 0), (pI 0), (pI 0), (pI 0), (pI 0), (pI 0), (pI 0), (pI 0), (pI 0), (pI 0), (pI 0), (pI 0), (pI 0), (pI 0), (pI 0), (pI 0), (pI 0), (pI 0), (pI 0), (pI 0), (pI 0), (pI 0), (pI 0), (pI 0), (pI 0), (pI 0), (.sl 1 [])]) [] f0 u0 (fun r1 f1 u1 =>
  headK (look' 1 e) (fun v1 => headK (look' 2 e) (fun v2 => headK r0 (fun v3 => headK r1 (fun v6 => k .normal [(1, v1), (2, v2), (3, v3), (6, v6)] f1 u1))))))

noncomputable def q21_1 (B : Sy) (C : Go.ScE.Callee) : Env → Fram → List Fram → KX → R0 := fun e fr up k =>
  hFa 2 (demK (look' 3 e)) fr up (fun r0 f0 u0 =>
  hLdS B false 1 false (demK r0) f0 u0 (fun r1 f1 u1 =>
  hBinS B .lss false (demK r1) (.c (.p (pI 0))) f1 u1 (fun r2 f2 u2 =>
  guardK false (demK r2) (fun K => hFa 2 (demK (look' 3 e)) f2 u2 K) f2 u2 (fun r4 f4 u4 =>
  guardK false (demK r2) (fun K => hLdS B false 1 false (demK r4) f4 u4 K) f4 u4 (fun r5 f5 u5 =>
  guardK false (demK r2) (fun K => hBinS B .gtr false (demK r5) (.c (.p (pI 1048576))) f5 u5 K) f5 u5 (fun r6 f6 u6 =>
  hPick  (demK (demK r2)) (.c (.p (pB true))) (demK r6) f6 u6 (fun r7 f7 u7 =>
  guardK false (demK r7) (fun K => hFa 0 (demK (look' 3 e)) f7 u7 K) f7 u7 (fun r9 f9 u9 =>
  guardK false (demK r7) (fun K => hLdS B false 1 false (demK r9) f9 u9 K) f9 u9 (fun r10 f10 u10 =>
  guardK false (demK r7) (fun K => hLenLS B  (demK r10) f10 u10 K) f10 u10 (fun r11 f11 u11 =>
  guardK false (demK r7) (fun K => hBinS B .gtr false (demK r11) (.c (.p (pI 1048576))) f11 u11 K) f11 u11 (fun r12 f12 u12 =>
  hPick  (demK (demK r7)) (.c (.p (pB true))) (demK r12) f12 u12 (fun r13 f13 u13 =>
  guardK false (demK r13) (fun K => hFa 1 (demK (look' 3 e)) f13 u13 K) f13 u13 (fun r15 f15 u15 =>
  guardK false (demK r13) (fun K => hLdS B false 1 false (demK r15) f15 u15 K) f15 u15 (fun r16 f16 u16 =>
  guardK false (demK r13) (fun K => hLenLS B  (demK r16) f16 u16 K) f16 u16 (fun r17 f17 u17 =>
  guardK false (demK r13) (fun K => hFa 2 (demK (look' 3 e)) f17 u17 K) f17 u17 (fun r18 f18 u18 =>
  guardK false (demK r13) (fun K => hLdS B false 1 false (demK r18) f18 u18 K) f18 u18 (fun r19 f19 u19 =>
  guardK false (demK r13) (fun K => hBinS B .gtr false (demK r17) (demK r19) f19 u19 K) f19 u19 (fun r20 f20 u20 =>
  hPick  (demK (demK r13)) (.c (.p (pB true))) (demK r20) f20 u20 (fun r21 f21 u21 =>
  guardK false (demK r21) (fun K => K (demK (look' 2 e)) f21 u21) f21 u21 (fun r23 f23 u23 =>
  guardK false (demK r21) (fun K => hBinS B .lss false (demK r23) (.c (.p (pI 0))) f23 u23 K) f23 u23 (fun r24 f24 u24 =>
  hPick  (demK (demK r21)) (.c (.p (pB true))) (demK r24) f24 u24 (fun r25 f25 u25 =>
  headK (look' 1 e) (fun v1 => headK (look' 2 e) (fun v2 => headK (look' 3 e) (fun v3 => headK (look' 6 e) (fun v6 => headK r25 (fun v38 => k .normal [(1, v1), (2, v2), (3, v3), (6, v6), (38, v38)] f25 u25)))))))))))))))))))))))))))

noncomputable def q21_2 (B : Sy) (C : Go.ScE.Callee) : Env → Fram → List Fram → KX → R0 := fun e fr up k =>
  hBld [(pI 0), (pI 0), (pS []), (pI 0), (pI 0), (pI 0), (pI 0), (pI 0), (pI 0), (pI 0), (pI 0), (pI 0), (pI 0), (pI 0), (pI 0), (pI 0), (pI 0), (pI 0), (pI 0), (pI 0), (pI 0), (pI 0), (pI 0), (pI 0), (pI 0), (pI 0), (pI 0), (pI 0), (pI 0), (pI 0), (pI 0), (pI 0), (pI 0), (pI 0), (pI 0), (pI 0), (pI 0), (.sl 1 [])] [(0, 1)] [(.c (.p (pI 7)))] fr up (fun r0 f0 u0 =>
  hStS B 38 (demK (look' 6 e)) r0 f0 u0 (fun r1 f1 u1 =>
  headK (look' 6 e) (fun v6 => k .normal [(6, v6)] f1 u1)))

noncomputable def q21_3 (B : Sy) (C : Go.ScE.Callee) : Env → Fram → List Fram → KX → R0 := fun e fr up k =>
  hBld [(pI 0), (pI 0), (pS []), (pI 0), (pI 0), (pI 0), (pI 0), (pI 0), (pI 0), (pI 0), (pI 0), (pI 0), (pI 0), (pI 0), (pI 0), (pI 0), (pI 0), (pI 0), (pI 0), (pI 0), (pI 0), (pI 0), (pI 0), (pI 0), (pI 0), (pI 0), (pI 0), (pI 0), (pI 0), (pI 0), (pI 0), (pI 0), (pI 0), (pI 0), (pI 0), (pI 0), (pI 0), (.sl 1 []), (pS []), (.sl 1 [])] [(38, 1)] [(demK (demK (look' 1 e)))] fr up (fun r1 f1 u1 =>
  hGen C (.box 2) [r1] f1 u1 (fun r2 f2 u2 =>
  headK (look' 2 e) (fun v2 => headK (look' 3 e) (fun v3 => headK (look' 6 e) (fun v6 => headK (demK r2) (fun v7 => k .normal [(2, v2), (3, v3), (6, v6), (7, v7)] f2 u2))))))

noncomputable def q21_4 (B : Sy) (C : Go.ScE.Callee) : Env → Fram → List Fram → KX → R0 := fun e fr up k =>
  hFa 2 (demK (look' 3 e)) fr up (fun r1 f1 u1 =>
  hLdS B false 1 false (demK r1) f1 u1 (fun r2 f2 u2 =>
  hMksS B 3 1 [(pI 0)] (demK r2) (demK r2) f2 u2 (fun r3 f3 u3 =>
  hGen C (.nck) [(demK (demK (look' 7 e)))] f3 u3 (fun r4 f4 u4 =>
  hFa 0 (demK r4) f4 u4 (fun r5 f5 u5 =>
  hFa 37 (demK r5) f5 u5 (fun r6 f6 u6 =>
  hStS B 1 (demK r6) r3 f6 u6 (fun r7 f7 u7 =>
  headK (look' 2 e) (fun v2 => headK (look' 3 e) (fun v3 => headK (look' 6 e) (fun v6 => headK (look' 7 e) (fun v7 => k .normal [(2, v2), (3, v3), (6, v6), (7, v7)] f7 u7)))))))))))

noncomputable def q21_5 (B : Sy) (C : Go.ScE.Callee) : Env → Fram → List Fram → KX → R0 := fun e fr up k =>
  hGen C (.nck) [(demK (demK (look' 7 e)))] fr up (fun r1 f1 u1 =>
  hFa 0 (demK r1) f1 u1 (fun r2 f2 u2 =>
  hFa 37 (demK r2) f2 u2 (fun r3 f3 u3 =>
  hLdS B false 1 false (demK r3) f3 u3 (fun r4 f4 u4 =>
  hFa 1 (demK (look' 3 e)) f4 u4 (fun r5 f5 u5 =>
  hLdS B false 1 false (demK r5) f5 u5 (fun r6 f6 u6 =>
  hCopyS B 1 (demK r4) (demK r6) f6 u6 (fun r7 f7 u7 =>
  headK (look' 2 e) (fun v2 => headK (look' 3 e) (fun v3 => headK (look' 6 e) (fun v6 => headK (look' 7 e) (fun v7 => k .normal [(2, v2), (3, v3), (6, v6), (7, v7)] f7 u7)))))))))))

noncomputable def q21_6 (B : Sy) (C : Go.ScE.Callee) : Env → Fram → List Fram → KX → R0 := fun e fr up k =>
  hGen C (.nck) [(demK (demK (look' 7 e)))] fr up (fun r1 f1 u1 =>
  hFa 0 (demK r1) f1 u1 (fun r2 f2 u2 =>
  hFa 0 (demK r2) f2 u2 (fun r3 f3 u3 =>
  hStS B 1 (demK r3) (.c (.p (pI 6))) f3 u3 (fun r4 f4 u4 =>
  headK (look' 2 e) (fun v2 => headK (look' 3 e) (fun v3 => headK (look' 6 e) (fun v6 => headK (look' 7 e) (fun v7 => k .normal [(2, v2), (3, v3), (6, v6), (7, v7)] f4 u4))))))))

noncomputable def q21_7 (B : Sy) (C : Go.ScE.Callee) : Env → Fram → List Fram → KX → R0 := fun e fr up k =>
  hFa 0 (demK (look' 3 e)) fr up (fun r0 f0 u0 =>
  hLdS B false 1 false (demK r0) f0 u0 (fun r1 f1 u1 =>
  hLenLS B  (demK r1) f1 u1 (fun r2 f2 u2 =>
  hMksS B 4 5 [(pI 0), (pI 0), (pI 0), (pI 0), (pI 0)] (demK r2) (demK r2) f2 u2 (fun r3 f3 u3 =>
  headK (look' 2 e) (fun v2 => headK (look' 3 e) (fun v3 => headK (look' 6 e) (fun v6 => headK (look' 7 e) (fun v7 => headK r3 (fun v8 => k .normal [(2, v2), (3, v3), (6, v6), (7, v7), (8, v8)] f3 u3)))))))))

noncomputable def q21_8 (B : Sy) (C : Go.ScE.Callee) : Env → Fram → List Fram → KX → R0 := fun e fr up k =>
  hFa 0 (demK (look' 3 e)) fr up (fun r0 f0 u0 =>
  hLdS B false 1 false (demK r0) f0 u0 (fun r1 f1 u1 =>
  hLenLS B  (demK r1) f1 u1 (fun r2 f2 u2 =>
  hMksS B 5 1 [(pB false)] (demK r2) (demK r2) f2 u2 (fun r3 f3 u3 =>
  headK (look' 2 e) (fun v2 => headK (look' 3 e) (fun v3 => headK (look' 6 e) (fun v6 => headK (look' 7 e) (fun v7 => headK (look' 8 e) (fun v8 => headK r3 (fun v9 => k .normal [(2, v2), (3, v3), (6, v6), (7, v7), (8, v8), (9, v9)] f3 u3))))))))))

noncomputable def q21_9 (B : Sy) (C : Go.ScE.Callee) : Env → Fram → List Fram → KX → R0 := fun e fr up k =>
  hGen C (.nck) [(demK (demK (look' 7 e)))] fr up (fun r1 f1 u1 =>
  hFa 0 (demK r1) f1 u1 (fun r2 f2 u2 =>
  hFa 0 (demK r2) f2 u2 (fun r3 f3 u3 =>
  hLdS B false 1 false (demK r3) f3 u3 (fun r4 f4 u4 =>
  hBinS B .eql false (demK r4) (.c (.p (pI 6))) f4 u4 (fun r5 f5 u5 =>
  guardK true (demK r5) (fun K => K (demK (look' 7 e)) f5 u5) f5 u5 (fun r7 f7 u7 =>
  guardK true (demK r5) (fun K => hGen C (.nck) [(demK r7)] f7 u7 K) f7 u7 (fun r8 f8 u8 =>
  guardK true (demK r5) (fun K => hFa 0 (demK r8) f8 u8 K) f8 u8 (fun r9 f9 u9 =>
  guardK true (demK r5) (fun K => hFa 3 (demK r9) f9 u9 K) f9 u9 (fun r10 f10 u10 =>
  guardK true (demK r5) (fun K => hLdS B false 1 false (demK r10) f10 u10 K) f10 u10 (fun r11 f11 u11 =>
  guardK true (demK r5) (fun K => K (demK (look' 2 e)) f11 u11) f11 u11 (fun r12 f12 u12 =>
  guardK true (demK r5) (fun K => hBinS B .lss false (demK r11) (demK r12) f12 u12 K) f12 u12 (fun r13 f13 u13 =>
  hPick  (demK (demK r5)) (demK r13) (.c (.p (pB false))) f13 u13 (fun r14 f14 u14 =>
  headK (look' 2 e) (fun v2 => headK (look' 3 e) (fun v3 => headK (look' 6 e) (fun v6 => headK (look' 7 e) (fun v7 => headK (look' 8 e) (fun v8 => headK (look' 9 e) (fun v9 => headK r14 (fun v84 => k .normal [(2, v2), (3, v3), (6, v6), (7, v7), (8, v8), (9, v9), (84, v84)] f14 u14))))))))))))))))))))

noncomputable def q21_10 (B : Sy) (C : Go.ScE.Callee) : Env → Fram → List Fram → KX → R0 := fun e fr up k =>
  hGen C (.nck) [(demK (demK (look' 7 e)))] fr up (fun r1 f1 u1 =>
  hFa 0 (demK r1) f1 u1 (fun r2 f2 u2 =>
  hFa 4 (demK r2) f2 u2 (fun r3 f3 u3 =>
  hLdS B false 1 false (demK r3) f3 u3 (fun r4 f4 u4 =>
  headK (look' 2 e) (fun v2 => headK (look' 3 e) (fun v3 => headK (look' 6 e) (fun v6 => headK (look' 7 e) (fun v7 => headK (look' 8 e) (fun v8 => headK (look' 9 e) (fun v9 => headK (demK r4) (fun v10 => k .normal [(2, v2), (3, v3), (6, v6), (7, v7), (8, v8), (9, v9), (10, v10)] f4 u4)))))))))))

noncomputable def q21_11 (B : Sy) (C : Go.ScE.Callee) : Env → Fram → List Fram → KX → R0 := fun e fr up k =>
  hBinS B .lss false (demK (demK (look' 10 e))) (.c (.p (pI 0))) fr up (fun r1 f1 u1 =>
  guardK false (demK r1) (fun K => K (demK (look' 10 e)) f1 u1) f1 u1 (fun r3 f3 u3 =>
  guardK false (demK r1) (fun K => hFa 0 (demK (look' 3 e)) f3 u3 K) f3 u3 (fun r4 f4 u4 =>
  guardK false (demK r1) (fun K => hLdS B false 1 false (demK r4) f4 u4 K) f4 u4 (fun r5 f5 u5 =>
  guardK false (demK r1) (fun K => hLenLS B  (demK r5) f5 u5 K) f5 u5 (fun r6 f6 u6 =>
  guardK false (demK r1) (fun K => hBinS B .geq false (demK r3) (demK r6) f6 u6 K) f6 u6 (fun r7 f7 u7 =>
  hPick  (demK (demK r1)) (.c (.p (pB true))) (demK r7) f7 u7 (fun r8 f8 u8 =>
  headK (look' 2 e) (fun v2 => headK (look' 3 e) (fun v3 => headK (look' 6 e) (fun v6 => headK (look' 7 e) (fun v7 => headK (look' 8 e) (fun v8 => headK (look' 9 e) (fun v9 => headK (look' 10 e) (fun v10 => headK r8 (fun v98 => k .normal [(2, v2), (3, v3), (6, v6), (7, v7), (8, v8), (9, v9), (10, v10), (98, v98)] f8 u8)))))))))))))))

noncomputable def q21_12 (B : Sy) (C : Go.ScE.Callee) : Env → Fram → List Fram → KX → R0 := fun e fr up k =>
  hGen C (.nck) [(demK (demK (look' 7 e)))] fr up (fun r1 f1 u1 =>
  hFa 0 (demK r1) f1 u1 (fun r2 f2 u2 =>
  hFa 0 (demK r2) f2 u2 (fun r3 f3 u3 =>
  hStS B 1 (demK r3) (.c (.p (pI 3))) f3 u3 (fun r4 f4 u4 =>
  headK (look' 6 e) (fun v6 => headK (look' 7 e) (fun v7 => k .normal [(6, v6), (7, v7)] f4 u4))))))

noncomputable def q21_13 (B : Sy) (C : Go.ScE.Callee) : Env → Fram → List Fram → KX → R0 := fun e fr up k =>
  hIaS B 1 (demK (demK (look' 9 e))) (demK (demK (look' 10 e))) fr up (fun r2 f2 u2 =>
  hLdS B false 1 false (demK r2) f2 u2 (fun r3 f3 u3 =>
  hGen C (.un .not) [(demK r3)] f3 u3 (fun r4 f4 u4 =>
  headK (look' 2 e) (fun v2 => headK (look' 3 e) (fun v3 => headK (look' 6 e) (fun v6 => headK (look' 7 e) (fun v7 => headK (look' 8 e) (fun v8 => headK (look' 9 e) (fun v9 => headK (look' 10 e) (fun v10 => headK r4 (fun v107 => k .normal [(2, v2), (3, v3), (6, v6), (7, v7), (8, v8), (9, v9), (10, v10), (107, v107)] f4 u4)))))))))))

noncomputable def q21_14 (B : Sy) (C : Go.ScE.Callee) : Env → Fram → List Fram → KX → R0 := fun e fr up k =>
  hFa 0 (demK (look' 3 e)) fr up (fun r0 f0 u0 =>
  hLdS B false 1 false (demK r0) f0 u0 (fun r1 f1 u1 =>
  hIaS B 1 (demK r1) (demK (demK (look' 10 e))) f1 u1 (fun r3 f3 u3 =>
  hLdS B false 1 false (demK r3) f3 u3 (fun r4 f4 u4 =>
  hCall C 45 [(demK r4)] f4 u4 (fun r5 f5 u5 =>
  hGen C (.ext 0) [(demK (demK r5))] f5 u5 (fun r7 f7 u7 =>
  hGen C (.ext 1) [(demK (demK r5))] f7 u7 (fun r8 f8 u8 =>
  hGen C (.alloc 6 true [(pI 0), (pI 0), (pI 0), (pI 0), (pI 0)]) [] f8 u8 (fun r9 f9 u9 =>
  hStS B 5 (demK r9) (demK r7) f9 u9 (fun r10 f10 u10 =>
  headK (look' 2 e) (fun v2 => headK (look' 3 e) (fun v3 => headK (look' 6 e) (fun v6 => headK (look' 7 e) (fun v7 => headK (look' 8 e) (fun v8 => headK (look' 9 e) (fun v9 => headK (look' 10 e) (fun v10 => headK r9 (fun v11 => headK (demK r8) (fun v12 => k .normal [(2, v2), (3, v3), (6, v6), (7, v7), (8, v8), (9, v9), (10, v10), (11, v11), (12, v12)] f10 u10))))))))))))))))))

noncomputable def q21_15 (B : Sy) (C : Go.ScE.Callee) : Env → Fram → List Fram → KX → R0 := fun e fr up k =>
  hGen C (.un .not) [(demK (demK (look' 12 e)))] fr up (fun r1 f1 u1 =>
  headK (look' 2 e) (fun v2 => headK (look' 3 e) (fun v3 => headK (look' 6 e) (fun v6 => headK (look' 7 e) (fun v7 => headK (look' 8 e) (fun v8 => headK (look' 9 e) (fun v9 => headK (look' 10 e) (fun v10 => headK (look' 11 e) (fun v11 => headK r1 (fun v118 => k .normal [(2, v2), (3, v3), (6, v6), (7, v7), (8, v8), (9, v9), (10, v10), (11, v11), (118, v118)] f1 u1))))))))))

noncomputable def q21_16 (B : Sy) (C : Go.ScE.Callee) : Env → Fram → List Fram → KX → R0 := fun e fr up k =>
  hGen C (.nck) [(demK (demK (look' 7 e)))] fr up (fun r1 f1 u1 =>
  hFa 0 (demK r1) f1 u1 (fun r2 f2 u2 =>
  hFa 0 (demK r2) f2 u2 (fun r3 f3 u3 =>
  hStS B 1 (demK r3) (.c (.p (pI 1))) f3 u3 (fun r4 f4 u4 =>
  headK (look' 6 e) (fun v6 => headK (look' 7 e) (fun v7 => k .normal [(6, v6), (7, v7)] f4 u4))))))

noncomputable def q21_17 (B : Sy) (C : Go.ScE.Callee) : Env → Fram → List Fram → KX → R0 := fun e fr up k =>
  hLdS B true 5 false (demK (look' 11 e)) fr up (fun r2 f2 u2 =>
  hIaS B 5 (demK (demK (look' 8 e))) (demK (demK (look' 10 e))) f2 u2 (fun r3 f3 u3 =>
  hStS B 5 (demK r3) (demK r2) f3 u3 (fun r4 f4 u4 =>
  headK (look' 2 e) (fun v2 => headK (look' 3 e) (fun v3 => headK (look' 6 e) (fun v6 => headK (look' 7 e) (fun v7 => headK (look' 8 e) (fun v8 => headK (look' 9 e) (fun v9 => headK (look' 10 e) (fun v10 => k .normal [(2, v2), (3, v3), (6, v6), (7, v7), (8, v8), (9, v9), (10, v10)] f4 u4))))))))))

noncomputable def q21_18 (B : Sy) (C : Go.ScE.Callee) : Env → Fram → List Fram → KX → R0 := fun e fr up k =>
  hIaS B 1 (demK (demK (look' 9 e))) (demK (demK (look' 10 e))) fr up (fun r2 f2 u2 =>
  hStS B 1 (demK r2) (.c (.p (pB true))) f2 u2 (fun r3 f3 u3 =>
  headK (look' 2 e) (fun v2 => headK (look' 3 e) (fun v3 => headK (look' 6 e) (fun v6 => headK (look' 7 e) (fun v7 => headK (look' 8 e) (fun v8 => headK (look' 9 e) (fun v9 => headK (look' 10 e) (fun v10 => k .normal [(2, v2), (3, v3), (6, v6), (7, v7), (8, v8), (9, v9), (10, v10)] f3 u3)))))))))

noncomputable def q21_19 (B : Sy) (C : Go.ScE.Callee) : Env → Fram → List Fram → KX → R0 := fun e fr up k =>
  hIaS B 5 (demK (demK (look' 8 e))) (demK (demK (look' 10 e))) fr up (fun r4 f4 u4 =>
  hLdS B true 5 false (demK r4) f4 u4 (fun r5 f5 u5 =>
  hCall C 46 [(demK (demK (look' 7 e))), (demK r5)] f5 u5 (fun r6 f6 u6 =>
  hGen C (.nck) [(demK (demK (look' 7 e)))] f6 u6 (fun r7 f7 u7 =>
  hFa 0 (demK r7) f7 u7 (fun r8 f8 u8 =>
  hFa 0 (demK r8) f8 u8 (fun r9 f9 u9 =>
  hStS B 1 (demK r9) (demK r6) f9 u9 (fun r10 f10 u10 =>
  headK (look' 2 e) (fun v2 => headK (look' 3 e) (fun v3 => headK (look' 6 e) (fun v6 => headK (look' 7 e) (fun v7 => headK (look' 8 e) (fun v8 => headK (look' 9 e) (fun v9 => k .normal [(2, v2), (3, v3), (6, v6), (7, v7), (8, v8), (9, v9)] f10 u10)))))))))))))

noncomputable def q21_20 (B : Sy) (C : Go.ScE.Callee) : Env → Fram → List Fram → KX → R0 := fun e fr up k =>
  hGen C (.nck) [(demK (demK (look' 7 e)))] fr up (fun r2 f2 u2 =>
  hFa 39 (demK r2) f2 u2 (fun r3 f3 u3 =>
  hLdS B false 1 false (demK r3) f3 u3 (fun r4 f4 u4 =>
  hGen C (.cbs) [(demK r4)] f4 u4 (fun r5 f5 u5 =>
  hGen C (.nck) [(demK (demK (look' 7 e)))] f5 u5 (fun r6 f6 u6 =>
  hFa 0 (demK r6) f6 u6 (fun r7 f7 u7 =>
  hFa 2 (demK r7) f7 u7 (fun r8 f8 u8 =>
  hStS B 1 (demK r8) (demK r5) f8 u8 (fun r9 f9 u9 =>
  headK (look' 6 e) (fun v6 => headK (look' 7 e) (fun v7 => k .normal [(6, v6), (7, v7)] f9 u9))))))))))

noncomputable def q21_21 (B : Sy) (C : Go.ScE.Callee) : Env → Fram → List Fram → KX → R0 := fun e fr up k =>
  hGen C (.nck) [(demK (demK (look' 7 e)))] fr up (fun r1 f1 u1 =>
  hFa 0 (demK r1) f1 u1 (fun r2 f2 u2 =>
  hLdS B true 38 false (demK r2) f2 u2 (fun r3 f3 u3 =>
  hStS B 38 (demK (look' 6 e)) r3 f3 u3 (fun r4 f4 u4 =>
  headK (look' 6 e) (fun v6 => k .normal [(6, v6)] f4 u4)))))

noncomputable def s21 : KS := fun B C n => seqK (q21_0 B C) (seqK (seqK (q21_1 B C) (condK (.t 38) (seqK (q21_2 B C) (retK)) (skipK))) (seqK (q21_3 B C) (seqK (q21_4 B C) (seqK (q21_5 B C) (seqK (q21_6 B C) (seqK (q21_7 B C) (seqK (q21_8 B C) (seqK (blockK 0 (loopsK [2, 3, 6, 7, 8, 9] [0, 1, 2, 3, 4, 5] (seqK (seqK (q21_9 B C) (condK (.t 84) (skipK) (exitK 0))) (blockK 1 (seqK (q21_10 B C) (seqK (seqK (q21_11 B C) (condK (.t 98) (seqK (q21_12 B C) (exitK 0)) (skipK))) (seqK (seqK (q21_13 B C) (condK (.t 107) (seqK (q21_14 B C) (seqK (seqK (q21_15 B C) (condK (.t 118) (seqK (q21_16 B C) (exitK 0)) (skipK))) (seqK (q21_17 B C) (q21_18 B C)))) (skipK))) (q21_19 B C)))))) n)) (seqK (q21_20 B C) (seqK (q21_21 B C) (retK)))))))))))
theorem s21_eq (B : Sy) (C : Go.ScE.Callee) (n : Nat) : s21 B C n = evS B C n x21.body := by kernel_rfl

noncomputable def q22_0 (B : Sy) (C : Go.ScE.Callee) : Env → Fram → List Fram → KX → R0 := fun e fr up k =>
  hCall C 27 [(demK (demK (look' 0 e))), (.c (.p (pI 9)))] fr up (fun r1 f1 u1 =>
  headK (look' 0 e) (fun v0 => k .normal [(0, v0)] f1 u1))

noncomputable def q22_1 (B : Sy) (C : Go.ScE.Callee) : Env → Fram → List Fram → KX → R0 := fun e fr up k =>
  hCall C 31 [(demK (demK (look' 0 e))), (.c (.p (pI 29))), (.c (.p (pI 0))), (.c (.p (pI 28)))] fr up (fun r1 f1 u1 =>
  headK (look' 0 e) (fun v0 => k .normal [(0, v0)] f1 u1))

noncomputable def q22_2 (B : Sy) (C : Go.ScE.Callee) : Env → Fram → List Fram → KX → R0 := fun e fr up k =>
  hCall C 47 [(demK (demK (look' 0 e))), (.c (.p (pI 27))), (.c (.p (pI 5))), (.c (.p (pI 15)))] fr up (fun r1 f1 u1 =>
  headK (look' 0 e) (fun v0 => k .normal [(0, v0)] f1 u1))

noncomputable def q22_3 (B : Sy) (C : Go.ScE.Callee) : Env → Fram → List Fram → KX → R0 := fun e fr up k =>
  hCall C 30 [(demK (demK (look' 0 e))), (.c (.p (pI 27))), (.c (.p (pI 0))), (.c (.p (pI 32)))] fr up (fun r1 f1 u1 =>
  headK (look' 0 e) (fun v0 => k .normal [(0, v0)] f1 u1))

noncomputable def q22_4 (B : Sy) (C : Go.ScE.Callee) : Env → Fram → List Fram → KX → R0 := fun e fr up k =>
  hCall C 33 [(demK (demK (look' 0 e))), (.c (.p (pI 30))), (.c (.p (pI 33)))] fr up (fun r1 f1 u1 =>
  headK (look' 0 e) (fun v0 => k .normal [(0, v0)] f1 u1))

noncomputable def q22_5 (B : Sy) (C : Go.ScE.Callee) : Env → Fram → List Fram → KX → R0 := fun e fr up k =>
  hCall C 33 [(demK (demK (look' 0 e))), (.c (.p (pI 27))), (.c (.p (pI 18)))] fr up (fun r1 f1 u1 =>
  headK (look' 0 e) (fun v0 => k .normal [(0, v0)] f1 u1))

noncomputable def q22_6 (B : Sy) (C : Go.ScE.Callee) : Env → Fram → List Fram → KX → R0 := fun e fr up k =>
  hCall C 30 [(demK (demK (look' 0 e))), (.c (.p (pI 27))), (.c (.p (pI 0))), (.c (.p (pI 25)))] fr up (fun r1 f1 u1 =>
  headK (look' 0 e) (fun v0 => k .normal [(0, v0)] f1 u1))

noncomputable def q22_7 (B : Sy) (C : Go.ScE.Callee) : Env → Fram → List Fram → KX → R0 := fun e fr up k =>
  hCall C 30 [(demK (demK (look' 0 e))), (.c (.p (pI 27))), (.c (.p (pI 0))), (.c (.p (pI 26)))] fr up (fun r1 f1 u1 =>
  headK (look' 0 e) (fun v0 => k .normal [(0, v0)] f1 u1))

noncomputable def q22_8 (B : Sy) (C : Go.ScE.Callee) : Env → Fram → List Fram → KX → R0 := fun e fr up k =>
  hCall C 48 [(demK (demK (look' 0 e))), (.c (.p (pI 2)))] fr up (fun r1 f1 u1 =>
  headK (look' 0 e) (fun v0 => k .normal [(0, v0)] f1 u1))

noncomputable def q22_9 (B : Sy) (C : Go.ScE.Callee) : Env → Fram → List Fram → KX → R0 := fun e fr up k =>
  hCall C 49 [(.c (.p (pI 5))), (.c (.p (pI 1)))] fr up (fun r1 f1 u1 =>
  hCall C 33 [(demK (demK (look' 0 e))), (.c (.p (pI 27))), (demK r1)] f1 u1 (fun r2 f2 u2 =>
  headK (look' 0 e) (fun v0 => k .normal [(0, v0)] f2 u2)))

noncomputable def q22_10 (B : Sy) (C : Go.ScE.Callee) : Env → Fram → List Fram → KX → R0 := fun e fr up k =>
  hCall C 30 [(demK (demK (look' 0 e))), (.c (.p (pI 27))), (.c (.p (pI 29))), (.c (.p (pI 0)))] fr up (fun r1 f1 u1 =>
  headK (look' 0 e) (fun v0 => k .normal [(0, v0)] f1 u1))

noncomputable def q22_11 (B : Sy) (C : Go.ScE.Callee) : Env → Fram → List Fram → KX → R0 := fun e fr up k =>
  hCall C 47 [(demK (demK (look' 0 e))), (.c (.p (pI 27))), (.c (.p (pI 10))), (.c (.p (pI 3)))] fr up (fun r1 f1 u1 =>
  headK (look' 0 e) (fun v0 => k .normal [(0, v0)] f1 u1))

noncomputable def q22_12 (B : Sy) (C : Go.ScE.Callee) : Env → Fram → List Fram → KX → R0 := fun e fr up k =>
  hCall C 30 [(demK (demK (look' 0 e))), (.c (.p (pI 27))), (.c (.p (pI 29))), (.c (.p (pI 1)))] fr up (fun r1 f1 u1 =>
  headK (look' 0 e) (fun v0 => k .normal [(0, v0)] f1 u1))

noncomputable def q22_13 (B : Sy) (C : Go.ScE.Callee) : Env → Fram → List Fram → KX → R0 := fun e fr up k =>
  hCall C 50 [(demK (demK (look' 0 e))), (.c (.p (pI 25))), (.c (.p (pI 2)))] fr up (fun r1 f1 u1 =>
  headK (look' 0 e) (fun v0 => k .normal [(0, v0)] f1 u1))

noncomputable def q22_14 (B : Sy) (C : Go.ScE.Callee) : Env → Fram → List Fram → KX → R0 := fun e fr up k =>
  hCall C 33 [(demK (demK (look' 0 e))), (.c (.p (pI 28))), (.c (.p (pI 0)))] fr up (fun r1 f1 u1 =>
  headK (look' 0 e) (fun v0 => k .normal [(0, v0)] f1 u1))

noncomputable def q22_15 (B : Sy) (C : Go.ScE.Callee) : Env → Fram → List Fram → KX → R0 := fun e fr up k =>
  hCall C 36 [(demK (demK (look' 0 e))), (.c (.p (pI 10)))] fr up (fun r1 f1 u1 =>
  k .normal [] f1 u1)

noncomputable def s22 : KS := fun B C n => seqK (q22_0 B C) (seqK (q22_1 B C) (seqK (q22_2 B C) (seqK (q22_3 B C) (seqK (q22_4 B C) (seqK (q22_5 B C) (seqK (q22_6 B C) (seqK (q22_7 B C) (seqK (q22_8 B C) (seqK (q22_9 B C) (seqK (q22_10 B C) (seqK (q22_11 B C) (seqK (q22_12 B C) (seqK (q22_13 B C) (seqK (q22_14 B C) (q22_15 B C)))))))))))))))
theorem s22_eq (B : Sy) (C : Go.ScE.Callee) (n : Nat) : s22 B C n = evS B C n x22.body := by kernel_rfl

noncomputable def q23_0 (B : Sy) (C : Go.ScE.Callee) : Env → Fram → List Fram → KX → R0 := fun e fr up k =>
  hCall C 27 [(demK (demK (look' 0 e))), (.c (.p (pI 2)))] fr up (fun r1 f1 u1 =>
  headK (look' 0 e) (fun v0 => k .normal [(0, v0)] f1 u1))

noncomputable def q23_1 (B : Sy) (C : Go.ScE.Callee) : Env → Fram → List Fram → KX → R0 := fun e fr up k =>
  hCall C 38 [(demK (demK (look' 0 e))), (.c (.p (pI 1))), (.c (.p (pI 27))), (.c (.p (pI 29))), (.c (.p (pI 26)))] fr up (fun r1 f1 u1 =>
  headK (look' 0 e) (fun v0 => k .normal [(0, v0)] f1 u1))

noncomputable def q23_2 (B : Sy) (C : Go.ScE.Callee) : Env → Fram → List Fram → KX → R0 := fun e fr up k =>
  hCall C 31 [(demK (demK (look' 0 e))), (.c (.p (pI 28))), (.c (.p (pI 0))), (.c (.p (pI 29)))] fr up (fun r1 f1 u1 =>
  headK (look' 0 e) (fun v0 => k .normal [(0, v0)] f1 u1))

noncomputable def q23_3 (B : Sy) (C : Go.ScE.Callee) : Env → Fram → List Fram → KX → R0 := fun e fr up k =>
  hCall C 35 [(demK (demK (look' 0 e))), (.c (.p (pI 26))), (.c (.p (pI 28))), (.c (.p (pI 27))), (.c (.p (pI 1)))] fr up (fun r1 f1 u1 =>
  headK (look' 0 e) (fun v0 => k .normal [(0, v0)] f1 u1))

noncomputable def q23_4 (B : Sy) (C : Go.ScE.Callee) : Env → Fram → List Fram → KX → R0 := fun e fr up k =>
  hCall C 39 [(demK (demK (look' 0 e))), (.c (.p (pI 31)))] fr up (fun r1 f1 u1 =>
  headK (look' 0 e) (fun v0 => k .normal [(0, v0)] f1 u1))

noncomputable def q23_5 (B : Sy) (C : Go.ScE.Callee) : Env → Fram → List Fram → KX → R0 := fun e fr up k =>
  hCall C 27 [(demK (demK (look' 0 e))), (.c (.p (pI 3)))] fr up (fun r1 f1 u1 =>
  headK (look' 0 e) (fun v0 => k .normal [(0, v0)] f1 u1))

noncomputable def q23_6 (B : Sy) (C : Go.ScE.Callee) : Env → Fram → List Fram → KX → R0 := fun e fr up k =>
  hCall C 51 [(demK (demK (look' 0 e))), (.c (.p (pI 16))), (.c (.p (pI 26))), (.c (.p (pI 25))), (.c (.p (pI 7)))] fr up (fun r1 f1 u1 =>
  headK (look' 0 e) (fun v0 => k .normal [(0, v0)] f1 u1))

noncomputable def q23_7 (B : Sy) (C : Go.ScE.Callee) : Env → Fram → List Fram → KX → R0 := fun e fr up k =>
  hCall C 33 [(demK (demK (look' 0 e))), (.c (.p (pI 27))), (.c (.p (pI 1)))] fr up (fun r1 f1 u1 =>
  headK (look' 0 e) (fun v0 => k .normal [(0, v0)] f1 u1))

noncomputable def q23_8 (B : Sy) (C : Go.ScE.Callee) : Env → Fram → List Fram → KX → R0 := fun e fr up k =>
  hCall C 28 [(.c (.p (pI 90)))] fr up (fun r1 f1 u1 =>
  hCall C 35 [(demK (demK (look' 0 e))), (.c (.p (pI 25))), (.c (.p (pI 26))), (.c (.p (pI 27))), (demK r1)] f1 u1 (fun r2 f2 u2 =>
  headK (look' 0 e) (fun v0 => k .normal [(0, v0)] f2 u2)))

noncomputable def q23_9 (B : Sy) (C : Go.ScE.Callee) : Env → Fram → List Fram → KX → R0 := fun e fr up k =>
  hCall C 51 [(demK (demK (look' 0 e))), (.c (.p (pI 19))), (.c (.p (pI 26))), (.c (.p (pI 25))), (.c (.p (pI 3)))] fr up (fun r1 f1 u1 =>
  headK (look' 0 e) (fun v0 => k .normal [(0, v0)] f1 u1))

noncomputable def q23_10 (B : Sy) (C : Go.ScE.Callee) : Env → Fram → List Fram → KX → R0 := fun e fr up k =>
  hCall C 31 [(demK (demK (look' 0 e))), (.c (.p (pI 27))), (.c (.p (pI 26))), (.c (.p (pI 0)))] fr up (fun r1 f1 u1 =>
  headK (look' 0 e) (fun v0 => k .normal [(0, v0)] f1 u1))

noncomputable def q23_11 (B : Sy) (C : Go.ScE.Callee) : Env → Fram → List Fram → KX → R0 := fun e fr up k =>
  hCall C 51 [(demK (demK (look' 0 e))), (.c (.p (pI 19))), (.c (.p (pI 27))), (.c (.p (pI 27))), (.c (.p (pI 3)))] fr up (fun r1 f1 u1 =>
  headK (look' 0 e) (fun v0 => k .normal [(0, v0)] f1 u1))

noncomputable def q23_12 (B : Sy) (C : Go.ScE.Callee) : Env → Fram → List Fram → KX → R0 := fun e fr up k =>
  hCall C 51 [(demK (demK (look' 0 e))), (.c (.p (pI 16))), (.c (.p (pI 27))), (.c (.p (pI 27))), (.c (.p (pI 7)))] fr up (fun r1 f1 u1 =>
  headK (look' 0 e) (fun v0 => k .normal [(0, v0)] f1 u1))

noncomputable def q23_13 (B : Sy) (C : Go.ScE.Callee) : Env → Fram → List Fram → KX → R0 := fun e fr up k =>
  hCall C 33 [(demK (demK (look' 0 e))), (.c (.p (pI 31))), (.c (.p (pI 5)))] fr up (fun r1 f1 u1 =>
  headK (look' 0 e) (fun v0 => k .normal [(0, v0)] f1 u1))

noncomputable def q23_14 (B : Sy) (C : Go.ScE.Callee) : Env → Fram → List Fram → KX → R0 := fun e fr up k =>
  hCall C 35 [(demK (demK (look' 0 e))), (.c (.p (pI 24))), (.c (.p (pI 27))), (.c (.p (pI 31))), (.c (.p (pI 2009)))] fr up (fun r1 f1 u1 =>
  headK (look' 0 e) (fun v0 => k .normal [(0, v0)] f1 u1))

noncomputable def q23_15 (B : Sy) (C : Go.ScE.Callee) : Env → Fram → List Fram → KX → R0 := fun e fr up k =>
  hCall C 33 [(demK (demK (look' 0 e))), (.c (.p (pI 31))), (.c (.p (pI 7)))] fr up (fun r1 f1 u1 =>
  headK (look' 0 e) (fun v0 => k .normal [(0, v0)] f1 u1))

noncomputable def q23_16 (B : Sy) (C : Go.ScE.Callee) : Env → Fram → List Fram → KX → R0 := fun e fr up k =>
  hCall C 28 [(.c (.p (pI 90)))] fr up (fun r1 f1 u1 =>
  hCall C 35 [(demK (demK (look' 0 e))), (.c (.p (pI 25))), (.c (.p (pI 27))), (.c (.p (pI 31))), (demK r1)] f1 u1 (fun r2 f2 u2 =>
  headK (look' 0 e) (fun v0 => k .normal [(0, v0)] f2 u2)))

noncomputable def q23_17 (B : Sy) (C : Go.ScE.Callee) : Env → Fram → List Fram → KX → R0 := fun e fr up k =>
  hCall C 27 [(demK (demK (look' 0 e))), (.c (.p (pI 2009)))] fr up (fun r1 f1 u1 =>
  headK (look' 0 e) (fun v0 => k .normal [(0, v0)] f1 u1))

noncomputable def q23_18 (B : Sy) (C : Go.ScE.Callee) : Env → Fram → List Fram → KX → R0 := fun e fr up k =>
  hCall C 31 [(demK (demK (look' 0 e))), (.c (.p (pI 26))), (.c (.p (pI 26))), (.c (.p (pI 1)))] fr up (fun r1 f1 u1 =>
  headK (look' 0 e) (fun v0 => k .normal [(0, v0)] f1 u1))

noncomputable def q23_19 (B : Sy) (C : Go.ScE.Callee) : Env → Fram → List Fram → KX → R0 := fun e fr up k =>
  hCall C 51 [(demK (demK (look' 0 e))), (.c (.p (pI 19))), (.c (.p (pI 26))), (.c (.p (pI 26))), (.c (.p (pI 3)))] fr up (fun r1 f1 u1 =>
  headK (look' 0 e) (fun v0 => k .normal [(0, v0)] f1 u1))

noncomputable def q23_20 (B : Sy) (C : Go.ScE.Callee) : Env → Fram → List Fram → KX → R0 := fun e fr up k =>
  hCall C 39 [(demK (demK (look' 0 e))), (.c (.p (pI 26)))] fr up (fun r1 f1 u1 =>
  headK (look' 0 e) (fun v0 => k .normal [(0, v0)] f1 u1))

noncomputable def q23_21 (B : Sy) (C : Go.ScE.Callee) : Env → Fram → List Fram → KX → R0 := fun e fr up k =>
  hCall C 27 [(demK (demK (look' 0 e))), (.c (.p (pI 4)))] fr up (fun r1 f1 u1 =>
  headK (look' 0 e) (fun v0 => k .normal [(0, v0)] f1 u1))

noncomputable def q23_22 (B : Sy) (C : Go.ScE.Callee) : Env → Fram → List Fram → KX → R0 := fun e fr up k =>
  hCall C 31 [(demK (demK (look' 0 e))), (.c (.p (pI 26))), (.c (.p (pI 30))), (.c (.p (pI (-1))))] fr up (fun r1 f1 u1 =>
  headK (look' 0 e) (fun v0 => k .normal [(0, v0)] f1 u1))

noncomputable def q23_23 (B : Sy) (C : Go.ScE.Callee) : Env → Fram → List Fram → KX → R0 := fun e fr up k =>
  hCall C 51 [(demK (demK (look' 0 e))), (.c (.p (pI 19))), (.c (.p (pI 26))), (.c (.p (pI 26))), (.c (.p (pI 15)))] fr up (fun r1 f1 u1 =>
  headK (look' 0 e) (fun v0 => k .normal [(0, v0)] f1 u1))

noncomputable def q23_24 (B : Sy) (C : Go.ScE.Callee) : Env → Fram → List Fram → KX → R0 := fun e fr up k =>
  hCall C 39 [(demK (demK (look' 0 e))), (.c (.p (pI 26)))] fr up (fun r1 f1 u1 =>
  k .normal [] f1 u1)

noncomputable def s23 : KS := fun B C n => seqK (q23_0 B C) (seqK (q23_1 B C) (seqK (q23_2 B C) (seqK (q23_3 B C) (seqK (q23_4 B C) (seqK (q23_5 B C) (seqK (q23_6 B C) (seqK (q23_7 B C) (seqK (q23_8 B C) (seqK (q23_9 B C) (seqK (q23_10 B C) (seqK (q23_11 B C) (seqK (q23_12 B C) (seqK (q23_13 B C) (seqK (q23_14 B C) (seqK (q23_15 B C) (seqK (q23_16 B C) (seqK (q23_17 B C) (seqK (q23_18 B C) (seqK (q23_19 B C) (seqK (q23_20 B C) (seqK (q23_21 B C) (seqK (q23_22 B C) (seqK (q23_23 B C) (q23_24 B C))))))))))))))))))))))))
theorem s23_eq (B : Sy) (C : Go.ScE.Callee) (n : Nat) : s23 B C n = evS B C n x23.body := by kernel_rfl

noncomputable def q24_0 (B : Sy) (C : Go.ScE.Callee) : Env → Fram → List Fram → KX → R0 := fun e fr up k =>
  hCall C 27 [(demK (demK (look' 0 e))), (.c (.p (pI 6)))] fr up (fun r1 f1 u1 =>
  headK (look' 0 e) (fun v0 => k .normal [(0, v0)] f1 u1))

noncomputable def q24_1 (B : Sy) (C : Go.ScE.Callee) : Env → Fram → List Fram → KX → R0 := fun e fr up k =>
  hCall C 33 [(demK (demK (look' 0 e))), (.c (.p (pI 26))), (.c (.p (pI 33)))] fr up (fun r1 f1 u1 =>
  headK (look' 0 e) (fun v0 => k .normal [(0, v0)] f1 u1))

noncomputable def q24_2 (B : Sy) (C : Go.ScE.Callee) : Env → Fram → List Fram → KX → R0 := fun e fr up k =>
  hCall C 35 [(demK (demK (look' 0 e))), (.c (.p (pI 25))), (.c (.p (pI 26))), (.c (.p (pI 30))), (.c (.p (pI 2000)))] fr up (fun r1 f1 u1 =>
  headK (look' 0 e) (fun v0 => k .normal [(0, v0)] f1 u1))

noncomputable def q24_3 (B : Sy) (C : Go.ScE.Callee) : Env → Fram → List Fram → KX → R0 := fun e fr up k =>
  hCall C 39 [(demK (demK (look' 0 e))), (.c (.p (pI 31)))] fr up (fun r1 f1 u1 =>
  headK (look' 0 e) (fun v0 => k .normal [(0, v0)] f1 u1))

noncomputable def q24_4 (B : Sy) (C : Go.ScE.Callee) : Env → Fram → List Fram → KX → R0 := fun e fr up k =>
  hCall C 27 [(demK (demK (look' 0 e))), (.c (.p (pI 2000)))] fr up (fun r1 f1 u1 =>
  headK (look' 0 e) (fun v0 => k .normal [(0, v0)] f1 u1))

noncomputable def q24_5 (B : Sy) (C : Go.ScE.Callee) : Env → Fram → List Fram → KX → R0 := fun e fr up k =>
  hCall C 30 [(demK (demK (look' 0 e))), (.c (.p (pI 31))), (.c (.p (pI 0))), (.c (.p (pI 27)))] fr up (fun r1 f1 u1 =>
  headK (look' 0 e) (fun v0 => k .normal [(0, v0)] f1 u1))

noncomputable def q24_6 (B : Sy) (C : Go.ScE.Callee) : Env → Fram → List Fram → KX → R0 := fun e fr up k =>
  hCall C 51 [(demK (demK (look' 0 e))), (.c (.p (pI 15))), (.c (.p (pI 26))), (.c (.p (pI 30))), (.c (.p (pI (-33))))] fr up (fun r1 f1 u1 =>
  headK (look' 0 e) (fun v0 => k .normal [(0, v0)] f1 u1))

noncomputable def q24_7 (B : Sy) (C : Go.ScE.Callee) : Env → Fram → List Fram → KX → R0 := fun e fr up k =>
  hCall C 51 [(demK (demK (look' 0 e))), (.c (.p (pI 18))), (.c (.p (pI 27))), (.c (.p (pI 26))), (.c (.p (pI 1)))] fr up (fun r1 f1 u1 =>
  headK (look' 0 e) (fun v0 => k .normal [(0, v0)] f1 u1))

noncomputable def q24_8 (B : Sy) (C : Go.ScE.Callee) : Env → Fram → List Fram → KX → R0 := fun e fr up k =>
  hCall C 38 [(demK (demK (look' 0 e))), (.c (.p (pI 1))), (.c (.p (pI 26))), (.c (.p (pI 26))), (.c (.p (pI 27)))] fr up (fun r1 f1 u1 =>
  headK (look' 0 e) (fun v0 => k .normal [(0, v0)] f1 u1))

noncomputable def q24_9 (B : Sy) (C : Go.ScE.Callee) : Env → Fram → List Fram → KX → R0 := fun e fr up k =>
  hCall C 34 [(demK (demK (look' 0 e))), (.c (.p (pI 31))), (.c (.p (pI 2)))] fr up (fun r1 f1 u1 =>
  headK (look' 0 e) (fun v0 => k .normal [(0, v0)] f1 u1))

noncomputable def q24_10 (B : Sy) (C : Go.ScE.Callee) : Env → Fram → List Fram → KX → R0 := fun e fr up k =>
  hCall C 31 [(demK (demK (look' 0 e))), (.c (.p (pI 31))), (.c (.p (pI 0))), (.c (.p (pI 25)))] fr up (fun r1 f1 u1 =>
  headK (look' 0 e) (fun v0 => k .normal [(0, v0)] f1 u1))

noncomputable def q24_11 (B : Sy) (C : Go.ScE.Callee) : Env → Fram → List Fram → KX → R0 := fun e fr up k =>
  hCall C 51 [(demK (demK (look' 0 e))), (.c (.p (pI 18))), (.c (.p (pI 27))), (.c (.p (pI 29))), (.c (.p (pI 3)))] fr up (fun r1 f1 u1 =>
  headK (look' 0 e) (fun v0 => k .normal [(0, v0)] f1 u1))

noncomputable def q24_12 (B : Sy) (C : Go.ScE.Callee) : Env → Fram → List Fram → KX → R0 := fun e fr up k =>
  hCall C 51 [(demK (demK (look' 0 e))), (.c (.p (pI 17))), (.c (.p (pI 27))), (.c (.p (pI 27))), (.c (.p (pI 1)))] fr up (fun r1 f1 u1 =>
  headK (look' 0 e) (fun v0 => k .normal [(0, v0)] f1 u1))

noncomputable def q24_13 (B : Sy) (C : Go.ScE.Callee) : Env → Fram → List Fram → KX → R0 := fun e fr up k =>
  hCall C 30 [(demK (demK (look' 0 e))), (.c (.p (pI 27))), (.c (.p (pI 0))), (.c (.p (pI 25)))] fr up (fun r1 f1 u1 =>
  headK (look' 0 e) (fun v0 => k .normal [(0, v0)] f1 u1))

noncomputable def q24_14 (B : Sy) (C : Go.ScE.Callee) : Env → Fram → List Fram → KX → R0 := fun e fr up k =>
  hCall C 27 [(demK (demK (look' 0 e))), (.c (.p (pI 2001)))] fr up (fun r1 f1 u1 =>
  headK (look' 0 e) (fun v0 => k .normal [(0, v0)] f1 u1))

noncomputable def q24_15 (B : Sy) (C : Go.ScE.Callee) : Env → Fram → List Fram → KX → R0 := fun e fr up k =>
  hCall C 52 [(demK (demK (look' 0 e)))] fr up (fun r1 f1 u1 =>
  headK (look' 0 e) (fun v0 => k .normal [(0, v0)] f1 u1))

noncomputable def q24_16 (B : Sy) (C : Go.ScE.Callee) : Env → Fram → List Fram → KX → R0 := fun e fr up k =>
  hCall C 33 [(demK (demK (look' 0 e))), (.c (.p (pI 27))), (.c (.p (pI 33)))] fr up (fun r1 f1 u1 =>
  headK (look' 0 e) (fun v0 => k .normal [(0, v0)] f1 u1))

noncomputable def q24_17 (B : Sy) (C : Go.ScE.Callee) : Env → Fram → List Fram → KX → R0 := fun e fr up k =>
  hCall C 35 [(demK (demK (look' 0 e))), (.c (.p (pI 25))), (.c (.p (pI 30))), (.c (.p (pI 27))), (.c (.p (pI 2001)))] fr up (fun r1 f1 u1 =>
  headK (look' 0 e) (fun v0 => k .normal [(0, v0)] f1 u1))

noncomputable def q24_18 (B : Sy) (C : Go.ScE.Callee) : Env → Fram → List Fram → KX → R0 := fun e fr up k =>
  hCall C 31 [(demK (demK (look' 0 e))), (.c (.p (pI 31))), (.c (.p (pI 0))), (.c (.p (pI 27)))] fr up (fun r1 f1 u1 =>
  headK (look' 0 e) (fun v0 => k .normal [(0, v0)] f1 u1))

noncomputable def q24_19 (B : Sy) (C : Go.ScE.Callee) : Env → Fram → List Fram → KX → R0 := fun e fr up k =>
  hCall C 39 [(demK (demK (look' 0 e))), (.c (.p (pI 31)))] fr up (fun r1 f1 u1 =>
  k .normal [] f1 u1)

noncomputable def s24 : KS := fun B C n => seqK (q24_0 B C) (seqK (q24_1 B C) (seqK (q24_2 B C) (seqK (q24_3 B C) (seqK (q24_4 B C) (seqK (q24_5 B C) (seqK (q24_6 B C) (seqK (q24_7 B C) (seqK (q24_8 B C) (seqK (q24_9 B C) (seqK (q24_10 B C) (seqK (q24_11 B C) (seqK (q24_12 B C) (seqK (q24_13 B C) (seqK (q24_14 B C) (seqK (q24_15 B C) (seqK (q24_16 B C) (seqK (q24_17 B C) (seqK (q24_18 B C) (q24_19 B C)))))))))))))))))))
theorem s24_eq (B : Sy) (C : Go.ScE.Callee) (n : Nat) : s24 B C n = evS B C n x24.body := by kernel_rfl

noncomputable def q25_0 (B : Sy) (C : Go.ScE.Callee) : Env → Fram → List Fram → KX → R0 := fun e fr up k =>
  hCall C 27 [(demK (demK (look' 0 e))), (.c (.p (pI 5)))] fr up (fun r1 f1 u1 =>
  headK (look' 0 e) (fun v0 => k .normal [(0, v0)] f1 u1))

noncomputable def q25_1 (B : Sy) (C : Go.ScE.Callee) : Env → Fram → List Fram → KX → R0 := fun e fr up k =>
  hCall C 31 [(demK (demK (look' 0 e))), (.c (.p (pI 26))), (.c (.p (pI 0))), (.c (.p (pI 25)))] fr up (fun r1 f1 u1 =>
  headK (look' 0 e) (fun v0 => k .normal [(0, v0)] f1 u1))

noncomputable def q25_2 (B : Sy) (C : Go.ScE.Callee) : Env → Fram → List Fram → KX → R0 := fun e fr up k =>
  hCall C 33 [(demK (demK (look' 0 e))), (.c (.p (pI 27))), (.c (.p (pI 18)))] fr up (fun r1 f1 u1 =>
  headK (look' 0 e) (fun v0 => k .normal [(0, v0)] f1 u1))

noncomputable def q25_3 (B : Sy) (C : Go.ScE.Callee) : Env → Fram → List Fram → KX → R0 := fun e fr up k =>
  hCall C 35 [(demK (demK (look' 0 e))), (.c (.p (pI 25))), (.c (.p (pI 26))), (.c (.p (pI 27))), (.c (.p (pI 2007)))] fr up (fun r1 f1 u1 =>
  headK (look' 0 e) (fun v0 => k .normal [(0, v0)] f1 u1))

noncomputable def q25_4 (B : Sy) (C : Go.ScE.Callee) : Env → Fram → List Fram → KX → R0 := fun e fr up k =>
  hCall C 51 [(demK (demK (look' 0 e))), (.c (.p (pI 0))), (.c (.p (pI 0))), (.c (.p (pI 0))), (.c (.p (pI 0)))] fr up (fun r1 f1 u1 =>
  headK (look' 0 e) (fun v0 => k .normal [(0, v0)] f1 u1))

noncomputable def q25_5 (B : Sy) (C : Go.ScE.Callee) : Env → Fram → List Fram → KX → R0 := fun e fr up k =>
  hCall C 27 [(demK (demK (look' 0 e))), (.c (.p (pI 2007)))] fr up (fun r1 f1 u1 =>
  headK (look' 0 e) (fun v0 => k .normal [(0, v0)] f1 u1))

noncomputable def q25_6 (B : Sy) (C : Go.ScE.Callee) : Env → Fram → List Fram → KX → R0 := fun e fr up k =>
  hCall C 51 [(demK (demK (look' 0 e))), (.c (.p (pI 19))), (.c (.p (pI 26))), (.c (.p (pI 26))), (.c (.p (pI 3)))] fr up (fun r1 f1 u1 =>
  headK (look' 0 e) (fun v0 => k .normal [(0, v0)] f1 u1))

noncomputable def q25_7 (B : Sy) (C : Go.ScE.Callee) : Env → Fram → List Fram → KX → R0 := fun e fr up k =>
  hCall C 31 [(demK (demK (look' 0 e))), (.c (.p (pI 27))), (.c (.p (pI 26))), (.c (.p (pI 1)))] fr up (fun r1 f1 u1 =>
  headK (look' 0 e) (fun v0 => k .normal [(0, v0)] f1 u1))

noncomputable def q25_8 (B : Sy) (C : Go.ScE.Callee) : Env → Fram → List Fram → KX → R0 := fun e fr up k =>
  hCall C 30 [(demK (demK (look' 0 e))), (.c (.p (pI 27))), (.c (.p (pI 0))), (.c (.p (pI 25)))] fr up (fun r1 f1 u1 =>
  headK (look' 0 e) (fun v0 => k .normal [(0, v0)] f1 u1))

noncomputable def q25_9 (B : Sy) (C : Go.ScE.Callee) : Env → Fram → List Fram → KX → R0 := fun e fr up k =>
  hCall C 31 [(demK (demK (look' 0 e))), (.c (.p (pI 27))), (.c (.p (pI 26))), (.c (.p (pI 0)))] fr up (fun r1 f1 u1 =>
  headK (look' 0 e) (fun v0 => k .normal [(0, v0)] f1 u1))

noncomputable def q25_10 (B : Sy) (C : Go.ScE.Callee) : Env → Fram → List Fram → KX → R0 := fun e fr up k =>
  hCall C 51 [(demK (demK (look' 0 e))), (.c (.p (pI 19))), (.c (.p (pI 27))), (.c (.p (pI 27))), (.c (.p (pI 6)))] fr up (fun r1 f1 u1 =>
  headK (look' 0 e) (fun v0 => k .normal [(0, v0)] f1 u1))

noncomputable def q25_11 (B : Sy) (C : Go.ScE.Callee) : Env → Fram → List Fram → KX → R0 := fun e fr up k =>
  hCall C 38 [(demK (demK (look' 0 e))), (.c (.p (pI 1))), (.c (.p (pI 27))), (.c (.p (pI 27))), (.c (.p (pI 26)))] fr up (fun r1 f1 u1 =>
  headK (look' 0 e) (fun v0 => k .normal [(0, v0)] f1 u1))

noncomputable def q25_12 (B : Sy) (C : Go.ScE.Callee) : Env → Fram → List Fram → KX → R0 := fun e fr up k =>
  hCall C 51 [(demK (demK (look' 0 e))), (.c (.p (pI 15))), (.c (.p (pI 26))), (.c (.p (pI 26))), (.c (.p (pI 2)))] fr up (fun r1 f1 u1 =>
  headK (look' 0 e) (fun v0 => k .normal [(0, v0)] f1 u1))

noncomputable def q25_13 (B : Sy) (C : Go.ScE.Callee) : Env → Fram → List Fram → KX → R0 := fun e fr up k =>
  hCall C 33 [(demK (demK (look' 0 e))), (.c (.p (pI 30))), (.c (.p (pI 33)))] fr up (fun r1 f1 u1 =>
  headK (look' 0 e) (fun v0 => k .normal [(0, v0)] f1 u1))

noncomputable def q25_14 (B : Sy) (C : Go.ScE.Callee) : Env → Fram → List Fram → KX → R0 := fun e fr up k =>
  hCall C 27 [(demK (demK (look' 0 e))), (.c (.p (pI 2004)))] fr up (fun r1 f1 u1 =>
  headK (look' 0 e) (fun v0 => k .normal [(0, v0)] f1 u1))

noncomputable def q25_15 (B : Sy) (C : Go.ScE.Callee) : Env → Fram → List Fram → KX → R0 := fun e fr up k =>
  hCall C 35 [(demK (demK (look' 0 e))), (.c (.p (pI 26))), (.c (.p (pI 27))), (.c (.p (pI 26))), (.c (.p (pI 2008)))] fr up (fun r1 f1 u1 =>
  headK (look' 0 e) (fun v0 => k .normal [(0, v0)] f1 u1))

noncomputable def q25_16 (B : Sy) (C : Go.ScE.Callee) : Env → Fram → List Fram → KX → R0 := fun e fr up k =>
  hCall C 31 [(demK (demK (look' 0 e))), (.c (.p (pI 28))), (.c (.p (pI 26))), (.c (.p (pI 0)))] fr up (fun r1 f1 u1 =>
  headK (look' 0 e) (fun v0 => k .normal [(0, v0)] f1 u1))

noncomputable def q25_17 (B : Sy) (C : Go.ScE.Callee) : Env → Fram → List Fram → KX → R0 := fun e fr up k =>
  hCall C 30 [(demK (demK (look' 0 e))), (.c (.p (pI 28))), (.c (.p (pI 30))), (.c (.p (pI 0)))] fr up (fun r1 f1 u1 =>
  headK (look' 0 e) (fun v0 => k .normal [(0, v0)] f1 u1))

noncomputable def q25_18 (B : Sy) (C : Go.ScE.Callee) : Env → Fram → List Fram → KX → R0 := fun e fr up k =>
  hCall C 51 [(demK (demK (look' 0 e))), (.c (.p (pI 15))), (.c (.p (pI 26))), (.c (.p (pI 26))), (.c (.p (pI 1)))] fr up (fun r1 f1 u1 =>
  headK (look' 0 e) (fun v0 => k .normal [(0, v0)] f1 u1))

noncomputable def q25_19 (B : Sy) (C : Go.ScE.Callee) : Env → Fram → List Fram → KX → R0 := fun e fr up k =>
  hCall C 51 [(demK (demK (look' 0 e))), (.c (.p (pI 15))), (.c (.p (pI 30))), (.c (.p (pI 30))), (.c (.p (pI 1)))] fr up (fun r1 f1 u1 =>
  headK (look' 0 e) (fun v0 => k .normal [(0, v0)] f1 u1))

noncomputable def q25_20 (B : Sy) (C : Go.ScE.Callee) : Env → Fram → List Fram → KX → R0 := fun e fr up k =>
  hCall C 36 [(demK (demK (look' 0 e))), (.c (.p (pI 2004)))] fr up (fun r1 f1 u1 =>
  headK (look' 0 e) (fun v0 => k .normal [(0, v0)] f1 u1))

noncomputable def q25_21 (B : Sy) (C : Go.ScE.Callee) : Env → Fram → List Fram → KX → R0 := fun e fr up k =>
  hCall C 27 [(demK (demK (look' 0 e))), (.c (.p (pI 2008)))] fr up (fun r1 f1 u1 =>
  headK (look' 0 e) (fun v0 => k .normal [(0, v0)] f1 u1))

noncomputable def q25_22 (B : Sy) (C : Go.ScE.Callee) : Env → Fram → List Fram → KX → R0 := fun e fr up k =>
  hCall C 36 [(demK (demK (look' 0 e))), (.c (.p (pI 4)))] fr up (fun r1 f1 u1 =>
  k .normal [] f1 u1)

noncomputable def s25 : KS := fun B C n => seqK (q25_0 B C) (seqK (q25_1 B C) (seqK (q25_2 B C) (seqK (q25_3 B C) (seqK (q25_4 B C) (seqK (q25_5 B C) (seqK (q25_6 B C) (seqK (q25_7 B C) (seqK (q25_8 B C) (seqK (q25_9 B C) (seqK (q25_10 B C) (seqK (q25_11 B C) (seqK (q25_12 B C) (seqK (q25_13 B C) (seqK (q25_14 B C) (seqK (q25_15 B C) (seqK (q25_16 B C) (seqK (q25_17 B C) (seqK (q25_18 B C) (seqK (q25_19 B C) (seqK (q25_20 B C) (seqK (q25_21 B C) (q25_22 B C))))))))))))))))))))))
theorem s25_eq (B : Sy) (C : Go.ScE.Callee) (n : Nat) : s25 B C n = evS B C n x25.body := by kernel_rfl

noncomputable def q26_0 (B : Sy) (C : Go.ScE.Callee) : Env → Fram → List Fram → KX → R0 := fun e fr up k =>
  hCall C 27 [(demK (demK (look' 0 e))), (.c (.p (pI 7)))] fr up (fun r1 f1 u1 =>
  headK (look' 0 e) (fun v0 => k .normal [(0, v0)] f1 u1))

noncomputable def q26_1 (B : Sy) (C : Go.ScE.Callee) : Env → Fram → List Fram → KX → R0 := fun e fr up k =>
  hCall C 34 [(demK (demK (look' 0 e))), (.c (.p (pI 31))), (.c (.p (pI 6)))] fr up (fun r1 f1 u1 =>
  headK (look' 0 e) (fun v0 => k .normal [(0, v0)] f1 u1))

noncomputable def q26_2 (B : Sy) (C : Go.ScE.Callee) : Env → Fram → List Fram → KX → R0 := fun e fr up k =>
  hCall C 48 [(demK (demK (look' 0 e))), (.c (.p (pI 3)))] fr up (fun r1 f1 u1 =>
  headK (look' 0 e) (fun v0 => k .normal [(0, v0)] f1 u1))

noncomputable def q26_3 (B : Sy) (C : Go.ScE.Callee) : Env → Fram → List Fram → KX → R0 := fun e fr up k =>
  hCall C 49 [(.c (.p (pI 7))), (.c (.p (pI 2)))] fr up (fun r1 f1 u1 =>
  hCall C 33 [(demK (demK (look' 0 e))), (.c (.p (pI 27))), (demK r1)] f1 u1 (fun r2 f2 u2 =>
  headK (look' 0 e) (fun v0 => k .normal [(0, v0)] f2 u2)))

noncomputable def q26_4 (B : Sy) (C : Go.ScE.Callee) : Env → Fram → List Fram → KX → R0 := fun e fr up k =>
  hCall C 30 [(demK (demK (look' 0 e))), (.c (.p (pI 27))), (.c (.p (pI 29))), (.c (.p (pI 0)))] fr up (fun r1 f1 u1 =>
  headK (look' 0 e) (fun v0 => k .normal [(0, v0)] f1 u1))

noncomputable def q26_5 (B : Sy) (C : Go.ScE.Callee) : Env → Fram → List Fram → KX → R0 := fun e fr up k =>
  hCall C 47 [(demK (demK (look' 0 e))), (.c (.p (pI 27))), (.c (.p (pI 8))), (.c (.p (pI 3)))] fr up (fun r1 f1 u1 =>
  headK (look' 0 e) (fun v0 => k .normal [(0, v0)] f1 u1))

noncomputable def q26_6 (B : Sy) (C : Go.ScE.Callee) : Env → Fram → List Fram → KX → R0 := fun e fr up k =>
  hCall C 30 [(demK (demK (look' 0 e))), (.c (.p (pI 27))), (.c (.p (pI 29))), (.c (.p (pI 1)))] fr up (fun r1 f1 u1 =>
  headK (look' 0 e) (fun v0 => k .normal [(0, v0)] f1 u1))

noncomputable def q26_7 (B : Sy) (C : Go.ScE.Callee) : Env → Fram → List Fram → KX → R0 := fun e fr up k =>
  hCall C 31 [(demK (demK (look' 0 e))), (.c (.p (pI 27))), (.c (.p (pI 0))), (.c (.p (pI 25)))] fr up (fun r1 f1 u1 =>
  headK (look' 0 e) (fun v0 => k .normal [(0, v0)] f1 u1))

noncomputable def q26_8 (B : Sy) (C : Go.ScE.Callee) : Env → Fram → List Fram → KX → R0 := fun e fr up k =>
  hCall C 30 [(demK (demK (look' 0 e))), (.c (.p (pI 27))), (.c (.p (pI 29))), (.c (.p (pI 2)))] fr up (fun r1 f1 u1 =>
  headK (look' 0 e) (fun v0 => k .normal [(0, v0)] f1 u1))

noncomputable def q26_9 (B : Sy) (C : Go.ScE.Callee) : Env → Fram → List Fram → KX → R0 := fun e fr up k =>
  hCall C 50 [(demK (demK (look' 0 e))), (.c (.p (pI 1))), (.c (.p (pI 3)))] fr up (fun r1 f1 u1 =>
  headK (look' 0 e) (fun v0 => k .normal [(0, v0)] f1 u1))

noncomputable def q26_10 (B : Sy) (C : Go.ScE.Callee) : Env → Fram → List Fram → KX → R0 := fun e fr up k =>
  hCall C 33 [(demK (demK (look' 0 e))), (.c (.p (pI 28))), (.c (.p (pI 1)))] fr up (fun r1 f1 u1 =>
  headK (look' 0 e) (fun v0 => k .normal [(0, v0)] f1 u1))

noncomputable def q26_11 (B : Sy) (C : Go.ScE.Callee) : Env → Fram → List Fram → KX → R0 := fun e fr up k =>
  hCall C 36 [(demK (demK (look' 0 e))), (.c (.p (pI 3)))] fr up (fun r1 f1 u1 =>
  headK (look' 0 e) (fun v0 => k .normal [(0, v0)] f1 u1))

noncomputable def q26_12 (B : Sy) (C : Go.ScE.Callee) : Env → Fram → List Fram → KX → R0 := fun e fr up k =>
  hCall C 27 [(demK (demK (look' 0 e))), (.c (.p (pI 8)))] fr up (fun r1 f1 u1 =>
  headK (look' 0 e) (fun v0 => k .normal [(0, v0)] f1 u1))

noncomputable def q26_13 (B : Sy) (C : Go.ScE.Callee) : Env → Fram → List Fram → KX → R0 := fun e fr up k =>
  hCall C 33 [(demK (demK (look' 0 e))), (.c (.p (pI 26))), (.c (.p (pI 1)))] fr up (fun r1 f1 u1 =>
  headK (look' 0 e) (fun v0 => k .normal [(0, v0)] f1 u1))

noncomputable def q26_14 (B : Sy) (C : Go.ScE.Callee) : Env → Fram → List Fram → KX → R0 := fun e fr up k =>
  hCall C 28 [(.c (.p (pI 91)))] fr up (fun r1 f1 u1 =>
  hCall C 35 [(demK (demK (look' 0 e))), (.c (.p (pI 25))), (.c (.p (pI 26))), (.c (.p (pI 28))), (demK r1)] f1 u1 (fun r2 f2 u2 =>
  headK (look' 0 e) (fun v0 => k .normal [(0, v0)] f2 u2)))

noncomputable def q26_15 (B : Sy) (C : Go.ScE.Callee) : Env → Fram → List Fram → KX → R0 := fun e fr up k =>
  hCall C 51 [(demK (demK (look' 0 e))), (.c (.p (pI 19))), (.c (.p (pI 26))), (.c (.p (pI 25))), (.c (.p (pI 3)))] fr up (fun r1 f1 u1 =>
  headK (look' 0 e) (fun v0 => k .normal [(0, v0)] f1 u1))

noncomputable def q26_16 (B : Sy) (C : Go.ScE.Callee) : Env → Fram → List Fram → KX → R0 := fun e fr up k =>
  hCall C 31 [(demK (demK (look' 0 e))), (.c (.p (pI 27))), (.c (.p (pI 26))), (.c (.p (pI 2)))] fr up (fun r1 f1 u1 =>
  headK (look' 0 e) (fun v0 => k .normal [(0, v0)] f1 u1))

noncomputable def q26_17 (B : Sy) (C : Go.ScE.Callee) : Env → Fram → List Fram → KX → R0 := fun e fr up k =>
  hCall C 30 [(demK (demK (look' 0 e))), (.c (.p (pI 27))), (.c (.p (pI 0))), (.c (.p (pI 25)))] fr up (fun r1 f1 u1 =>
  headK (look' 0 e) (fun v0 => k .normal [(0, v0)] f1 u1))

noncomputable def q26_18 (B : Sy) (C : Go.ScE.Callee) : Env → Fram → List Fram → KX → R0 := fun e fr up k =>
  hCall C 33 [(demK (demK (look' 0 e))), (.c (.p (pI 30))), (.c (.p (pI 33)))] fr up (fun r1 f1 u1 =>
  headK (look' 0 e) (fun v0 => k .normal [(0, v0)] f1 u1))

noncomputable def q26_19 (B : Sy) (C : Go.ScE.Callee) : Env → Fram → List Fram → KX → R0 := fun e fr up k =>
  hCall C 36 [(demK (demK (look' 0 e))), (.c (.p (pI 4)))] fr up (fun r1 f1 u1 =>
  k .normal [] f1 u1)

noncomputable def s26 : KS := fun B C n => seqK (q26_0 B C) (seqK (q26_1 B C) (seqK (q26_2 B C) (seqK (q26_3 B C) (seqK (q26_4 B C) (seqK (q26_5 B C) (seqK (q26_6 B C) (seqK (q26_7 B C) (seqK (q26_8 B C) (seqK (q26_9 B C) (seqK (q26_10 B C) (seqK (q26_11 B C) (seqK (q26_12 B C) (seqK (q26_13 B C) (seqK (q26_14 B C) (seqK (q26_15 B C) (seqK (q26_16 B C) (seqK (q26_17 B C) (seqK (q26_18 B C) (q26_19 B C)))))))))))))))))))
theorem s26_eq (B : Sy) (C : Go.ScE.Callee) (n : Nat) : s26 B C n = evS B C n x26.body := by kernel_rfl

noncomputable def q27_0 (B : Sy) (C : Go.ScE.Callee) : Env → Fram → List Fram → KX → R0 := fun e fr up k =>
  hBld [(pI 0), (pI 0), (pI 0), (pI 0), (pI 0), (pI 0), (pI 0), (pI 0)] [(0, 1), (6, 1)] [(.c (.p (pI 1))), (demK (demK (look' 1 e)))] fr up (fun r2 f2 u2 =>
  hCall C 53 [(demK (demK (look' 0 e))), (demK r2)] f2 u2 (fun r3 f3 u3 =>
  k .normal [] f3 u3))

noncomputable def s27 : KS := fun B C n => q27_0 B C
theorem s27_eq (B : Sy) (C : Go.ScE.Callee) (n : Nat) : s27 B C n = evS B C n x27.body := by kernel_rfl

noncomputable def q28_0 (B : Sy) (C : Go.ScE.Callee) : Env → Fram → List Fram → KX → R0 := fun e fr up k =>
  headK (look' 0 e) (fun v0 => k .normal [(0, v0)] fr up)

noncomputable def q28_1 (B : Sy) (C : Go.ScE.Callee) : Env → Fram → List Fram → KX → R0 := fun e fr up k =>
  hBinS B .sub false (demK (demK (look' 0 e))) (.c (.p (pI 80))) fr up (fun r1 f1 u1 =>
  hBinS B .add false (.c (.p (pI 11))) (demK r1) f1 u1 (fun r2 f2 u2 =>
  headK (demK r2) (fun v2 => k .normal [(2, v2)] f2 u2)))

noncomputable def s28 : KS := fun B C n => seqK (q28_0 B C) (seqK (q28_1 B C) (retK))
theorem s28_eq (B : Sy) (C : Go.ScE.Callee) (n : Nat) : s28 B C n = evS B C n x28.body := by kernel_rfl

noncomputable def q29_0 (B : Sy) (C : Go.ScE.Callee) : Env → Fram → List Fram → KX → R0 := fun e fr up k =>
  hCall C 33 [(demK (demK (look' 0 e))), (demK (demK (look' 1 e))), (demK (demK (look' 2 e)))] fr up (fun r3 f3 u3 =>
  headK (look' 0 e) (fun v0 => headK (look' 1 e) (fun v1 => k .normal [(0, v0), (1, v1)] f3 u3)))

noncomputable def q29_1 (B : Sy) (C : Go.ScE.Callee) : Env → Fram → List Fram → KX → R0 := fun e fr up k =>
  hCall C 51 [(demK (demK (look' 0 e))), (.c (.p (pI 0))), (demK (demK (look' 1 e))), (.c (.p (pI 0))), (.c (.p (pI 0)))] fr up (fun r2 f2 u2 =>
  k .normal [] f2 u2)

noncomputable def s29 : KS := fun B C n => seqK (q29_0 B C) (q29_1 B C)
theorem s29_eq (B : Sy) (C : Go.ScE.Callee) (n : Nat) : s29 B C n = evS B C n x29.body := by kernel_rfl

noncomputable def q30_0 (B : Sy) (C : Go.ScE.Callee) : Env → Fram → List Fram → KX → R0 := fun e fr up k =>
  hCall C 51 [(demK (demK (look' 0 e))), (.c (.p (pI 23))), (demK (demK (look' 1 e))), (demK (demK (look' 2 e))), (demK (demK (look' 3 e)))] fr up (fun r4 f4 u4 =>
  k .normal [] f4 u4)

noncomputable def s30 : KS := fun B C n => q30_0 B C
theorem s30_eq (B : Sy) (C : Go.ScE.Callee) (n : Nat) : s30 B C n = evS B C n x30.body := by kernel_rfl

noncomputable def q31_0 (B : Sy) (C : Go.ScE.Callee) : Env → Fram → List Fram → KX → R0 := fun e fr up k =>
  hCall C 51 [(demK (demK (look' 0 e))), (.c (.p (pI 22))), (demK (demK (look' 1 e))), (demK (demK (look' 2 e))), (demK (demK (look' 3 e)))] fr up (fun r4 f4 u4 =>
  k .normal [] f4 u4)

noncomputable def s31 : KS := fun B C n => q31_0 B C
theorem s31_eq (B : Sy) (C : Go.ScE.Callee) (n : Nat) : s31 B C n = evS B C n x31.body := by kernel_rfl

noncomputable def q32_0 (B : Sy) (C : Go.ScE.Callee) : Env → Fram → List Fram → KX → R0 := fun e fr up k =>
  hCall C 51 [(demK (demK (look' 0 e))), (.c (.p (pI 15))), (demK (demK (look' 1 e))), (demK (demK (look' 2 e))), (.c (.p (pI 0)))] fr up (fun r3 f3 u3 =>
  k .normal [] f3 u3)

noncomputable def s32 : KS := fun B C n => q32_0 B C
theorem s32_eq (B : Sy) (C : Go.ScE.Callee) (n : Nat) : s32 B C n = evS B C n x32.body := by kernel_rfl

noncomputable def q33_0 (B : Sy) (C : Go.ScE.Callee) : Env → Fram → List Fram → KX → R0 := fun e fr up k =>
  hBld [(pI 0), (pI 0), (pI 0), (pI 0), (pI 0)] [(0, 1), (1, 1)] [(.c (.p (pI 20))), (demK (demK (look' 1 e)))] fr up (fun r2 f2 u2 =>
  hBld [(pI 0), (pI 0), (pI 0), (pI 0), (pI 0), (pI 0), (pI 0), (pI 0)] [(0, 1), (1, 5), (7, 1)] [(.c (.p (pI 4))), (demK r2), (demK (demK (look' 2 e)))] f2 u2 (fun r4 f4 u4 =>
  hCall C 53 [(demK (demK (look' 0 e))), (demK r4)] f4 u4 (fun r5 f5 u5 =>
  k .normal [] f5 u5)))

noncomputable def s33 : KS := fun B C n => q33_0 B C
theorem s33_eq (B : Sy) (C : Go.ScE.Callee) (n : Nat) : s33 B C n = evS B C n x33.body := by kernel_rfl

noncomputable def q34_0 (B : Sy) (C : Go.ScE.Callee) : Env → Fram → List Fram → KX → R0 := fun e fr up k =>
  hBld [(pI 0), (pI 0), (pI 0), (pI 0), (pI 0)] [(0, 1), (1, 1)] [(.c (.p (pI 28))), (demK (demK (look' 1 e)))] fr up (fun r2 f2 u2 =>
  hBld [(pI 0), (pI 0), (pI 0), (pI 0), (pI 0), (pI 0), (pI 0), (pI 0)] [(0, 1), (1, 5), (6, 1)] [(.c (.p (pI 3))), (demK r2), (demK (demK (look' 2 e)))] f2 u2 (fun r4 f4 u4 =>
  hCall C 53 [(demK (demK (look' 0 e))), (demK r4)] f4 u4 (fun r5 f5 u5 =>
  k .normal [] f5 u5)))

noncomputable def s34 : KS := fun B C n => q34_0 B C
theorem s34_eq (B : Sy) (C : Go.ScE.Callee) (n : Nat) : s34 B C n = evS B C n x34.body := by kernel_rfl

noncomputable def q35_0 (B : Sy) (C : Go.ScE.Callee) : Env → Fram → List Fram → KX → R0 := fun e fr up k =>
  hBld [(pI 0), (pI 0), (pI 0), (pI 0), (pI 0)] [(0, 1), (1, 1), (2, 1)] [(demK (demK (look' 1 e))), (demK (demK (look' 2 e))), (demK (demK (look' 3 e)))] fr up (fun r4 f4 u4 =>
  hBld [(pI 0), (pI 0), (pI 0), (pI 0), (pI 0), (pI 0), (pI 0), (pI 0)] [(0, 1), (1, 5), (6, 1)] [(.c (.p (pI 2))), (demK r4), (demK (demK (look' 4 e)))] f4 u4 (fun r6 f6 u6 =>
  hCall C 53 [(demK (demK (look' 0 e))), (demK r6)] f6 u6 (fun r7 f7 u7 =>
  k .normal [] f7 u7)))

noncomputable def s35 : KS := fun B C n => q35_0 B C
theorem s35_eq (B : Sy) (C : Go.ScE.Callee) (n : Nat) : s35 B C n = evS B C n x35.body := by kernel_rfl

noncomputable def q36_0 (B : Sy) (C : Go.ScE.Callee) : Env → Fram → List Fram → KX → R0 := fun e fr up k =>
  hCall C 34 [(demK (demK (look' 0 e))), (.c (.p (pI 0))), (demK (demK (look' 1 e)))] fr up (fun r2 f2 u2 =>
  k .normal [] f2 u2)

noncomputable def s36 : KS := fun B C n => q36_0 B C
theorem s36_eq (B : Sy) (C : Go.ScE.Callee) (n : Nat) : s36 B C n = evS B C n x36.body := by kernel_rfl

noncomputable def q37_0 (B : Sy) (C : Go.ScE.Callee) : Env → Fram → List Fram → KX → R0 := fun e fr up k =>
  hCall C 31 [(demK (demK (look' 0 e))), (.c (.p (pI 3))), (.c (.p (pI 0))), (demK (demK (look' 1 e)))] fr up (fun r2 f2 u2 =>
  headK (look' 0 e) (fun v0 => headK (look' 1 e) (fun v1 => headK (look' 2 e) (fun v2 => k .normal [(0, v0), (1, v1), (2, v2)] f2 u2))))

noncomputable def q37_1 (B : Sy) (C : Go.ScE.Callee) : Env → Fram → List Fram → KX → R0 := fun e fr up k =>
  hCall C 31 [(demK (demK (look' 0 e))), (.c (.p (pI 4))), (.c (.p (pI 0))), (demK (demK (look' 2 e)))] fr up (fun r2 f2 u2 =>
  headK (look' 0 e) (fun v0 => headK (look' 1 e) (fun v1 => headK (look' 2 e) (fun v2 => k .normal [(0, v0), (1, v1), (2, v2)] f2 u2))))

noncomputable def q37_2 (B : Sy) (C : Go.ScE.Callee) : Env → Fram → List Fram → KX → R0 := fun e fr up k =>
  hCall C 30 [(demK (demK (look' 0 e))), (.c (.p (pI 4))), (.c (.p (pI 0))), (demK (demK (look' 1 e)))] fr up (fun r2 f2 u2 =>
  headK (look' 0 e) (fun v0 => headK (look' 2 e) (fun v2 => k .normal [(0, v0), (2, v2)] f2 u2)))

noncomputable def q37_3 (B : Sy) (C : Go.ScE.Callee) : Env → Fram → List Fram → KX → R0 := fun e fr up k =>
  hCall C 30 [(demK (demK (look' 0 e))), (.c (.p (pI 3))), (.c (.p (pI 0))), (demK (demK (look' 2 e)))] fr up (fun r2 f2 u2 =>
  k .normal [] f2 u2)

noncomputable def s37 : KS := fun B C n => seqK (q37_0 B C) (seqK (q37_1 B C) (seqK (q37_2 B C) (q37_3 B C)))
theorem s37_eq (B : Sy) (C : Go.ScE.Callee) (n : Nat) : s37 B C n = evS B C n x37.body := by kernel_rfl

noncomputable def q38_0 (B : Sy) (C : Go.ScE.Callee) : Env → Fram → List Fram → KX → R0 := fun e fr up k =>
  hBld [(pI 0), (pI 0), (pI 0), (pI 0), (pI 0)] [(0, 1), (1, 1), (2, 1), (3, 1)] [(demK (demK (look' 1 e))), (demK (demK (look' 2 e))), (demK (demK (look' 3 e))), (demK (demK (look' 4 e)))] fr up (fun r5 f5 u5 =>
  hBld [(pI 0), (pI 0), (pI 0), (pI 0), (pI 0), (pI 0), (pI 0), (pI 0)] [(1, 5)] [(demK r5)] f5 u5 (fun r6 f6 u6 =>
  hCall C 53 [(demK (demK (look' 0 e))), (demK r6)] f6 u6 (fun r7 f7 u7 =>
  k .normal [] f7 u7)))

noncomputable def s38 : KS := fun B C n => q38_0 B C
theorem s38_eq (B : Sy) (C : Go.ScE.Callee) (n : Nat) : s38 B C n = evS B C n x38.body := by kernel_rfl

noncomputable def q39_0 (B : Sy) (C : Go.ScE.Callee) : Env → Fram → List Fram → KX → R0 := fun e fr up k =>
  hCall C 51 [(demK (demK (look' 0 e))), (.c (.p (pI 29))), (.c (.p (pI 0))), (demK (demK (look' 1 e))), (.c (.p (pI 0)))] fr up (fun r2 f2 u2 =>
  k .normal [] f2 u2)

noncomputable def s39 : KS := fun B C n => q39_0 B C
theorem s39_eq (B : Sy) (C : Go.ScE.Callee) (n : Nat) : s39 B C n = evS B C n x39.body := by kernel_rfl

end Go.ScX
