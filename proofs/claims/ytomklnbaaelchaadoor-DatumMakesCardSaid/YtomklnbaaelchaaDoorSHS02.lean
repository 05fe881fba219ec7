/- The small code laid out, with variables for slots. -/
import Derived.Test.YtomklnbaaelchaaDoorSX02
import Derived.Test.YtomklnbaaelchaaDoorSS5
set_option maxRecDepth 100000
set_option linter.unusedVariables false
namespace Go.Sc2
open Go.ScE
noncomputable def q3_0 (B : Sy) (C : Go.ScE.Callee) : Env → Fram → List Fram → KX → R0 := fun e fr up k =>
  hGen C (.box 0) [(look' 0 e)] fr up (fun r0 f0 u0 =>
  hGen C (.box 1) [(look' 1 e)] f0 u0 (fun r1 f1 u1 =>
  headK r0 (fun v2 => headK r1 (fun v3 => k .normal [(2, v2), (3, v3)] f1 u1))))

noncomputable def q3_1 (B : Sy) (C : Go.ScE.Callee) : Env → Fram → List Fram → KX → R0 := fun e fr up k =>
  hLdS B true 4 false (demK (look' 2 e)) fr up (fun r0 f0 u0 =>
  hLdS B true 4 false (demK (look' 3 e)) f0 u0 (fun r1 f1 u1 =>
  hBlds 4 [(pI 0), (pI 0), (pS []), (.sl 4 [])] 2 [0, 1] [r0, r1] f1 u1 (fun r2 f2 u2 =>
  hCall C 5 [r2] f2 u2 (fun r3 f3 u3 =>
  headK (look' 2 e) (fun v2 => headK (look' 3 e) (fun v3 => headK r3 (fun v8 => k .normal [(2, v2), (3, v3), (8, v8)] f3 u3)))))))

noncomputable def q3_2 (B : Sy) (C : Go.ScE.Callee) : Env → Fram → List Fram → KX → R0 := fun e fr up k =>
  hCall C 6 [] fr up (fun r0 f0 u0 =>
  headK (demK r0) (fun v4 => k .normal [(4, v4)] f0 u0))

noncomputable def q3_3 (B : Sy) (C : Go.ScE.Callee) : Env → Fram → List Fram → KX → R0 := fun e fr up k =>
  Bool.rec (motive := fun _ => R0) fail0 (hCall C 6 [] fr up (fun r0 f0 u0 =>
  guardK true (demK r0) (fun K => hLdS B true 4 false (demK (look' 2 e)) f0 u0 K) f0 u0 (fun r2 f2 u2 =>
  guardK true (demK r0) (fun K => hLdS B true 4 false (demK (look' 3 e)) f2 u2 K) f2 u2 (fun r3 f3 u3 =>
  guardK true (demK r0) (fun K => Bool.rec (motive := fun _ => R0) fail0 (hCall C 7 [(demK r2), (demK r3)] f3 u3 K) (chkD (.call 7) false [] [(demK r2), (demK r3)])) f3 u3 (fun r4 f4 u4 =>
  guardK true (demK r0) (fun K => hLdS B true 4 false (demK (look' 2 e)) f4 u4 K) f4 u4 (fun r5 f5 u5 =>
  guardK true (demK r0) (fun K => hLdS B true 4 false (demK (look' 3 e)) f5 u5 K) f5 u5 (fun r6 f6 u6 =>
  guardK true (demK r0) (fun K => Bool.rec (motive := fun _ => R0) fail0 (hCall C 8 [(demK r5), (demK r6)] f6 u6 K) (chkD (.call 8) false [] [(demK r5), (demK r6)])) f6 u6 (fun r7 f7 u7 =>
  guardK true (demK r0) (fun K => hBinS B .eql true (demK r4) (demK r7) f7 u7 K) f7 u7 (fun r8 f8 u8 =>
  hPick  (demK (demK r0)) (demK r8) (.c (.p (pB false))) f8 u8 (fun r9 f9 u9 =>
  guardK true (demK r9) (fun K => hLdS B true 4 false (demK (look' 2 e)) f9 u9 K) f9 u9 (fun r11 f11 u11 =>
  guardK true (demK r9) (fun K => hLdS B true 4 false (demK (look' 2 e)) f11 u11 K) f11 u11 (fun r12 f12 u12 =>
  guardK true (demK r9) (fun K => Bool.rec (motive := fun _ => R0) fail0 (hCall C 7 [(demK r11), (demK r12)] f12 u12 K) (chkD (.call 7) false [] [(demK r11), (demK r12)])) f12 u12 (fun r13 f13 u13 =>
  hPick  (demK (demK r9)) (demK r13) (.c (.p (pB false))) f13 u13 (fun r14 f14 u14 =>
  guardK true (demK r14) (fun K => hLdS B true 4 false (demK (look' 3 e)) f14 u14 K) f14 u14 (fun r16 f16 u16 =>
  guardK true (demK r14) (fun K => hLdS B true 4 false (demK (look' 2 e)) f16 u16 K) f16 u16 (fun r17 f17 u17 =>
  guardK true (demK r14) (fun K => Bool.rec (motive := fun _ => R0) fail0 (hCall C 7 [(demK r16), (demK r17)] f17 u17 K) (chkD (.call 7) false [] [(demK r16), (demK r17)])) f17 u17 (fun r18 f18 u18 =>
  guardK true (demK r14) (fun K => hLdS B true 4 false (demK (look' 2 e)) f18 u18 K) f18 u18 (fun r19 f19 u19 =>
  guardK true (demK r14) (fun K => hLdS B true 4 false (demK (look' 3 e)) f19 u19 K) f19 u19 (fun r20 f20 u20 =>
  guardK true (demK r14) (fun K => Bool.rec (motive := fun _ => R0) fail0 (hCall C 7 [(demK r19), (demK r20)] f20 u20 K) (chkD (.call 7) false [] [(demK r19), (demK r20)])) f20 u20 (fun r21 f21 u21 =>
  guardK true (demK r14) (fun K => hBinS B .eql true (demK r18) (demK r21) f21 u21 K) f21 u21 (fun r22 f22 u22 =>
  hPick  (demK (demK r14)) (demK r22) (.c (.p (pB false))) f22 u22 (fun r23 f23 u23 =>
  headK (demK r23) (fun v4 => k .normal [(4, v4)] f23 u23))))))))))))))))))))))) (chkD (.call 6) false [] [])

noncomputable def s3 : KS := fun B C n => seqK (q3_0 B C) (seqK (seqK (q3_1 B C) (condK (.t 8) (seqK (q3_2 B C) (retK)) (skipK))) (seqK (q3_3 B C) (retK)))
theorem s3_eq (B : Sy) (C : Go.ScE.Callee) (n : Nat) : s3 B C n = evS B C n x3.body := by kernel_rfl

noncomputable def q4_0 (B : Sy) (C : Go.ScE.Callee) : Env → Fram → List Fram → KX → R0 := fun e fr up k =>
  hGen C (.box 0) [(look' 1 e)] fr up (fun r0 f0 u0 =>
  headK (look' 0 e) (fun v0 => headK r0 (fun v3 => k .normal [(0, v0), (3, v3)] f0 u0)))

noncomputable def q4_1 (B : Sy) (C : Go.ScE.Callee) : Env → Fram → List Fram → KX → R0 := fun e fr up k =>
  hCall C 5 [(demK (look' 0 e))] fr up (fun r1 f1 u1 =>
  guardK false (demK r1) (fun K => hLdS B true 4 false (demK (look' 3 e)) f1 u1 K) f1 u1 (fun r3 f3 u3 =>
  guardK false (demK r1) (fun K => hBlds 4 [(pI 0), (pI 0), (pS []), (.sl 4 [])] 1 [0] [(demK r3)] f3 u3 K) f3 u3 (fun r4 f4 u4 =>
  guardK false (demK r1) (fun K => hCall C 5 [(demK r4)] f4 u4 K) f4 u4 (fun r5 f5 u5 =>
  hPick  (demK (demK r1)) (.c (.p (pB true))) (demK r5) f5 u5 (fun r6 f6 u6 =>
  headK (look' 0 e) (fun v0 => headK (look' 3 e) (fun v3 => headK r6 (fun v16 => k .normal [(0, v0), (3, v3), (16, v16)] f6 u6))))))))

noncomputable def q4_2 (B : Sy) (C : Go.ScE.Callee) : Env → Fram → List Fram → KX → R0 := fun e fr up k =>
  hCall C 6 [] fr up (fun r0 f0 u0 =>
  headK (demK r0) (fun v4 => k .normal [(4, v4)] f0 u0))

noncomputable def q4_3 (B : Sy) (C : Go.ScE.Callee) : Env → Fram → List Fram → KX → R0 := fun e fr up k =>
  hLdS B true 4 false (demK (look' 3 e)) fr up (fun r1 f1 u1 =>
  hCall C 9 [(demK (look' 0 e)), r1] f1 u1 (fun r2 f2 u2 =>
  hGen C (.alloc 1 true [(pI 0), (pI 0), (pS []), (.sl 4 [])]) [] f2 u2 (fun r3 f3 u3 =>
  hStS B 4 (demK r3) r2 f3 u3 (fun r4 f4 u4 =>
  headK (look' 0 e) (fun v0 => headK (look' 3 e) (fun v3 => headK r3 (fun v5 => k .normal [(0, v0), (3, v3), (5, v5)] f4 u4)))))))

noncomputable def q4_4 (B : Sy) (C : Go.ScE.Callee) : Env → Fram → List Fram → KX → R0 := fun e fr up k =>
  hLdS B true 4 false (demK (look' 3 e)) fr up (fun r0 f0 u0 =>
  hCall C 10 [r0] f0 u0 (fun r1 f1 u1 =>
  hGen C (.ext 0) [(demK r1)] f1 u1 (fun r3 f3 u3 =>
  hGen C (.ext 1) [r1] f3 u3 (fun r4 f4 u4 =>
  hGen C (.alloc 2 true [(pI 0), (pI 0), (pS []), (.sl 4 [])]) [] f4 u4 (fun r5 f5 u5 =>
  hStS B 4 (demK r5) r4 f5 u5 (fun r7 f7 u7 =>
  headK (look' 0 e) (fun v0 => headK (look' 3 e) (fun v3 => headK (look' 5 e) (fun v5 => headK r3 (fun v6 => headK r5 (fun v7 => k .normal [(0, v0), (3, v3), (5, v5), (6, v6), (7, v7)] f7 u7)))))))))))

noncomputable def q4_5 (B : Sy) (C : Go.ScE.Callee) : Env → Fram → List Fram → KX → R0 := fun e fr up k =>
  hLdS B true 4 false (demK (look' 3 e)) fr up (fun r0 f0 u0 =>
  hCall C 11 [r0] f0 u0 (fun r1 f1 u1 =>
  hGen C (.ext 0) [(demK r1)] f1 u1 (fun r3 f3 u3 =>
  hGen C (.ext 1) [r1] f3 u3 (fun r4 f4 u4 =>
  hGen C (.alloc 3 true [(pI 0), (pI 0), (pS []), (.sl 4 [])]) [] f4 u4 (fun r5 f5 u5 =>
  hStS B 4 (demK r5) r4 f5 u5 (fun r7 f7 u7 =>
  headK (look' 0 e) (fun v0 => headK (look' 3 e) (fun v3 => headK (look' 5 e) (fun v5 => headK (look' 6 e) (fun v6 => headK (look' 7 e) (fun v7 => headK r3 (fun v8 => headK r5 (fun v9 => k .normal [(0, v0), (3, v3), (5, v5), (6, v6), (7, v7), (8, v8), (9, v9)] f7 u7)))))))))))))

noncomputable def q4_6 (B : Sy) (C : Go.ScE.Callee) : Env → Fram → List Fram → KX → R0 := fun e fr up k =>
  Bool.rec (motive := fun _ => R0) fail0 (hCall C 6 [] fr up (fun r0 f0 u0 =>
  guardK true (demK r0) (fun K => hLdS B true 4 false (demK (look' 5 e)) f0 u0 K) f0 u0 (fun r2 f2 u2 =>
  guardK true (demK r0) (fun K => K (demK (look' 0 e)) f2 u2) f2 u2 (fun r3 f3 u3 =>
  guardK true (demK r0) (fun K => hLdS B true 4 false (demK (look' 3 e)) f3 u3 K) f3 u3 (fun r4 f4 u4 =>
  guardK true (demK r0) (fun K => Bool.rec (motive := fun _ => R0) fail0 (hCall C 12 [(demK r3), (demK r4)] f4 u4 K) (chkD (.call 12) false [] [(demK r3), (demK r4)])) f4 u4 (fun r5 f5 u5 =>
  guardK true (demK r0) (fun K => Bool.rec (motive := fun _ => R0) fail0 (hCall C 8 [(demK r2), (demK r5)] f5 u5 K) (chkD (.call 8) false [] [(demK r2), (demK r5)])) f5 u5 (fun r6 f6 u6 =>
  hPick  (demK (demK r0)) (demK r6) (.c (.p (pB false))) f6 u6 (fun r7 f7 u7 =>
  guardK true (demK r7) (fun K => K (demK (look' 6 e)) f7 u7) f7 u7 (fun r9 f9 u9 =>
  guardK true (demK r7) (fun K => K (demK (look' 8 e)) f9 u9) f9 u9 (fun r10 f10 u10 =>
  guardK true (demK r7) (fun K => Bool.rec (motive := fun _ => R0) fail0 (hCall C 13 [(demK r9), (demK r10)] f10 u10 K) (chkD (.call 13) false [] [(demK r9), (demK r10)])) f10 u10 (fun r11 f11 u11 =>
  hPick  (demK (demK r7)) (demK r11) (.c (.p (pB false))) f11 u11 (fun r12 f12 u12 =>
  guardK true (demK r12) (fun K => hLdS B true 4 false (demK (look' 7 e)) f12 u12 K) f12 u12 (fun r14 f14 u14 =>
  guardK true (demK r12) (fun K => hLdS B true 4 false (demK (look' 9 e)) f14 u14 K) f14 u14 (fun r15 f15 u15 =>
  guardK true (demK r12) (fun K => Bool.rec (motive := fun _ => R0) fail0 (hCall C 8 [(demK r14), (demK r15)] f15 u15 K) (chkD (.call 8) false [] [(demK r14), (demK r15)])) f15 u15 (fun r16 f16 u16 =>
  hPick  (demK (demK r12)) (demK r16) (.c (.p (pB false))) f16 u16 (fun r17 f17 u17 =>
  headK (demK r17) (fun v4 => k .normal [(4, v4)] f17 u17))))))))))))))))) (chkD (.call 6) false [] [])

noncomputable def s4 : KS := fun B C n => seqK (q4_0 B C) (seqK (seqK (q4_1 B C) (condK (.t 16) (seqK (q4_2 B C) (retK)) (skipK))) (seqK (q4_3 B C) (seqK (q4_4 B C) (seqK (q4_5 B C) (seqK (q4_6 B C) (retK))))))
theorem s4_eq (B : Sy) (C : Go.ScE.Callee) (n : Nat) : s4 B C n = evS B C n x4.body := by kernel_rfl

noncomputable def q5_0 (B : Sy) (C : Go.ScE.Callee) : Env → Fram → List Fram → KX → R0 := fun e fr up k =>
  headK (look' 0 e) (fun v0 => k .normal [(0, v0)] fr up)

noncomputable def q5_1 (B : Sy) (C : Go.ScE.Callee) : Env → Fram → List Fram → KX → R0 := fun e fr up k =>
  headK (look' 0 e) (fun v0 => headK (.c (.p (pI 30001))) (fun v3 => k .normal [(0, v0), (3, v3)] fr up))

noncomputable def q5_2 (B : Sy) (C : Go.ScE.Callee) : Env → Fram → List Fram → KX → R0 := fun e fr up k =>
  headK (look' 0 e) (fun v0 => headK (look' 3 e) (fun v3 => headK (.c (.p (pI 0))) (fun v4 => k .normal [(0, v0), (3, v3), (4, v4)] fr up)))

noncomputable def q5_3 (B : Sy) (C : Go.ScE.Callee) : Env → Fram → List Fram → KX → R0 := fun e fr up k =>
  hLenLS B  (demK (demK (look' 0 e))) fr up (fun r2 f2 u2 =>
  hBinS B .lss false (demK (demK (look' 4 e))) (demK r2) f2 u2 (fun r3 f3 u3 =>
  guardK true (demK r3) (fun K => K (demK (look' 3 e)) f3 u3) f3 u3 (fun r5 f5 u5 =>
  guardK true (demK r3) (fun K => hBinS B .gtr false (demK r5) (.c (.p (pI 0))) f5 u5 K) f5 u5 (fun r6 f6 u6 =>
  hPick  (demK (demK r3)) (demK r6) (.c (.p (pB false))) f6 u6 (fun r7 f7 u7 =>
  headK (look' 0 e) (fun v0 => headK (look' 3 e) (fun v3 => headK (look' 4 e) (fun v4 => headK r7 (fun v12 => k .normal [(0, v0), (3, v3), (4, v4), (12, v12)] f7 u7)))))))))

noncomputable def q5_4 (B : Sy) (C : Go.ScE.Callee) : Env → Fram → List Fram → KX → R0 := fun e fr up k =>
  hIaS B 4 (demK (demK (look' 0 e))) (demK (demK (look' 4 e))) fr up (fun r2 f2 u2 =>
  hLdS B true 4 false (demK r2) f2 u2 (fun r3 f3 u3 =>
  hCall C 14 [r3, (demK (demK (look' 3 e)))] f3 u3 (fun r5 f5 u5 =>
  headK (look' 0 e) (fun v0 => headK (demK r5) (fun v3 => headK (look' 4 e) (fun v4 => k .normal [(0, v0), (3, v3), (4, v4)] f5 u5))))))

noncomputable def q5_5 (B : Sy) (C : Go.ScE.Callee) : Env → Fram → List Fram → KX → R0 := fun e fr up k =>
  hBinS B .add false (demK (demK (look' 4 e))) (.c (.p (pI 1))) fr up (fun r1 f1 u1 =>
  headK (look' 0 e) (fun v0 => headK (look' 3 e) (fun v3 => headK (demK r1) (fun v4 => k .normal [(0, v0), (3, v3), (4, v4)] f1 u1))))

noncomputable def q5_6 (B : Sy) (C : Go.ScE.Callee) : Env → Fram → List Fram → KX → R0 := fun e fr up k =>
  hBinS B .eql false (demK (demK (look' 3 e))) (.c (.p (pI 0))) fr up (fun r1 f1 u1 =>
  headK (demK r1) (fun v2 => k .normal [(2, v2)] f1 u1))

noncomputable def s5 : KS := fun B C n => seqK (q5_0 B C) (seqK (q5_1 B C) (seqK (seqK (q5_2 B C) (blockK 0 (loopsK [0, 3, 4] [] (seqK (seqK (q5_3 B C) (condK (.t 12) (skipK) (exitK 0))) (seqK (blockK 1 (q5_4 B C)) (q5_5 B C))) n))) (seqK (q5_6 B C) (retK))))
theorem s5_eq (B : Sy) (C : Go.ScE.Callee) (n : Nat) : s5 B C n = evS B C n x5.body := by kernel_rfl

noncomputable def q6_0 (B : Sy) (C : Go.ScE.Callee) : Env → Fram → List Fram → KX → R0 := fun e fr up k =>
  k .normal [] fr up

noncomputable def q6_1 (B : Sy) (C : Go.ScE.Callee) : Env → Fram → List Fram → KX → R0 := fun e fr up k =>
  hBld [(pI 0), (pI 0), (pS []), (.sl 4 [])] [(0, 1), (2, 1)] [(.c (.p (pI 4))), (.c (.p (pS [97])))] fr up (fun r0 f0 u0 =>
  hGen C (.alloc 0 true [(pI 0), (pI 0), (pS []), (.sl 4 [])]) [] f0 u0 (fun r1 f1 u1 =>
  hStS B 4 (demK r1) r0 f1 u1 (fun r2 f2 u2 =>
  headK r1 (fun v1 => k .normal [(1, v1)] f2 u2))))

noncomputable def q6_2 (B : Sy) (C : Go.ScE.Callee) : Env → Fram → List Fram → KX → R0 := fun e fr up k =>
  hLdS B true 4 false (demK (look' 1 e)) fr up (fun r0 f0 u0 =>
  hBld [(pI 0), (pI 0), (pS []), (.sl 4 [])] [(0, 1), (2, 1)] [(.c (.p (pI 3))), (.c (.p (pS [98, 34])))] f0 u0 (fun r1 f1 u1 =>
  hBld [(pI 0), (pI 0), (pS []), (.sl 4 [])] [(0, 1), (1, 1)] [(.c (.p (pI 2))), (.c (.p (pI 32)))] f1 u1 (fun r2 f2 u2 =>
  hBlds 4 [(pI 0), (pI 0), (pS []), (.sl 4 [])] 3 [0, 1, 2] [r0, r1, r2] f2 u2 (fun r3 f3 u3 =>
  hBld [(pI 0), (pI 0), (pS []), (.sl 4 [])] [(0, 1), (3, 1)] [(.c (.p (pI 5))), r3] f3 u3 (fun r4 f4 u4 =>
  hGen C (.alloc 1 true [(pI 0), (pI 0), (pS []), (.sl 4 [])]) [] f4 u4 (fun r5 f5 u5 =>
  hStS B 4 (demK r5) r4 f5 u5 (fun r6 f6 u6 =>
  headK r5 (fun v2 => k .normal [(2, v2)] f6 u6))))))))

noncomputable def q6_3 (B : Sy) (C : Go.ScE.Callee) : Env → Fram → List Fram → KX → R0 := fun e fr up k =>
  hLdS B true 4 false (demK (look' 2 e)) fr up (fun r0 f0 u0 =>
  hCall C 15 [r0] f0 u0 (fun r1 f1 u1 =>
  hGen C (.ext 0) [(demK (demK r1))] f1 u1 (fun r3 f3 u3 =>
  hGen C (.ext 1) [(demK (demK r1))] f3 u3 (fun r4 f4 u4 =>
  headK (look' 2 e) (fun v2 => headK (demK r3) (fun v3 => headK (demK r4) (fun v4 => k .normal [(2, v2), (3, v3), (4, v4)] f4 u4)))))))

noncomputable def q6_4 (B : Sy) (C : Go.ScE.Callee) : Env → Fram → List Fram → KX → R0 := fun e fr up k =>
  hLdS B true 4 false (demK (look' 2 e)) fr up (fun r0 f0 u0 =>
  hCall C 16 [r0] f0 u0 (fun r1 f1 u1 =>
  hGen C (.ext 0) [(demK (demK r1))] f1 u1 (fun r3 f3 u3 =>
  hGen C (.ext 1) [(demK (demK r1))] f3 u3 (fun r4 f4 u4 =>
  headK (look' 3 e) (fun v3 => headK (look' 4 e) (fun v4 => headK (demK r3) (fun v5 => headK (demK r4) (fun v6 => k .normal [(3, v3), (4, v4), (5, v5), (6, v6)] f4 u4))))))))

noncomputable def q6_5 (B : Sy) (C : Go.ScE.Callee) : Env → Fram → List Fram → KX → R0 := fun e fr up k =>
  hBld [(pI 0), (pI 0), (pS []), (.sl 4 [])] [(0, 1), (1, 1)] [(.c (.p (pI 1))), (.c (.p (pI 1)))] fr up (fun r0 f0 u0 =>
  hBld [(pI 0), (pI 0), (pS []), (.sl 4 [])] [(0, 1), (1, 1)] [(.c (.p (pI 1))), (.c (.p (pI (-2))))] f0 u0 (fun r1 f1 u1 =>
  hBlds 4 [(pI 0), (pI 0), (pS []), (.sl 4 [])] 2 [0, 1] [r0, r1] f1 u1 (fun r2 f2 u2 =>
  hBld [(pI 0), (pI 0), (pS []), (.sl 4 [])] [(0, 1), (3, 1)] [(.c (.p (pI 6))), r2] f2 u2 (fun r3 f3 u3 =>
  hCall C 15 [r3] f3 u3 (fun r4 f4 u4 =>
  hGen C (.ext 0) [(demK (demK r4))] f4 u4 (fun r6 f6 u6 =>
  hGen C (.ext 1) [(demK (demK r4))] f6 u6 (fun r7 f7 u7 =>
  headK (look' 3 e) (fun v3 => headK (look' 4 e) (fun v4 => headK (look' 5 e) (fun v5 => headK (look' 6 e) (fun v6 => headK (demK r6) (fun v7 => headK (demK r7) (fun v8 => k .normal [(3, v3), (4, v4), (5, v5), (6, v6), (7, v7), (8, v8)] f7 u7)))))))))))))

noncomputable def q6_6 (B : Sy) (C : Go.ScE.Callee) : Env → Fram → List Fram → KX → R0 := fun e fr up k =>
  hBld [(pI 0), (pI 0), (pS []), (.sl 4 [])] [(0, 1), (2, 1)] [(.c (.p (pI 1))), (.c (.p (pS [120])))] fr up (fun r0 f0 u0 =>
  hCall C 17 [r0] f0 u0 (fun r1 f1 u1 =>
  headK (look' 3 e) (fun v3 => headK (look' 4 e) (fun v4 => headK (look' 5 e) (fun v5 => headK (look' 6 e) (fun v6 => headK (look' 7 e) (fun v7 => headK (look' 8 e) (fun v8 => headK (demK r1) (fun v9 => k .normal [(3, v3), (4, v4), (5, v5), (6, v6), (7, v7), (8, v8), (9, v9)] f1 u1)))))))))

noncomputable def q6_7 (B : Sy) (C : Go.ScE.Callee) : Env → Fram → List Fram → KX → R0 := fun e fr up k =>
  hBinS B .eql false (demK (demK (look' 3 e))) (.c (.p (pS [40, 97, 32, 34, 98, 92, 34, 34, 32, 35, 92, 115, 112, 97, 99, 101, 41]))) fr up (fun r1 f1 u1 =>
  guardK true (demK r1) (fun K => K (demK (look' 4 e)) f1 u1) f1 u1 (fun r3 f3 u3 =>
  guardK true (demK r1) (fun K => hBinS B .eql false (demK r3) (.c (.p (pI 0))) f3 u3 K) f3 u3 (fun r4 f4 u4 =>
  hPick  (demK (demK r1)) (demK r4) (.c (.p (pB false))) f4 u4 (fun r5 f5 u5 =>
  guardK true (demK r5) (fun K => K (demK (look' 5 e)) f5 u5) f5 u5 (fun r7 f7 u7 =>
  guardK true (demK r5) (fun K => hBinS B .eql false (demK r7) (.c (.p (pS [40, 97, 32, 98, 34, 32, 32, 41]))) f7 u7 K) f7 u7 (fun r8 f8 u8 =>
  hPick  (demK (demK r5)) (demK r8) (.c (.p (pB false))) f8 u8 (fun r9 f9 u9 =>
  guardK true (demK r9) (fun K => K (demK (look' 6 e)) f9 u9) f9 u9 (fun r11 f11 u11 =>
  guardK true (demK r9) (fun K => hBinS B .eql false (demK r11) (.c (.p (pI 0))) f11 u11 K) f11 u11 (fun r12 f12 u12 =>
  hPick  (demK (demK r9)) (demK r12) (.c (.p (pB false))) f12 u12 (fun r13 f13 u13 =>
  guardK true (demK r13) (fun K => K (demK (look' 7 e)) f13 u13) f13 u13 (fun r15 f15 u15 =>
  guardK true (demK r13) (fun K => hBinS B .eql false (demK r15) (.c (.p (pS [40, 49, 32, 46, 32, 45, 50, 41]))) f15 u15 K) f15 u15 (fun r16 f16 u16 =>
  hPick  (demK (demK r13)) (demK r16) (.c (.p (pB false))) f16 u16 (fun r17 f17 u17 =>
  guardK true (demK r17) (fun K => K (demK (look' 8 e)) f17 u17) f17 u17 (fun r19 f19 u19 =>
  guardK true (demK r17) (fun K => hBinS B .eql false (demK r19) (.c (.p (pI 0))) f19 u19 K) f19 u19 (fun r20 f20 u20 =>
  hPick  (demK (demK r17)) (demK r20) (.c (.p (pB false))) f20 u20 (fun r21 f21 u21 =>
  guardK true (demK r21) (fun K => K (demK (look' 9 e)) f21 u21) f21 u21 (fun r23 f23 u23 =>
  guardK true (demK r21) (fun K => hBinS B .eql false (demK r23) (.c (.p (pI 20))) f23 u23 K) f23 u23 (fun r24 f24 u24 =>
  hPick  (demK (demK r21)) (demK r24) (.c (.p (pB false))) f24 u24 (fun r25 f25 u25 =>
  guardK true (demK r25) (fun K => hCall C 18 [(.c (.p (pS [49, 43])))] f25 u25 K) f25 u25 (fun r27 f27 u27 =>
  hPick  (demK (demK r25)) (demK r27) (.c (.p (pB false))) f27 u27 (fun r28 f28 u28 =>
  guardK true (demK r28) (fun K => hCall C 18 [(.c (.p (pS [45, 53])))] f28 u28 K) f28 u28 (fun r30 f30 u30 =>
  guardK true (demK r28) (fun K => hGen C (.un .not) [(demK r30)] f30 u30 K) f30 u30 (fun r31 f31 u31 =>
  hPick  (demK (demK r28)) (demK r31) (.c (.p (pB false))) f31 u31 (fun r32 f32 u32 =>
  headK (demK r32) (fun v0 => k .normal [(0, v0)] f32 u32)))))))))))))))))))))))))

noncomputable def s6 : KS := fun B C n => seqK (q6_0 B C) (seqK (q6_1 B C) (seqK (q6_2 B C) (seqK (q6_3 B C) (seqK (q6_4 B C) (seqK (q6_5 B C) (seqK (q6_6 B C) (seqK (q6_7 B C) (retK))))))))
theorem s6_eq (B : Sy) (C : Go.ScE.Callee) (n : Nat) : s6 B C n = evS B C n x6.body := by kernel_rfl

noncomputable def q7_0 (B : Sy) (C : Go.ScE.Callee) : Env → Fram → List Fram → KX → R0 := fun e fr up k =>
  hGen C (.box 0) [(look' 0 e)] fr up (fun r0 f0 u0 =>
  hGen C (.box 1) [(look' 1 e)] f0 u0 (fun r1 f1 u1 =>
  headK r0 (fun v2 => headK r1 (fun v3 => k .normal [(2, v2), (3, v3)] f1 u1))))

noncomputable def q7_1 (B : Sy) (C : Go.ScE.Callee) : Env → Fram → List Fram → KX → R0 := fun e fr up k =>
  hFa 0 (demK (look' 2 e)) fr up (fun r0 f0 u0 =>
  hLdS B false 1 false (demK r0) f0 u0 (fun r1 f1 u1 =>
  hFa 0 (demK (look' 3 e)) f1 u1 (fun r2 f2 u2 =>
  hLdS B false 1 false (demK r2) f2 u2 (fun r3 f3 u3 =>
  hBinS B .eql false (demK r1) (demK r3) f3 u3 (fun r4 f4 u4 =>
  guardK true (demK r4) (fun K => hFa 1 (demK (look' 2 e)) f4 u4 K) f4 u4 (fun r6 f6 u6 =>
  guardK true (demK r4) (fun K => hLdS B false 1 false (demK r6) f6 u6 K) f6 u6 (fun r7 f7 u7 =>
  guardK true (demK r4) (fun K => hFa 1 (demK (look' 3 e)) f7 u7 K) f7 u7 (fun r8 f8 u8 =>
  guardK true (demK r4) (fun K => hLdS B false 1 false (demK r8) f8 u8 K) f8 u8 (fun r9 f9 u9 =>
  guardK true (demK r4) (fun K => hBinS B .eql false (demK r7) (demK r9) f9 u9 K) f9 u9 (fun r10 f10 u10 =>
  hPick  (demK (demK r4)) (demK r10) (.c (.p (pB false))) f10 u10 (fun r11 f11 u11 =>
  guardK true (demK r11) (fun K => hFa 2 (demK (look' 2 e)) f11 u11 K) f11 u11 (fun r13 f13 u13 =>
  guardK true (demK r11) (fun K => hLdS B false 1 false (demK r13) f13 u13 K) f13 u13 (fun r14 f14 u14 =>
  guardK true (demK r11) (fun K => hFa 2 (demK (look' 3 e)) f14 u14 K) f14 u14 (fun r15 f15 u15 =>
  guardK true (demK r11) (fun K => hLdS B false 1 false (demK r15) f15 u15 K) f15 u15 (fun r16 f16 u16 =>
  guardK true (demK r11) (fun K => hBinS B .eql false (demK r14) (demK r16) f16 u16 K) f16 u16 (fun r17 f17 u17 =>
  hPick  (demK (demK r11)) (demK r17) (.c (.p (pB false))) f17 u17 (fun r18 f18 u18 =>
  guardK true (demK r18) (fun K => hFa 3 (demK (look' 2 e)) f18 u18 K) f18 u18 (fun r20 f20 u20 =>
  guardK true (demK r18) (fun K => hLdS B false 1 false (demK r20) f20 u20 K) f20 u20 (fun r21 f21 u21 =>
  guardK true (demK r18) (fun K => hFa 3 (demK (look' 3 e)) f21 u21 K) f21 u21 (fun r22 f22 u22 =>
  guardK true (demK r18) (fun K => hLdS B false 1 false (demK r22) f22 u22 K) f22 u22 (fun r23 f23 u23 =>
  guardK true (demK r18) (fun K => hCall C 19 [(demK r21), (demK r23), (.c (.p (pF 7)))] f23 u23 K) f23 u23 (fun r24 f24 u24 =>
  hPick  (demK (demK r18)) (demK r24) (.c (.p (pB false))) f24 u24 (fun r25 f25 u25 =>
  headK (demK r25) (fun v4 => k .normal [(4, v4)] f25 u25))))))))))))))))))))))))

noncomputable def s7 : KS := fun B C n => seqK (q7_0 B C) (seqK (q7_1 B C) (retK))
theorem s7_eq (B : Sy) (C : Go.ScE.Callee) (n : Nat) : s7 B C n = evS B C n x7.body := by kernel_rfl

noncomputable def q8_0 (B : Sy) (C : Go.ScE.Callee) : Env → Fram → List Fram → KX → R0 := fun e fr up k =>
  hGen C (.box 0) [(look' 0 e)] fr up (fun r0 f0 u0 =>
  hGen C (.box 1) [(look' 1 e)] f0 u0 (fun r1 f1 u1 =>
  headK r0 (fun v2 => headK r1 (fun v3 => k .normal [(2, v2), (3, v3)] f1 u1))))

noncomputable def q8_1 (B : Sy) (C : Go.ScE.Callee) : Env → Fram → List Fram → KX → R0 := fun e fr up k =>
  hFa 0 (demK (look' 2 e)) fr up (fun r0 f0 u0 =>
  hLdS B false 1 false (demK r0) f0 u0 (fun r1 f1 u1 =>
  hFa 0 (demK (look' 3 e)) f1 u1 (fun r2 f2 u2 =>
  hLdS B false 1 false (demK r2) f2 u2 (fun r3 f3 u3 =>
  hBinS B .neq false (demK r1) (demK r3) f3 u3 (fun r4 f4 u4 =>
  guardK false (demK r4) (fun K => hFa 1 (demK (look' 2 e)) f4 u4 K) f4 u4 (fun r6 f6 u6 =>
  guardK false (demK r4) (fun K => hLdS B false 1 false (demK r6) f6 u6 K) f6 u6 (fun r7 f7 u7 =>
  guardK false (demK r4) (fun K => hFa 1 (demK (look' 3 e)) f7 u7 K) f7 u7 (fun r8 f8 u8 =>
  guardK false (demK r4) (fun K => hLdS B false 1 false (demK r8) f8 u8 K) f8 u8 (fun r9 f9 u9 =>
  guardK false (demK r4) (fun K => hBinS B .neq false (demK r7) (demK r9) f9 u9 K) f9 u9 (fun r10 f10 u10 =>
  hPick  (demK (demK r4)) (.c (.p (pB true))) (demK r10) f10 u10 (fun r11 f11 u11 =>
  guardK false (demK r11) (fun K => hFa 2 (demK (look' 2 e)) f11 u11 K) f11 u11 (fun r13 f13 u13 =>
  guardK false (demK r11) (fun K => hLdS B false 1 false (demK r13) f13 u13 K) f13 u13 (fun r14 f14 u14 =>
  guardK false (demK r11) (fun K => hFa 2 (demK (look' 3 e)) f14 u14 K) f14 u14 (fun r15 f15 u15 =>
  guardK false (demK r11) (fun K => hLdS B false 1 false (demK r15) f15 u15 K) f15 u15 (fun r16 f16 u16 =>
  guardK false (demK r11) (fun K => hBinS B .neq false (demK r14) (demK r16) f16 u16 K) f16 u16 (fun r17 f17 u17 =>
  hPick  (demK (demK r11)) (.c (.p (pB true))) (demK r17) f17 u17 (fun r18 f18 u18 =>
  guardK false (demK r18) (fun K => hFa 3 (demK (look' 2 e)) f18 u18 K) f18 u18 (fun r20 f20 u20 =>
  guardK false (demK r18) (fun K => hLdS B false 1 false (demK r20) f20 u20 K) f20 u20 (fun r21 f21 u21 =>
  guardK false (demK r18) (fun K => hLenLS B  (demK r21) f21 u21 K) f21 u21 (fun r22 f22 u22 =>
  guardK false (demK r18) (fun K => hFa 3 (demK (look' 3 e)) f22 u22 K) f22 u22 (fun r23 f23 u23 =>
  guardK false (demK r18) (fun K => hLdS B false 1 false (demK r23) f23 u23 K) f23 u23 (fun r24 f24 u24 =>
  guardK false (demK r18) (fun K => hLenLS B  (demK r24) f24 u24 K) f24 u24 (fun r25 f25 u25 =>
  guardK false (demK r18) (fun K => hBinS B .neq false (demK r22) (demK r25) f25 u25 K) f25 u25 (fun r26 f26 u26 =>
  hPick  (demK (demK r18)) (.c (.p (pB true))) (demK r26) f26 u26 (fun r27 f27 u27 =>
  headK (look' 2 e) (fun v2 => headK (look' 3 e) (fun v3 => headK r27 (fun v33 => k .normal [(2, v2), (3, v3), (33, v33)] f27 u27))))))))))))))))))))))))))))

noncomputable def q8_2 (B : Sy) (C : Go.ScE.Callee) : Env → Fram → List Fram → KX → R0 := fun e fr up k =>
  headK (.c (.p (pB false))) (fun v4 => k .normal [(4, v4)] fr up)

noncomputable def q8_3 (B : Sy) (C : Go.ScE.Callee) : Env → Fram → List Fram → KX → R0 := fun e fr up k =>
  headK (look' 2 e) (fun v2 => headK (look' 3 e) (fun v3 => headK (.c (.p (pI 0))) (fun v5 => k .normal [(2, v2), (3, v3), (5, v5)] fr up)))

noncomputable def q8_4 (B : Sy) (C : Go.ScE.Callee) : Env → Fram → List Fram → KX → R0 := fun e fr up k =>
  hFa 3 (demK (look' 2 e)) fr up (fun r1 f1 u1 =>
  hLdS B false 1 false (demK r1) f1 u1 (fun r2 f2 u2 =>
  hLenLS B  (demK r2) f2 u2 (fun r3 f3 u3 =>
  hBinS B .lss false (demK (demK (look' 5 e))) (demK r3) f3 u3 (fun r4 f4 u4 =>
  headK (look' 2 e) (fun v2 => headK (look' 3 e) (fun v3 => headK (look' 5 e) (fun v5 => headK r4 (fun v38 => k .normal [(2, v2), (3, v3), (5, v5), (38, v38)] f4 u4))))))))

noncomputable def q8_5 (B : Sy) (C : Go.ScE.Callee) : Env → Fram → List Fram → KX → R0 := fun e fr up k =>
  hFa 3 (demK (look' 2 e)) fr up (fun r0 f0 u0 =>
  hLdS B false 1 false (demK r0) f0 u0 (fun r1 f1 u1 =>
  hIaS B 4 (demK r1) (demK (demK (look' 5 e))) f1 u1 (fun r3 f3 u3 =>
  hLdS B true 4 false (demK r3) f3 u3 (fun r4 f4 u4 =>
  hFa 3 (demK (look' 3 e)) f4 u4 (fun r5 f5 u5 =>
  hLdS B false 1 false (demK r5) f5 u5 (fun r6 f6 u6 =>
  hIaS B 4 (demK r6) (demK (demK (look' 5 e))) f6 u6 (fun r8 f8 u8 =>
  hLdS B true 4 false (demK r8) f8 u8 (fun r9 f9 u9 =>
  Bool.rec (motive := fun _ => R0) fail0 (hCall C 8 [r4, r9] f9 u9 (fun r10 f10 u10 =>
  hGen C (.un .not) [(demK r10)] f10 u10 (fun r11 f11 u11 =>
  headK (look' 2 e) (fun v2 => headK (look' 3 e) (fun v3 => headK (look' 5 e) (fun v5 => headK r11 (fun v52 => k .normal [(2, v2), (3, v3), (5, v5), (52, v52)] f11 u11))))))) (chkD (.call 8) false [] [r4, r9])))))))))

noncomputable def q8_6 (B : Sy) (C : Go.ScE.Callee) : Env → Fram → List Fram → KX → R0 := fun e fr up k =>
  headK (.c (.p (pB false))) (fun v4 => k .normal [(4, v4)] fr up)

noncomputable def q8_7 (B : Sy) (C : Go.ScE.Callee) : Env → Fram → List Fram → KX → R0 := fun e fr up k =>
  hBinS B .add false (demK (demK (look' 5 e))) (.c (.p (pI 1))) fr up (fun r1 f1 u1 =>
  headK (look' 2 e) (fun v2 => headK (look' 3 e) (fun v3 => headK (demK r1) (fun v5 => k .normal [(2, v2), (3, v3), (5, v5)] f1 u1))))

noncomputable def q8_8 (B : Sy) (C : Go.ScE.Callee) : Env → Fram → List Fram → KX → R0 := fun e fr up k =>
  headK (.c (.p (pB true))) (fun v4 => k .normal [(4, v4)] fr up)

noncomputable def s8 : KS := fun B C n => seqK (q8_0 B C) (seqK (seqK (q8_1 B C) (condK (.t 33) (seqK (q8_2 B C) (retK)) (skipK))) (seqK (seqK (q8_3 B C) (blockK 0 (loopsK [2, 3, 5] [0, 1] (seqK (seqK (q8_4 B C) (condK (.t 38) (skipK) (exitK 0))) (seqK (blockK 1 (seqK (q8_5 B C) (condK (.t 52) (seqK (q8_6 B C) (retK)) (skipK)))) (q8_7 B C))) n))) (seqK (q8_8 B C) (retK))))
theorem s8_eq (B : Sy) (C : Go.ScE.Callee) (n : Nat) : s8 B C n = evS B C n x8.body := by kernel_rfl

noncomputable def q9_0 (B : Sy) (C : Go.ScE.Callee) : Env → Fram → List Fram → KX → R0 := fun e fr up k =>
  hGen C (.box 0) [(look' 1 e)] fr up (fun r0 f0 u0 =>
  hGen C (.alloc 1 true [(pI 0), (pI 0), (pS []), (.sl 4 [])]) [] f0 u0 (fun r1 f1 u1 =>
  headK (look' 0 e) (fun v0 => headK r0 (fun v3 => headK r1 (fun v4 => k .normal [(0, v0), (3, v3), (4, v4)] f1 u1)))))

noncomputable def q9_1 (B : Sy) (C : Go.ScE.Callee) : Env → Fram → List Fram → KX → R0 := fun e fr up k =>
  hLenLS B  (demK (demK (look' 0 e))) fr up (fun r1 f1 u1 =>
  hBinS B .eql false (demK r1) (.c (.p (pI 0))) f1 u1 (fun r2 f2 u2 =>
  headK (look' 0 e) (fun v0 => headK (look' 3 e) (fun v3 => headK (look' 4 e) (fun v4 => headK r2 (fun v7 => k .normal [(0, v0), (3, v3), (4, v4), (7, v7)] f2 u2))))))

noncomputable def q9_2 (B : Sy) (C : Go.ScE.Callee) : Env → Fram → List Fram → KX → R0 := fun e fr up k =>
  hLdS B true 4 false (demK (look' 3 e)) fr up (fun r0 f0 u0 =>
  hCall C 20 [r0] f0 u0 (fun r1 f1 u1 =>
  hStS B 4 (demK (look' 4 e)) r1 f1 u1 (fun r2 f2 u2 =>
  headK (look' 4 e) (fun v4 => k .normal [(4, v4)] f2 u2))))

noncomputable def q9_3 (B : Sy) (C : Go.ScE.Callee) : Env → Fram → List Fram → KX → R0 := fun e fr up k =>
  hFa 0 (demK (look' 3 e)) fr up (fun r0 f0 u0 =>
  hLdS B false 1 false (demK r0) f0 u0 (fun r1 f1 u1 =>
  hBinS B .eql false (demK r1) (.c (.p (pI 5))) f1 u1 (fun r2 f2 u2 =>
  guardK false (demK r2) (fun K => hFa 0 (demK (look' 3 e)) f2 u2 K) f2 u2 (fun r4 f4 u4 =>
  guardK false (demK r2) (fun K => hLdS B false 1 false (demK r4) f4 u4 K) f4 u4 (fun r5 f5 u5 =>
  guardK false (demK r2) (fun K => hBinS B .eql false (demK r5) (.c (.p (pI 6))) f5 u5 K) f5 u5 (fun r6 f6 u6 =>
  hPick  (demK (demK r2)) (.c (.p (pB true))) (demK r6) f6 u6 (fun r7 f7 u7 =>
  headK (look' 0 e) (fun v0 => headK (look' 3 e) (fun v3 => headK (look' 4 e) (fun v4 => headK r7 (fun v17 => k .normal [(0, v0), (3, v3), (4, v4), (17, v17)] f7 u7)))))))))))

noncomputable def q9_4 (B : Sy) (C : Go.ScE.Callee) : Env → Fram → List Fram → KX → R0 := fun e fr up k =>
  hFa 0 (demK (look' 3 e)) fr up (fun r0 f0 u0 =>
  hLdS B false 1 false (demK r0) f0 u0 (fun r1 f1 u1 =>
  Bool.rec (motive := fun _ => R0) fail0 (hCall C 21 [(look' 0 e)] f1 u1 (fun r3 f3 u3 =>
  hFa 3 (demK (look' 3 e)) f3 u3 (fun r4 f4 u4 =>
  hLdS B false 1 false (demK r4) f4 u4 (fun r5 f5 u5 =>
  Bool.rec (motive := fun _ => R0) fail0 (hCall C 21 [r5] f5 u5 (fun r6 f6 u6 =>
  hApp 4 56 r3 (demK r6) f6 u6 (fun r7 f7 u7 =>
  hBld [(pI 0), (pI 0), (pS []), (.sl 4 [])] [(0, 1), (3, 1)] [(demK r1), r7] f7 u7 (fun r8 f8 u8 =>
  hStS B 4 (demK (look' 4 e)) r8 f8 u8 (fun r9 f9 u9 =>
  headK (look' 4 e) (fun v4 => k .normal [(4, v4)] f9 u9)))))) (chkD (.call 21) false [] [r5]))))) (chkD (.call 21) false [] [(look' 0 e)])))

noncomputable def q9_5 (B : Sy) (C : Go.ScE.Callee) : Env → Fram → List Fram → KX → R0 := fun e fr up k =>
  Bool.rec (motive := fun _ => R0) fail0 (hCall C 21 [(look' 0 e)] fr up (fun r1 f1 u1 =>
  hLdS B true 4 false (demK (look' 3 e)) f1 u1 (fun r2 f2 u2 =>
  Bool.rec (motive := fun _ => R0) fail0 (hCall C 20 [r2] f2 u2 (fun r3 f3 u3 =>
  hBlds 4 [(pI 0), (pI 0), (pS []), (.sl 4 [])] 1 [0] [r3] f3 u3 (fun r4 f4 u4 =>
  hApp 4 56 r1 (demK r4) f4 u4 (fun r5 f5 u5 =>
  hBld [(pI 0), (pI 0), (pS []), (.sl 4 [])] [(0, 1), (3, 1)] [(.c (.p (pI 6))), r5] f5 u5 (fun r6 f6 u6 =>
  hStS B 4 (demK (look' 4 e)) r6 f6 u6 (fun r7 f7 u7 =>
  headK (look' 4 e) (fun v4 => k .normal [(4, v4)] f7 u7))))))) (chkD (.call 20) false [] [r2])))) (chkD (.call 21) false [] [(look' 0 e)])

noncomputable def s9 : KS := fun B C n => seqK (q9_0 B C) (seqK (seqK (q9_1 B C) (condK (.t 7) (seqK (q9_2 B C) (retK)) (skipK))) (seqK (seqK (q9_3 B C) (condK (.t 17) (seqK (q9_4 B C) (retK)) (skipK))) (seqK (q9_5 B C) (retK))))
theorem s9_eq (B : Sy) (C : Go.ScE.Callee) (n : Nat) : s9 B C n = evS B C n x9.body := by kernel_rfl

noncomputable def q10_0 (B : Sy) (C : Go.ScE.Callee) : Env → Fram → List Fram → KX → R0 := fun e fr up k =>
  hGen C (.box 0) [(look' 0 e)] fr up (fun r0 f0 u0 =>
  hGen C (.alloc 1 true [(pI 0), (pI 0), (pS []), (.sl 4 [])]) [] f0 u0 (fun r2 f2 u2 =>
  headK r0 (fun v1 => headK r2 (fun v3 => k .normal [(1, v1), (3, v3)] f2 u2))))

noncomputable def q10_1 (B : Sy) (C : Go.ScE.Callee) : Env → Fram → List Fram → KX → R0 := fun e fr up k =>
  hFa 0 (demK (look' 1 e)) fr up (fun r0 f0 u0 =>
  hLdS B false 1 false (demK r0) f0 u0 (fun r1 f1 u1 =>
  hBinS B .eql false (demK r1) (.c (.p (pI 5))) f1 u1 (fun r2 f2 u2 =>
  headK (look' 1 e) (fun v1 => headK (look' 3 e) (fun v3 => headK r2 (fun v7 => k .normal [(1, v1), (3, v3), (7, v7)] f2 u2))))))

noncomputable def q10_2 (B : Sy) (C : Go.ScE.Callee) : Env → Fram → List Fram → KX → R0 := fun e fr up k =>
  hFa 3 (demK (look' 1 e)) fr up (fun r0 f0 u0 =>
  hLdS B false 1 false (demK r0) f0 u0 (fun r1 f1 u1 =>
  hCall C 21 [r1] f1 u1 (fun r2 f2 u2 =>
  hBld [(pI 0), (pI 0), (pS []), (.sl 4 [])] [(0, 1)] [(.c (.p (pI 5)))] f2 u2 (fun r3 f3 u3 =>
  hStS B 4 (demK (look' 3 e)) r3 f3 u3 (fun r5 f5 u5 =>
  headK r2 (fun v2 => headK (look' 3 e) (fun v3 => k .normal [(2, v2), (3, v3)] f5 u5)))))))

noncomputable def q10_3 (B : Sy) (C : Go.ScE.Callee) : Env → Fram → List Fram → KX → R0 := fun e fr up k =>
  hFa 3 (demK (look' 1 e)) fr up (fun r0 f0 u0 =>
  hLdS B false 1 false (demK r0) f0 u0 (fun r1 f1 u1 =>
  hLenLS B  (demK r1) f1 u1 (fun r2 f2 u2 =>
  headK (look' 1 e) (fun v1 => headK (look' 3 e) (fun v3 => headK (demK r2) (fun v4 => k .normal [(1, v1), (3, v3), (4, v4)] f2 u2))))))

noncomputable def q10_4 (B : Sy) (C : Go.ScE.Callee) : Env → Fram → List Fram → KX → R0 := fun e fr up k =>
  hFa 0 (demK (look' 1 e)) fr up (fun r0 f0 u0 =>
  hLdS B false 1 false (demK r0) f0 u0 (fun r1 f1 u1 =>
  hBinS B .eql false (demK r1) (.c (.p (pI 6))) f1 u1 (fun r2 f2 u2 =>
  guardK true (demK r2) (fun K => K (demK (look' 4 e)) f2 u2) f2 u2 (fun r4 f4 u4 =>
  guardK true (demK r2) (fun K => hBinS B .gtr false (demK r4) (.c (.p (pI 0))) f4 u4 K) f4 u4 (fun r5 f5 u5 =>
  hPick  (demK (demK r2)) (demK r5) (.c (.p (pB false))) f5 u5 (fun r6 f6 u6 =>
  headK (look' 1 e) (fun v1 => headK (look' 3 e) (fun v3 => headK (look' 4 e) (fun v4 => headK r6 (fun v21 => k .normal [(1, v1), (3, v3), (4, v4), (21, v21)] f6 u6))))))))))

noncomputable def q10_5 (B : Sy) (C : Go.ScE.Callee) : Env → Fram → List Fram → KX → R0 := fun e fr up k =>
  hFa 3 (demK (look' 1 e)) fr up (fun r0 f0 u0 =>
  hLdS B false 1 false (demK r0) f0 u0 (fun r1 f1 u1 =>
  hBinS B .sub false (demK (demK (look' 4 e))) (.c (.p (pI 1))) f1 u1 (fun r3 f3 u3 =>
  hGen C (.slL 4 false true) [(demK r1), (demK r3)] f3 u3 (fun r4 f4 u4 =>
  Bool.rec (motive := fun _ => R0) fail0 (hCall C 21 [r4] f4 u4 (fun r5 f5 u5 =>
  hFa 3 (demK (look' 1 e)) f5 u5 (fun r6 f6 u6 =>
  hLdS B false 1 false (demK r6) f6 u6 (fun r7 f7 u7 =>
  hBinS B .sub false (demK (demK (look' 4 e))) (.c (.p (pI 1))) f7 u7 (fun r9 f9 u9 =>
  hIaS B 4 (demK r7) (demK r9) f9 u9 (fun r10 f10 u10 =>
  hLdS B true 4 false (demK r10) f10 u10 (fun r11 f11 u11 =>
  Bool.rec (motive := fun _ => R0) fail0 (hCall C 20 [r11] f11 u11 (fun r12 f12 u12 =>
  hStS B 4 (demK (look' 3 e)) r12 f12 u12 (fun r14 f14 u14 =>
  headK r5 (fun v2 => headK (look' 3 e) (fun v3 => k .normal [(2, v2), (3, v3)] f14 u14))))) (chkD (.call 20) false [] [r11])))))))) (chkD (.call 21) false [] [r4])))))

noncomputable def q10_6 (B : Sy) (C : Go.ScE.Callee) : Env → Fram → List Fram → KX → R0 := fun e fr up k =>
  hLdS B true 4 false (demK (look' 1 e)) fr up (fun r0 f0 u0 =>
  hCall C 20 [r0] f0 u0 (fun r1 f1 u1 =>
  hStS B 4 (demK (look' 3 e)) r1 f1 u1 (fun r3 f3 u3 =>
  headK (.c (.own 4 [])) (fun v2 => headK (look' 3 e) (fun v3 => k .normal [(2, v2), (3, v3)] f3 u3)))))

noncomputable def s10 : KS := fun B C n => seqK (q10_0 B C) (seqK (seqK (q10_1 B C) (condK (.t 7) (seqK (q10_2 B C) (retK)) (skipK))) (seqK (seqK (q10_3 B C) (seqK (q10_4 B C) (condK (.t 21) (seqK (q10_5 B C) (retK)) (skipK)))) (seqK (q10_6 B C) (retK))))
theorem s10_eq (B : Sy) (C : Go.ScE.Callee) (n : Nat) : s10 B C n = evS B C n x10.body := by kernel_rfl

noncomputable def q11_0 (B : Sy) (C : Go.ScE.Callee) : Env → Fram → List Fram → KX → R0 := fun e fr up k =>
  hGen C (.box 0) [(look' 0 e)] fr up (fun r0 f0 u0 =>
  hGen C (.alloc 1 true [(pI 0), (pI 0), (pS []), (.sl 4 [])]) [] f0 u0 (fun r2 f2 u2 =>
  headK r0 (fun v1 => headK r2 (fun v3 => k .normal [(1, v1), (3, v3)] f2 u2))))

noncomputable def q11_1 (B : Sy) (C : Go.ScE.Callee) : Env → Fram → List Fram → KX → R0 := fun e fr up k =>
  hFa 3 (demK (look' 1 e)) fr up (fun r0 f0 u0 =>
  hLdS B false 1 false (demK r0) f0 u0 (fun r1 f1 u1 =>
  hLenLS B  (demK r1) f1 u1 (fun r2 f2 u2 =>
  headK (look' 1 e) (fun v1 => headK (look' 3 e) (fun v3 => headK (demK r2) (fun v4 => k .normal [(1, v1), (3, v3), (4, v4)] f2 u2))))))

noncomputable def q11_2 (B : Sy) (C : Go.ScE.Callee) : Env → Fram → List Fram → KX → R0 := fun e fr up k =>
  hFa 0 (demK (look' 1 e)) fr up (fun r0 f0 u0 =>
  hLdS B false 1 false (demK r0) f0 u0 (fun r1 f1 u1 =>
  hBinS B .eql false (demK r1) (.c (.p (pI 5))) f1 u1 (fun r2 f2 u2 =>
  headK (look' 1 e) (fun v1 => headK (look' 3 e) (fun v3 => headK (look' 4 e) (fun v4 => headK r2 (fun v10 => k .normal [(1, v1), (3, v3), (4, v4), (10, v10)] f2 u2)))))))

noncomputable def q11_3 (B : Sy) (C : Go.ScE.Callee) : Env → Fram → List Fram → KX → R0 := fun e fr up k =>
  hFa 3 (demK (look' 1 e)) fr up (fun r0 f0 u0 =>
  hLdS B false 1 false (demK r0) f0 u0 (fun r1 f1 u1 =>
  hBld [(pI 0), (pI 0), (pS []), (.sl 4 [])] [(0, 1)] [(.c (.p (pI 5)))] f1 u1 (fun r2 f2 u2 =>
  hStS B 4 (demK (look' 3 e)) r2 f2 u2 (fun r4 f4 u4 =>
  headK r1 (fun v2 => headK (look' 3 e) (fun v3 => k .normal [(2, v2), (3, v3)] f4 u4))))))

noncomputable def q11_4 (B : Sy) (C : Go.ScE.Callee) : Env → Fram → List Fram → KX → R0 := fun e fr up k =>
  hFa 0 (demK (look' 1 e)) fr up (fun r0 f0 u0 =>
  hLdS B false 1 false (demK r0) f0 u0 (fun r1 f1 u1 =>
  hBinS B .eql false (demK r1) (.c (.p (pI 6))) f1 u1 (fun r2 f2 u2 =>
  guardK true (demK r2) (fun K => K (demK (look' 4 e)) f2 u2) f2 u2 (fun r4 f4 u4 =>
  guardK true (demK r2) (fun K => hBinS B .gtr false (demK r4) (.c (.p (pI 0))) f4 u4 K) f4 u4 (fun r5 f5 u5 =>
  hPick  (demK (demK r2)) (demK r5) (.c (.p (pB false))) f5 u5 (fun r6 f6 u6 =>
  headK (look' 1 e) (fun v1 => headK (look' 3 e) (fun v3 => headK (look' 4 e) (fun v4 => headK r6 (fun v20 => k .normal [(1, v1), (3, v3), (4, v4), (20, v20)] f6 u6))))))))))

noncomputable def q11_5 (B : Sy) (C : Go.ScE.Callee) : Env → Fram → List Fram → KX → R0 := fun e fr up k =>
  hFa 3 (demK (look' 1 e)) fr up (fun r0 f0 u0 =>
  hLdS B false 1 false (demK r0) f0 u0 (fun r1 f1 u1 =>
  hBinS B .sub false (demK (demK (look' 4 e))) (.c (.p (pI 1))) f1 u1 (fun r3 f3 u3 =>
  hGen C (.slL 4 false true) [(demK r1), (demK r3)] f3 u3 (fun r4 f4 u4 =>
  hFa 3 (demK (look' 1 e)) f4 u4 (fun r5 f5 u5 =>
  hLdS B false 1 false (demK r5) f5 u5 (fun r6 f6 u6 =>
  hBinS B .sub false (demK (demK (look' 4 e))) (.c (.p (pI 1))) f6 u6 (fun r8 f8 u8 =>
  hIaS B 4 (demK r6) (demK r8) f8 u8 (fun r9 f9 u9 =>
  hLdS B true 4 false (demK r9) f9 u9 (fun r10 f10 u10 =>
  hStS B 4 (demK (look' 3 e)) r10 f10 u10 (fun r12 f12 u12 =>
  headK r4 (fun v2 => headK (look' 3 e) (fun v3 => k .normal [(2, v2), (3, v3)] f12 u12))))))))))))

noncomputable def q11_6 (B : Sy) (C : Go.ScE.Callee) : Env → Fram → List Fram → KX → R0 := fun e fr up k =>
  hLdS B true 4 false (demK (look' 1 e)) fr up (fun r0 f0 u0 =>
  hStS B 4 (demK (look' 3 e)) r0 f0 u0 (fun r2 f2 u2 =>
  headK (.c (.own 4 [])) (fun v2 => headK (look' 3 e) (fun v3 => k .normal [(2, v2), (3, v3)] f2 u2))))

noncomputable def s11 : KS := fun B C n => seqK (q11_0 B C) (seqK (q11_1 B C) (seqK (seqK (q11_2 B C) (condK (.t 10) (seqK (q11_3 B C) (retK)) (skipK))) (seqK (seqK (q11_4 B C) (condK (.t 20) (seqK (q11_5 B C) (retK)) (skipK))) (seqK (q11_6 B C) (retK)))))
theorem s11_eq (B : Sy) (C : Go.ScE.Callee) (n : Nat) : s11 B C n = evS B C n x11.body := by kernel_rfl

noncomputable def q12_0 (B : Sy) (C : Go.ScE.Callee) : Env → Fram → List Fram → KX → R0 := fun e fr up k =>
  hGen C (.box 0) [(look' 1 e)] fr up (fun r0 f0 u0 =>
  hGen C (.alloc 1 true [(pI 0), (pI 0), (pS []), (.sl 4 [])]) [] f0 u0 (fun r1 f1 u1 =>
  headK (look' 0 e) (fun v0 => headK r0 (fun v3 => headK r1 (fun v4 => k .normal [(0, v0), (3, v3), (4, v4)] f1 u1)))))

noncomputable def q12_1 (B : Sy) (C : Go.ScE.Callee) : Env → Fram → List Fram → KX → R0 := fun e fr up k =>
  hLenLS B  (demK (demK (look' 0 e))) fr up (fun r1 f1 u1 =>
  hBinS B .eql false (demK r1) (.c (.p (pI 0))) f1 u1 (fun r2 f2 u2 =>
  headK (look' 0 e) (fun v0 => headK (look' 3 e) (fun v3 => headK (look' 4 e) (fun v4 => headK r2 (fun v8 => k .normal [(0, v0), (3, v3), (4, v4), (8, v8)] f2 u2))))))

noncomputable def q12_2 (B : Sy) (C : Go.ScE.Callee) : Env → Fram → List Fram → KX → R0 := fun e fr up k =>
  hLdS B true 4 false (demK (look' 3 e)) fr up (fun r0 f0 u0 =>
  hStS B 4 (demK (look' 4 e)) r0 f0 u0 (fun r1 f1 u1 =>
  headK (look' 4 e) (fun v4 => k .normal [(4, v4)] f1 u1)))

noncomputable def q12_3 (B : Sy) (C : Go.ScE.Callee) : Env → Fram → List Fram → KX → R0 := fun e fr up k =>
  hBlds 4 [(pI 0), (pI 0), (pS []), (.sl 4 [])] 0 [] [] fr up (fun r0 f0 u0 =>
  hApp 4 56 r0 (demK (look' 0 e)) f0 u0 (fun r2 f2 u2 =>
  headK (look' 3 e) (fun v3 => headK (look' 4 e) (fun v4 => headK r2 (fun v5 => k .normal [(3, v3), (4, v4), (5, v5)] f2 u2)))))

noncomputable def q12_4 (B : Sy) (C : Go.ScE.Callee) : Env → Fram → List Fram → KX → R0 := fun e fr up k =>
  hFa 0 (demK (look' 3 e)) fr up (fun r0 f0 u0 =>
  hLdS B false 1 false (demK r0) f0 u0 (fun r1 f1 u1 =>
  hBinS B .eql false (demK r1) (.c (.p (pI 5))) f1 u1 (fun r2 f2 u2 =>
  guardK false (demK r2) (fun K => hFa 0 (demK (look' 3 e)) f2 u2 K) f2 u2 (fun r4 f4 u4 =>
  guardK false (demK r2) (fun K => hLdS B false 1 false (demK r4) f4 u4 K) f4 u4 (fun r5 f5 u5 =>
  guardK false (demK r2) (fun K => hBinS B .eql false (demK r5) (.c (.p (pI 6))) f5 u5 K) f5 u5 (fun r6 f6 u6 =>
  hPick  (demK (demK r2)) (.c (.p (pB true))) (demK r6) f6 u6 (fun r7 f7 u7 =>
  headK (look' 3 e) (fun v3 => headK (look' 4 e) (fun v4 => headK (look' 5 e) (fun v5 => headK r7 (fun v20 => k .normal [(3, v3), (4, v4), (5, v5), (20, v20)] f7 u7)))))))))))

noncomputable def q12_5 (B : Sy) (C : Go.ScE.Callee) : Env → Fram → List Fram → KX → R0 := fun e fr up k =>
  hFa 0 (demK (look' 3 e)) fr up (fun r0 f0 u0 =>
  hLdS B false 1 false (demK r0) f0 u0 (fun r1 f1 u1 =>
  hFa 3 (demK (look' 3 e)) f1 u1 (fun r3 f3 u3 =>
  hLdS B false 1 false (demK r3) f3 u3 (fun r4 f4 u4 =>
  hApp 4 56 (look' 5 e) (demK r4) f4 u4 (fun r5 f5 u5 =>
  hBld [(pI 0), (pI 0), (pS []), (.sl 4 [])] [(0, 1), (3, 1)] [(demK r1), r5] f5 u5 (fun r6 f6 u6 =>
  hStS B 4 (demK (look' 4 e)) r6 f6 u6 (fun r7 f7 u7 =>
  headK (look' 4 e) (fun v4 => k .normal [(4, v4)] f7 u7))))))))

noncomputable def q12_6 (B : Sy) (C : Go.ScE.Callee) : Env → Fram → List Fram → KX → R0 := fun e fr up k =>
  hLdS B true 4 false (demK (look' 3 e)) fr up (fun r1 f1 u1 =>
  hBlds 4 [(pI 0), (pI 0), (pS []), (.sl 4 [])] 1 [0] [r1] f1 u1 (fun r2 f2 u2 =>
  hApp 4 56 (look' 5 e) (demK r2) f2 u2 (fun r3 f3 u3 =>
  hBld [(pI 0), (pI 0), (pS []), (.sl 4 [])] [(0, 1), (3, 1)] [(.c (.p (pI 6))), r3] f3 u3 (fun r4 f4 u4 =>
  hStS B 4 (demK (look' 4 e)) r4 f4 u4 (fun r5 f5 u5 =>
  headK (look' 4 e) (fun v4 => k .normal [(4, v4)] f5 u5))))))

noncomputable def s12 : KS := fun B C n => seqK (q12_0 B C) (seqK (seqK (q12_1 B C) (condK (.t 8) (seqK (q12_2 B C) (retK)) (skipK))) (seqK (q12_3 B C) (seqK (seqK (q12_4 B C) (condK (.t 20) (seqK (q12_5 B C) (retK)) (skipK))) (seqK (q12_6 B C) (retK)))))
theorem s12_eq (B : Sy) (C : Go.ScE.Callee) (n : Nat) : s12 B C n = evS B C n x12.body := by kernel_rfl

noncomputable def q13_0 (B : Sy) (C : Go.ScE.Callee) : Env → Fram → List Fram → KX → R0 := fun e fr up k =>
  headK (look' 0 e) (fun v0 => headK (look' 1 e) (fun v1 => k .normal [(0, v0), (1, v1)] fr up))

noncomputable def q13_1 (B : Sy) (C : Go.ScE.Callee) : Env → Fram → List Fram → KX → R0 := fun e fr up k =>
  hBld [(pI 0), (pI 0), (pS []), (.sl 4 [])] [(3, 1)] [(look' 0 e)] fr up (fun r1 f1 u1 =>
  hBld [(pI 0), (pI 0), (pS []), (.sl 4 [])] [(3, 1)] [(look' 1 e)] f1 u1 (fun r3 f3 u3 =>
  hCall C 8 [r1, r3] f3 u3 (fun r4 f4 u4 =>
  headK (demK r4) (fun v4 => k .normal [(4, v4)] f4 u4))))

noncomputable def s13 : KS := fun B C n => seqK (q13_0 B C) (seqK (q13_1 B C) (retK))
theorem s13_eq (B : Sy) (C : Go.ScE.Callee) (n : Nat) : s13 B C n = evS B C n x13.body := by kernel_rfl

noncomputable def q14_0 (B : Sy) (C : Go.ScE.Callee) : Env → Fram → List Fram → KX → R0 := fun e fr up k =>
  hGen C (.box 0) [(look' 0 e)] fr up (fun r0 f0 u0 =>
  headK (look' 1 e) (fun v1 => headK r0 (fun v2 => k .normal [(1, v1), (2, v2)] f0 u0)))

noncomputable def q14_1 (B : Sy) (C : Go.ScE.Callee) : Env → Fram → List Fram → KX → R0 := fun e fr up k =>
  hBinS B .gtr false (demK (demK (look' 1 e))) (.c (.p (pI 0))) fr up (fun r1 f1 u1 =>
  headK (look' 1 e) (fun v1 => headK (look' 2 e) (fun v2 => headK r1 (fun v7 => k .normal [(1, v1), (2, v2), (7, v7)] f1 u1))))

noncomputable def q14_2 (B : Sy) (C : Go.ScE.Callee) : Env → Fram → List Fram → KX → R0 := fun e fr up k =>
  hBinS B .sub false (demK (demK (look' 1 e))) (.c (.p (pI 1))) fr up (fun r1 f1 u1 =>
  headK (demK r1) (fun v1 => headK (look' 2 e) (fun v2 => k .normal [(1, v1), (2, v2)] f1 u1)))

noncomputable def q14_3 (B : Sy) (C : Go.ScE.Callee) : Env → Fram → List Fram → KX → R0 := fun e fr up k =>
  headK (look' 1 e) (fun v1 => headK (look' 2 e) (fun v2 => headK (.c (.p (pI 0))) (fun v5 => k .normal [(1, v1), (2, v2), (5, v5)] fr up)))

noncomputable def q14_4 (B : Sy) (C : Go.ScE.Callee) : Env → Fram → List Fram → KX → R0 := fun e fr up k =>
  hFa 3 (demK (look' 2 e)) fr up (fun r1 f1 u1 =>
  hLdS B false 1 false (demK r1) f1 u1 (fun r2 f2 u2 =>
  hLenLS B  (demK r2) f2 u2 (fun r3 f3 u3 =>
  hBinS B .lss false (demK (demK (look' 5 e))) (demK r3) f3 u3 (fun r4 f4 u4 =>
  guardK true (demK r4) (fun K => K (demK (look' 1 e)) f4 u4) f4 u4 (fun r6 f6 u6 =>
  guardK true (demK r4) (fun K => hBinS B .gtr false (demK r6) (.c (.p (pI 0))) f6 u6 K) f6 u6 (fun r7 f7 u7 =>
  hPick  (demK (demK r4)) (demK r7) (.c (.p (pB false))) f7 u7 (fun r8 f8 u8 =>
  headK (look' 1 e) (fun v1 => headK (look' 2 e) (fun v2 => headK (look' 5 e) (fun v5 => headK r8 (fun v18 => k .normal [(1, v1), (2, v2), (5, v5), (18, v18)] f8 u8)))))))))))

noncomputable def q14_5 (B : Sy) (C : Go.ScE.Callee) : Env → Fram → List Fram → KX → R0 := fun e fr up k =>
  hFa 3 (demK (look' 2 e)) fr up (fun r0 f0 u0 =>
  hLdS B false 1 false (demK r0) f0 u0 (fun r1 f1 u1 =>
  hIaS B 4 (demK r1) (demK (demK (look' 5 e))) f1 u1 (fun r3 f3 u3 =>
  hLdS B true 4 false (demK r3) f3 u3 (fun r4 f4 u4 =>
  hCall C 14 [r4, (demK (demK (look' 1 e)))] f4 u4 (fun r6 f6 u6 =>
  headK (demK r6) (fun v1 => headK (look' 2 e) (fun v2 => headK (look' 5 e) (fun v5 => k .normal [(1, v1), (2, v2), (5, v5)] f6 u6))))))))

noncomputable def q14_6 (B : Sy) (C : Go.ScE.Callee) : Env → Fram → List Fram → KX → R0 := fun e fr up k =>
  hBinS B .add false (demK (demK (look' 5 e))) (.c (.p (pI 1))) fr up (fun r1 f1 u1 =>
  headK (look' 1 e) (fun v1 => headK (look' 2 e) (fun v2 => headK (demK r1) (fun v5 => k .normal [(1, v1), (2, v2), (5, v5)] f1 u1))))

noncomputable def q14_7 (B : Sy) (C : Go.ScE.Callee) : Env → Fram → List Fram → KX → R0 := fun e fr up k =>
  headK (demK (demK (look' 1 e))) (fun v4 => k .normal [(4, v4)] fr up)

noncomputable def s14 : KS := fun B C n => seqK (q14_0 B C) (seqK (seqK (q14_1 B C) (condK (.t 7) (q14_2 B C) (skipK))) (seqK (seqK (q14_3 B C) (blockK 0 (loopsK [1, 2, 5] [0] (seqK (seqK (q14_4 B C) (condK (.t 18) (skipK) (exitK 0))) (seqK (blockK 1 (q14_5 B C)) (q14_6 B C))) n))) (seqK (q14_7 B C) (retK))))
theorem s14_eq (B : Sy) (C : Go.ScE.Callee) (n : Nat) : s14 B C n = evS B C n x14.body := by kernel_rfl

noncomputable def q15_0 (B : Sy) (C : Go.ScE.Callee) : Env → Fram → List Fram → KX → R0 := fun e fr up k =>
  hGen C (.box 0) [(look' 0 e)] fr up (fun r0 f0 u0 =>
  headK r0 (fun v1 => k .normal [(1, v1)] f0 u0))

noncomputable def q15_1 (B : Sy) (C : Go.ScE.Callee) : Env → Fram → List Fram → KX → R0 := fun e fr up k =>
  hLdS B true 4 false (demK (look' 1 e)) fr up (fun r0 f0 u0 =>
  hCall C 22 [r0, (.c (.p (pB false)))] f0 u0 (fun r1 f1 u1 =>
  hGen C (.ext 0) [(demK r1)] f1 u1 (fun r2 f2 u2 =>
  hGen C (.ext 1) [(demK r1)] f2 u2 (fun r3 f3 u3 =>
  headK (demK r2) (fun v2 => headK (demK r3) (fun v3 => k .normal [(2, v2), (3, v3)] f3 u3))))))

noncomputable def s15 : KS := fun B C n => seqK (q15_0 B C) (seqK (q15_1 B C) (retK))
theorem s15_eq (B : Sy) (C : Go.ScE.Callee) (n : Nat) : s15 B C n = evS B C n x15.body := by kernel_rfl

noncomputable def q16_0 (B : Sy) (C : Go.ScE.Callee) : Env → Fram → List Fram → KX → R0 := fun e fr up k =>
  hGen C (.box 0) [(look' 0 e)] fr up (fun r0 f0 u0 =>
  headK r0 (fun v1 => k .normal [(1, v1)] f0 u0))

noncomputable def q16_1 (B : Sy) (C : Go.ScE.Callee) : Env → Fram → List Fram → KX → R0 := fun e fr up k =>
  hLdS B true 4 false (demK (look' 1 e)) fr up (fun r0 f0 u0 =>
  hCall C 22 [r0, (.c (.p (pB true)))] f0 u0 (fun r1 f1 u1 =>
  hGen C (.ext 0) [(demK r1)] f1 u1 (fun r2 f2 u2 =>
  hGen C (.ext 1) [(demK r1)] f2 u2 (fun r3 f3 u3 =>
  headK (demK r2) (fun v2 => headK (demK r3) (fun v3 => k .normal [(2, v2), (3, v3)] f3 u3))))))

noncomputable def s16 : KS := fun B C n => seqK (q16_0 B C) (seqK (q16_1 B C) (retK))
theorem s16_eq (B : Sy) (C : Go.ScE.Callee) (n : Nat) : s16 B C n = evS B C n x16.body := by kernel_rfl

noncomputable def q17_0 (B : Sy) (C : Go.ScE.Callee) : Env → Fram → List Fram → KX → R0 := fun e fr up k =>
  hGen C (.box 0) [(look' 0 e)] fr up (fun r0 f0 u0 =>
  headK r0 (fun v1 => k .normal [(1, v1)] f0 u0))

noncomputable def q17_1 (B : Sy) (C : Go.ScE.Callee) : Env → Fram → List Fram → KX → R0 := fun e fr up k =>
  hGen C (.alloc 1 true [(pI 0)]) [] fr up (fun r0 f0 u0 =>
  hLdS B true 4 false (demK (look' 1 e)) f0 u0 (fun r1 f1 u1 =>
  hCall C 23 [(demK r0), r1, (.c (.p (pI 0)))] f1 u1 (fun r2 f2 u2 =>
  headK (demK r2) (fun v2 => k .normal [(2, v2)] f2 u2))))

noncomputable def s17 : KS := fun B C n => seqK (q17_0 B C) (seqK (q17_1 B C) (retK))
theorem s17_eq (B : Sy) (C : Go.ScE.Callee) (n : Nat) : s17 B C n = evS B C n x17.body := by kernel_rfl

noncomputable def q18_0 (B : Sy) (C : Go.ScE.Callee) : Env → Fram → List Fram → KX → R0 := fun e fr up k =>
  headK (look' 0 e) (fun v0 => k .normal [(0, v0)] fr up)

noncomputable def q18_1 (B : Sy) (C : Go.ScE.Callee) : Env → Fram → List Fram → KX → R0 := fun e fr up k =>
  hGen C (.lenS) [(demK (demK (look' 0 e)))] fr up (fun r1 f1 u1 =>
  headK (look' 0 e) (fun v0 => headK r1 (fun v5 => headK (.c (.p (pI 0))) (fun v6 => k .normal [(0, v0), (5, v5), (6, v6)] f1 u1))))

noncomputable def q18_2 (B : Sy) (C : Go.ScE.Callee) : Env → Fram → List Fram → KX → R0 := fun e fr up k =>
  hBinS B .lss false (demK (look' 6 e)) (demK (look' 5 e)) fr up (fun r0 f0 u0 =>
  headK (look' 0 e) (fun v0 => headK (look' 5 e) (fun v5 => headK (look' 6 e) (fun v6 => headK r0 (fun v7 => k .normal [(0, v0), (5, v5), (6, v6), (7, v7)] f0 u0)))))

noncomputable def q18_3 (B : Sy) (C : Go.ScE.Callee) : Env → Fram → List Fram → KX → R0 := fun e fr up k =>
  headK (look' 0 e) (fun v0 => headK (demK (demK (look' 6 e))) (fun v3 => headK (look' 5 e) (fun v5 => headK (look' 6 e) (fun v6 => k .normal [(0, v0), (3, v3), (5, v5), (6, v6)] fr up))))

noncomputable def q18_4 (B : Sy) (C : Go.ScE.Callee) : Env → Fram → List Fram → KX → R0 := fun e fr up k =>
  hGen C (.ixs) [(demK (demK (look' 0 e))), (demK (demK (look' 3 e)))] fr up (fun r2 f2 u2 =>
  hCall C 24 [(demK r2)] f2 u2 (fun r3 f3 u3 =>
  hGen C (.un .not) [(demK r3)] f3 u3 (fun r4 f4 u4 =>
  headK (look' 0 e) (fun v0 => headK (look' 5 e) (fun v5 => headK (look' 6 e) (fun v6 => headK r4 (fun v13 => k .normal [(0, v0), (5, v5), (6, v6), (13, v13)] f4 u4)))))))

noncomputable def q18_5 (B : Sy) (C : Go.ScE.Callee) : Env → Fram → List Fram → KX → R0 := fun e fr up k =>
  headK (.c (.p (pB false))) (fun v2 => k .normal [(2, v2)] fr up)

noncomputable def q18_6 (B : Sy) (C : Go.ScE.Callee) : Env → Fram → List Fram → KX → R0 := fun e fr up k =>
  hBinS B .add false (demK (look' 6 e)) (.c (.p (pI 1))) fr up (fun r0 f0 u0 =>
  headK (look' 0 e) (fun v0 => headK (look' 5 e) (fun v5 => headK (demK r0) (fun v6 => k .normal [(0, v0), (5, v5), (6, v6)] f0 u0))))

noncomputable def q18_7 (B : Sy) (C : Go.ScE.Callee) : Env → Fram → List Fram → KX → R0 := fun e fr up k =>
  hBinS B .neq false (demK (demK (look' 0 e))) (.c (.p (pS []))) fr up (fun r1 f1 u1 =>
  guardK true (demK r1) (fun K => K (demK (look' 0 e)) f1 u1) f1 u1 (fun r3 f3 u3 =>
  guardK true (demK r1) (fun K => hGen C (.lenS) [(demK r3)] f3 u3 K) f3 u3 (fun r4 f4 u4 =>
  guardK true (demK r1) (fun K => hBinS B .leq false (demK r4) (.c (.p (pI 64))) f4 u4 K) f4 u4 (fun r5 f5 u5 =>
  hPick  (demK (demK r1)) (demK r5) (.c (.p (pB false))) f5 u5 (fun r6 f6 u6 =>
  guardK true (demK r6) (fun K => K (demK (look' 0 e)) f6 u6) f6 u6 (fun r8 f8 u8 =>
  guardK true (demK r6) (fun K => hBinS B .neq false (demK r8) (.c (.p (pS [46]))) f8 u8 K) f8 u8 (fun r9 f9 u9 =>
  hPick  (demK (demK r6)) (demK r9) (.c (.p (pB false))) f9 u9 (fun r10 f10 u10 =>
  guardK true (demK r10) (fun K => K (demK (look' 0 e)) f10 u10) f10 u10 (fun r12 f12 u12 =>
  guardK true (demK r10) (fun K => hCall C 25 [(demK r12)] f12 u12 K) f12 u12 (fun r13 f13 u13 =>
  guardK true (demK r10) (fun K => hGen C (.un .not) [(demK r13)] f13 u13 K) f13 u13 (fun r14 f14 u14 =>
  hPick  (demK (demK r10)) (demK r14) (.c (.p (pB false))) f14 u14 (fun r15 f15 u15 =>
  headK (demK r15) (fun v2 => k .normal [(2, v2)] f15 u15)))))))))))))

noncomputable def s18 : KS := fun B C n => seqK (q18_0 B C) (seqK (seqK (q18_1 B C) (blockK 0 (loopsK [0, 5, 6] [] (seqK (q18_2 B C) (seqK (condK (.t 7) (skipK) (exitK 0)) (seqK (blockK 1 (seqK (q18_3 B C) (seqK (q18_4 B C) (condK (.t 13) (seqK (q18_5 B C) (retK)) (skipK))))) (q18_6 B C)))) n))) (seqK (q18_7 B C) (retK)))
theorem s18_eq (B : Sy) (C : Go.ScE.Callee) (n : Nat) : s18 B C n = evS B C n x18.body := by kernel_rfl

noncomputable def q19_0 (B : Sy) (C : Go.ScE.Callee) : Env → Fram → List Fram → KX → R0 := fun e fr up k =>
  headK (look' 0 e) (fun v0 => headK (look' 1 e) (fun v1 => headK (look' 2 e) (fun v2 => k .normal [(0, v0), (1, v1), (2, v2)] fr up)))

noncomputable def q19_1 (B : Sy) (C : Go.ScE.Callee) : Env → Fram → List Fram → KX → R0 := fun e fr up k =>
  hLenLS B  (demK (demK (look' 0 e))) fr up (fun r1 f1 u1 =>
  hLenLS B  (demK (demK (look' 1 e))) f1 u1 (fun r3 f3 u3 =>
  hBinS B .neq false (demK r1) (demK r3) f3 u3 (fun r4 f4 u4 =>
  headK (look' 0 e) (fun v0 => headK (look' 1 e) (fun v1 => headK (look' 2 e) (fun v2 => headK r4 (fun v14 => k .normal [(0, v0), (1, v1), (2, v2), (14, v14)] f4 u4)))))))

noncomputable def q19_2 (B : Sy) (C : Go.ScE.Callee) : Env → Fram → List Fram → KX → R0 := fun e fr up k =>
  headK (.c (.p (pB false))) (fun v6 => k .normal [(6, v6)] fr up)

noncomputable def q19_3 (B : Sy) (C : Go.ScE.Callee) : Env → Fram → List Fram → KX → R0 := fun e fr up k =>
  hLenLS B  (demK (look' 0 e)) fr up (fun r1 f1 u1 =>
  headK (look' 1 e) (fun v1 => headK (look' 2 e) (fun v2 => headK (look' 0 e) (fun v15 => headK r1 (fun v16 => headK (.c (.p (pI 0))) (fun v17 => k .normal [(1, v1), (2, v2), (15, v15), (16, v16), (17, v17)] f1 u1))))))

noncomputable def q19_4 (B : Sy) (C : Go.ScE.Callee) : Env → Fram → List Fram → KX → R0 := fun e fr up k =>
  hBinS B .lss false (demK (look' 17 e)) (demK (look' 16 e)) fr up (fun r0 f0 u0 =>
  headK (look' 1 e) (fun v1 => headK (look' 2 e) (fun v2 => headK (look' 15 e) (fun v15 => headK (look' 16 e) (fun v16 => headK (look' 17 e) (fun v17 => headK r0 (fun v18 => k .normal [(1, v1), (2, v2), (15, v15), (16, v16), (17, v17), (18, v18)] f0 u0)))))))

noncomputable def q19_5 (B : Sy) (C : Go.ScE.Callee) : Env → Fram → List Fram → KX → R0 := fun e fr up k =>
  hIaS B 4 (demK (look' 15 e)) (demK (look' 17 e)) fr up (fun r1 f1 u1 =>
  hLdS B true 4 false (demK r1) f1 u1 (fun r2 f2 u2 =>
  hGen C (.alloc 0 true [(pI 0), (pI 0), (pS []), (.sl 4 [])]) [] f2 u2 (fun r3 f3 u3 =>
  hStS B 4 (demK r3) r2 f3 u3 (fun r5 f5 u5 =>
  headK (look' 1 e) (fun v1 => headK (look' 2 e) (fun v2 => headK (demK (demK (look' 17 e))) (fun v7 => headK r3 (fun v8 => headK (look' 15 e) (fun v15 => headK (look' 16 e) (fun v16 => headK (look' 17 e) (fun v17 => k .normal [(1, v1), (2, v2), (7, v7), (8, v8), (15, v15), (16, v16), (17, v17)] f5 u5)))))))))))

noncomputable def q19_6 (B : Sy) (C : Go.ScE.Callee) : Env → Fram → List Fram → KX → R0 := fun e fr up k =>
  hIaS B 4 (demK (demK (look' 1 e))) (demK (demK (look' 7 e))) fr up (fun r2 f2 u2 =>
  hLdS B true 4 false (demK r2) f2 u2 (fun r3 f3 u3 =>
  hGen C (.alloc 1 true [(pI 0), (pI 0), (pS []), (.sl 4 [])]) [] f3 u3 (fun r4 f4 u4 =>
  hStS B 4 (demK r4) r3 f4 u4 (fun r5 f5 u5 =>
  headK (look' 1 e) (fun v1 => headK (look' 2 e) (fun v2 => headK (look' 8 e) (fun v8 => headK r4 (fun v9 => headK (look' 15 e) (fun v15 => headK (look' 16 e) (fun v16 => headK (look' 17 e) (fun v17 => k .normal [(1, v1), (2, v2), (8, v8), (9, v9), (15, v15), (16, v16), (17, v17)] f5 u5)))))))))))

noncomputable def q19_7 (B : Sy) (C : Go.ScE.Callee) : Env → Fram → List Fram → KX → R0 := fun e fr up k =>
  hLdS B true 4 false (demK (look' 8 e)) fr up (fun r1 f1 u1 =>
  hLdS B true 4 false (demK (look' 9 e)) f1 u1 (fun r2 f2 u2 =>
  hGen C (.callv) [(demK (demK (look' 2 e))), r1, r2] f2 u2 (fun r3 f3 u3 =>
  hGen C (.un .not) [(demK r3)] f3 u3 (fun r4 f4 u4 =>
  headK (look' 1 e) (fun v1 => headK (look' 2 e) (fun v2 => headK (look' 15 e) (fun v15 => headK (look' 16 e) (fun v16 => headK (look' 17 e) (fun v17 => headK r4 (fun v30 => k .normal [(1, v1), (2, v2), (15, v15), (16, v16), (17, v17), (30, v30)] f4 u4))))))))))

noncomputable def q19_8 (B : Sy) (C : Go.ScE.Callee) : Env → Fram → List Fram → KX → R0 := fun e fr up k =>
  headK (.c (.p (pB false))) (fun v6 => k .normal [(6, v6)] fr up)

noncomputable def q19_9 (B : Sy) (C : Go.ScE.Callee) : Env → Fram → List Fram → KX → R0 := fun e fr up k =>
  hBinS B .add false (demK (look' 17 e)) (.c (.p (pI 1))) fr up (fun r0 f0 u0 =>
  headK (look' 1 e) (fun v1 => headK (look' 2 e) (fun v2 => headK (look' 15 e) (fun v15 => headK (look' 16 e) (fun v16 => headK (demK r0) (fun v17 => k .normal [(1, v1), (2, v2), (15, v15), (16, v16), (17, v17)] f0 u0))))))

noncomputable def q19_10 (B : Sy) (C : Go.ScE.Callee) : Env → Fram → List Fram → KX → R0 := fun e fr up k =>
  headK (.c (.p (pB true))) (fun v6 => k .normal [(6, v6)] fr up)

noncomputable def s19 : KS := fun B C n => seqK (q19_0 B C) (seqK (seqK (q19_1 B C) (condK (.t 14) (seqK (q19_2 B C) (retK)) (skipK))) (seqK (seqK (q19_3 B C) (blockK 0 (loopsK [1, 2, 15, 16, 17] [] (seqK (q19_4 B C) (seqK (condK (.t 18) (skipK) (exitK 0)) (seqK (blockK 1 (seqK (q19_5 B C) (seqK (q19_6 B C) (seqK (q19_7 B C) (condK (.t 30) (seqK (q19_8 B C) (retK)) (skipK)))))) (q19_9 B C)))) n))) (seqK (q19_10 B C) (retK))))
theorem s19_eq (B : Sy) (C : Go.ScE.Callee) (n : Nat) : s19 B C n = evS B C n x19.body := by kernel_rfl

noncomputable def q20_0 (B : Sy) (C : Go.ScE.Callee) : Env → Fram → List Fram → KX → R0 := fun e fr up k =>
  hGen C (.box 0) [(look' 0 e)] fr up (fun r0 f0 u0 =>
  hGen C (.alloc 1 true [(pI 0), (pI 0), (pS []), (.sl 4 [])]) [] f0 u0 (fun r1 f1 u1 =>
  headK r0 (fun v1 => headK r1 (fun v2 => k .normal [(1, v1), (2, v2)] f1 u1))))

noncomputable def q20_1 (B : Sy) (C : Go.ScE.Callee) : Env → Fram → List Fram → KX → R0 := fun e fr up k =>
  hFa 3 (demK (look' 1 e)) fr up (fun r0 f0 u0 =>
  hLdS B false 1 false (demK r0) f0 u0 (fun r1 f1 u1 =>
  hCall C 21 [r1] f1 u1 (fun r2 f2 u2 =>
  hFa 3 (demK (look' 1 e)) f2 u2 (fun r3 f3 u3 =>
  hStS B 1 (demK r3) r2 f3 u3 (fun r4 f4 u4 =>
  headK (look' 1 e) (fun v1 => headK (look' 2 e) (fun v2 => k .normal [(1, v1), (2, v2)] f4 u4)))))))

noncomputable def q20_2 (B : Sy) (C : Go.ScE.Callee) : Env → Fram → List Fram → KX → R0 := fun e fr up k =>
  hLdS B true 4 false (demK (look' 1 e)) fr up (fun r0 f0 u0 =>
  hStS B 4 (demK (look' 2 e)) r0 f0 u0 (fun r1 f1 u1 =>
  headK (look' 2 e) (fun v2 => k .normal [(2, v2)] f1 u1)))

noncomputable def s20 : KS := fun B C n => seqK (q20_0 B C) (seqK (q20_1 B C) (seqK (q20_2 B C) (retK)))
theorem s20_eq (B : Sy) (C : Go.ScE.Callee) (n : Nat) : s20 B C n = evS B C n x20.body := by kernel_rfl

noncomputable def q21_0 (B : Sy) (C : Go.ScE.Callee) : Env → Fram → List Fram → KX → R0 := fun e fr up k =>
  headK (look' 0 e) (fun v0 => k .normal [(0, v0)] fr up)

noncomputable def q21_1 (B : Sy) (C : Go.ScE.Callee) : Env → Fram → List Fram → KX → R0 := fun e fr up k =>
  headK (look' 0 e) (fun v0 => headK (.c (.own 4 [])) (fun v3 => k .normal [(0, v0), (3, v3)] fr up))

noncomputable def q21_2 (B : Sy) (C : Go.ScE.Callee) : Env → Fram → List Fram → KX → R0 := fun e fr up k =>
  hLenLS B  (demK (look' 0 e)) fr up (fun r1 f1 u1 =>
  headK (look' 3 e) (fun v3 => headK (look' 0 e) (fun v6 => headK r1 (fun v7 => headK (.c (.p (pI 0))) (fun v8 => k .normal [(3, v3), (6, v6), (7, v7), (8, v8)] f1 u1)))))

noncomputable def q21_3 (B : Sy) (C : Go.ScE.Callee) : Env → Fram → List Fram → KX → R0 := fun e fr up k =>
  hBinS B .lss false (demK (look' 8 e)) (demK (look' 7 e)) fr up (fun r0 f0 u0 =>
  headK (look' 3 e) (fun v3 => headK (look' 6 e) (fun v6 => headK (look' 7 e) (fun v7 => headK (look' 8 e) (fun v8 => headK r0 (fun v9 => k .normal [(3, v3), (6, v6), (7, v7), (8, v8), (9, v9)] f0 u0))))))

noncomputable def q21_4 (B : Sy) (C : Go.ScE.Callee) : Env → Fram → List Fram → KX → R0 := fun e fr up k =>
  hIaS B 4 (demK (look' 6 e)) (demK (look' 8 e)) fr up (fun r0 f0 u0 =>
  hLdS B true 4 false (demK r0) f0 u0 (fun r1 f1 u1 =>
  hGen C (.alloc 0 true [(pI 0), (pI 0), (pS []), (.sl 4 [])]) [] f1 u1 (fun r2 f2 u2 =>
  hStS B 4 (demK r2) r1 f2 u2 (fun r3 f3 u3 =>
  headK (look' 3 e) (fun v3 => headK r2 (fun v5 => headK (look' 6 e) (fun v6 => headK (look' 7 e) (fun v7 => headK (look' 8 e) (fun v8 => k .normal [(3, v3), (5, v5), (6, v6), (7, v7), (8, v8)] f3 u3)))))))))

noncomputable def q21_5 (B : Sy) (C : Go.ScE.Callee) : Env → Fram → List Fram → KX → R0 := fun e fr up k =>
  hLdS B true 4 false (demK (look' 5 e)) fr up (fun r1 f1 u1 =>
  hCall C 20 [r1] f1 u1 (fun r2 f2 u2 =>
  hBlds 4 [(pI 0), (pI 0), (pS []), (.sl 4 [])] 1 [0] [r2] f2 u2 (fun r3 f3 u3 =>
  hApp 4 56 (look' 3 e) (demK r3) f3 u3 (fun r4 f4 u4 =>
  headK r4 (fun v3 => headK (look' 6 e) (fun v6 => headK (look' 7 e) (fun v7 => headK (look' 8 e) (fun v8 => k .normal [(3, v3), (6, v6), (7, v7), (8, v8)] f4 u4))))))))

noncomputable def q21_6 (B : Sy) (C : Go.ScE.Callee) : Env → Fram → List Fram → KX → R0 := fun e fr up k =>
  hBinS B .add false (demK (look' 8 e)) (.c (.p (pI 1))) fr up (fun r0 f0 u0 =>
  headK (look' 3 e) (fun v3 => headK (look' 6 e) (fun v6 => headK (look' 7 e) (fun v7 => headK (demK r0) (fun v8 => k .normal [(3, v3), (6, v6), (7, v7), (8, v8)] f0 u0)))))

noncomputable def q21_7 (B : Sy) (C : Go.ScE.Callee) : Env → Fram → List Fram → KX → R0 := fun e fr up k =>
  headK (look' 3 e) (fun v2 => k .normal [(2, v2)] fr up)

noncomputable def s21 : KS := fun B C n => seqK (q21_0 B C) (seqK (q21_1 B C) (seqK (seqK (q21_2 B C) (blockK 0 (loopsK [3, 6, 7, 8] [] (seqK (q21_3 B C) (seqK (condK (.t 9) (skipK) (exitK 0)) (seqK (blockK 1 (seqK (q21_4 B C) (q21_5 B C))) (q21_6 B C)))) n))) (seqK (q21_7 B C) (retK))))
theorem s21_eq (B : Sy) (C : Go.ScE.Callee) (n : Nat) : s21 B C n = evS B C n x21.body := by kernel_rfl

noncomputable def q22_0 (B : Sy) (C : Go.ScE.Callee) : Env → Fram → List Fram → KX → R0 := fun e fr up k =>
  hGen C (.box 0) [(look' 0 e)] fr up (fun r0 f0 u0 =>
  headK (look' 1 e) (fun v1 => headK r0 (fun v2 => k .normal [(1, v1), (2, v2)] f0 u0)))

noncomputable def q22_1 (B : Sy) (C : Go.ScE.Callee) : Env → Fram → List Fram → KX → R0 := fun e fr up k =>
  hLdS B true 4 false (demK (look' 2 e)) fr up (fun r0 f0 u0 =>
  hCall C 17 [r0] f0 u0 (fun r1 f1 u1 =>
  headK (look' 1 e) (fun v1 => headK (look' 2 e) (fun v2 => headK (demK r1) (fun v6 => k .normal [(1, v1), (2, v2), (6, v6)] f1 u1)))))

noncomputable def q22_2 (B : Sy) (C : Go.ScE.Callee) : Env → Fram → List Fram → KX → R0 := fun e fr up k =>
  hBinS B .neq false (demK (demK (look' 6 e))) (.c (.p (pI 0))) fr up (fun r1 f1 u1 =>
  headK (look' 1 e) (fun v1 => headK (look' 2 e) (fun v2 => headK (look' 6 e) (fun v6 => headK r1 (fun v11 => k .normal [(1, v1), (2, v2), (6, v6), (11, v11)] f1 u1)))))

noncomputable def q22_3 (B : Sy) (C : Go.ScE.Callee) : Env → Fram → List Fram → KX → R0 := fun e fr up k =>
  headK (.c (.p (pS []))) (fun v4 => headK (demK (demK (look' 6 e))) (fun v5 => k .normal [(4, v4), (5, v5)] fr up))

noncomputable def q22_4 (B : Sy) (C : Go.ScE.Callee) : Env → Fram → List Fram → KX → R0 := fun e fr up k =>
  hBld [(.sl 1 []), (pB false)] [(1, 1)] [(demK (demK (look' 1 e)))] fr up (fun r1 f1 u1 =>
  hGen C (.box 1) [r1] f1 u1 (fun r2 f2 u2 =>
  headK (look' 2 e) (fun v2 => headK (demK r2) (fun v7 => k .normal [(2, v2), (7, v7)] f2 u2))))

noncomputable def q22_5 (B : Sy) (C : Go.ScE.Callee) : Env → Fram → List Fram → KX → R0 := fun e fr up k =>
  hLdS B true 4 false (demK (look' 2 e)) fr up (fun r1 f1 u1 =>
  hCall C 26 [(demK (demK (look' 7 e))), r1] f1 u1 (fun r2 f2 u2 =>
  headK (look' 7 e) (fun v7 => k .normal [(7, v7)] f2 u2)))

noncomputable def q22_6 (B : Sy) (C : Go.ScE.Callee) : Env → Fram → List Fram → KX → R0 := fun e fr up k =>
  hGen C (.nck) [(demK (demK (look' 7 e)))] fr up (fun r1 f1 u1 =>
  hFa 0 (demK r1) f1 u1 (fun r2 f2 u2 =>
  hLdS B false 1 false (demK r2) f2 u2 (fun r3 f3 u3 =>
  hGen C (.cbs) [(demK r3)] f3 u3 (fun r4 f4 u4 =>
  headK (demK r4) (fun v4 => headK (.c (.p (pI 0))) (fun v5 => k .normal [(4, v4), (5, v5)] f4 u4))))))

noncomputable def s22 : KS := fun B C n => seqK (q22_0 B C) (seqK (seqK (q22_1 B C) (seqK (q22_2 B C) (condK (.t 11) (seqK (q22_3 B C) (retK)) (skipK)))) (seqK (q22_4 B C) (seqK (q22_5 B C) (seqK (q22_6 B C) (retK)))))
theorem s22_eq (B : Sy) (C : Go.ScE.Callee) (n : Nat) : s22 B C n = evS B C n x22.body := by kernel_rfl

noncomputable def q23_0 (B : Sy) (C : Go.ScE.Callee) : Env → Fram → List Fram → KX → R0 := fun e fr up k =>
  hGen C (.box 0) [(look' 1 e)] fr up (fun r0 f0 u0 =>
  headK (look' 0 e) (fun v0 => headK (look' 2 e) (fun v2 => headK r0 (fun v4 => k .normal [(0, v0), (2, v2), (4, v4)] f0 u0))))

noncomputable def q23_1 (B : Sy) (C : Go.ScE.Callee) : Env → Fram → List Fram → KX → R0 := fun e fr up k =>
  hGen C (.nck) [(demK (demK (look' 0 e)))] fr up (fun r1 f1 u1 =>
  hFa 0 (demK r1) f1 u1 (fun r2 f2 u2 =>
  hLdS B false 1 false (demK r2) f2 u2 (fun r3 f3 u3 =>
  hBinS B .eql false (demK r3) (.c (.p (pI 4096))) f3 u3 (fun r4 f4 u4 =>
  headK (look' 0 e) (fun v0 => headK (look' 2 e) (fun v2 => headK (look' 4 e) (fun v4 => headK r4 (fun v14 => k .normal [(0, v0), (2, v2), (4, v4), (14, v14)] f4 u4))))))))

noncomputable def q23_2 (B : Sy) (C : Go.ScE.Callee) : Env → Fram → List Fram → KX → R0 := fun e fr up k =>
  headK (.c (.p (pI 22))) (fun v6 => k .normal [(6, v6)] fr up)

noncomputable def q23_3 (B : Sy) (C : Go.ScE.Callee) : Env → Fram → List Fram → KX → R0 := fun e fr up k =>
  hGen C (.nck) [(demK (demK (look' 0 e)))] fr up (fun r1 f1 u1 =>
  hFa 0 (demK r1) f1 u1 (fun r2 f2 u2 =>
  hLdS B false 1 false (demK r2) f2 u2 (fun r3 f3 u3 =>
  hBinS B .add false (demK r3) (.c (.p (pI 1))) f3 u3 (fun r4 f4 u4 =>
  hGen C (.nck) [(demK (demK (look' 0 e)))] f4 u4 (fun r5 f5 u5 =>
  hFa 0 (demK r5) f5 u5 (fun r6 f6 u6 =>
  hStS B 1 (demK r6) (demK r4) f6 u6 (fun r7 f7 u7 =>
  headK (look' 0 e) (fun v0 => headK (look' 2 e) (fun v2 => headK (look' 4 e) (fun v4 => k .normal [(0, v0), (2, v2), (4, v4)] f7 u7))))))))))

noncomputable def q23_4 (B : Sy) (C : Go.ScE.Callee) : Env → Fram → List Fram → KX → R0 := fun e fr up k =>
  hLdS B true 4 false (demK (look' 4 e)) fr up (fun r0 f0 u0 =>
  hCall C 27 [r0] f0 u0 (fun r1 f1 u1 =>
  guardK true (demK r1) (fun K => K (demK (look' 2 e)) f1 u1) f1 u1 (fun r3 f3 u3 =>
  guardK true (demK r1) (fun K => hBinS B .eql false (demK r3) (.c (.p (pI 32))) f3 u3 K) f3 u3 (fun r4 f4 u4 =>
  hPick  (demK (demK r1)) (demK r4) (.c (.p (pB false))) f4 u4 (fun r5 f5 u5 =>
  headK (look' 0 e) (fun v0 => headK (look' 2 e) (fun v2 => headK (look' 4 e) (fun v4 => headK r5 (fun v27 => k .normal [(0, v0), (2, v2), (4, v4), (27, v27)] f5 u5)))))))))

noncomputable def q23_5 (B : Sy) (C : Go.ScE.Callee) : Env → Fram → List Fram → KX → R0 := fun e fr up k =>
  headK (.c (.p (pI 21))) (fun v6 => k .normal [(6, v6)] fr up)

noncomputable def q23_6 (B : Sy) (C : Go.ScE.Callee) : Env → Fram → List Fram → KX → R0 := fun e fr up k =>
  hLdS B true 4 false (demK (look' 4 e)) fr up (fun r0 f0 u0 =>
  hCall C 28 [r0] f0 u0 (fun r1 f1 u1 =>
  hGen C (.un .not) [(demK r1)] f1 u1 (fun r2 f2 u2 =>
  headK (look' 0 e) (fun v0 => headK (look' 2 e) (fun v2 => headK (look' 4 e) (fun v4 => headK r2 (fun v30 => k .normal [(0, v0), (2, v2), (4, v4), (30, v30)] f2 u2)))))))

noncomputable def q23_7 (B : Sy) (C : Go.ScE.Callee) : Env → Fram → List Fram → KX → R0 := fun e fr up k =>
  headK (.c (.p (pI 20))) (fun v6 => k .normal [(6, v6)] fr up)

noncomputable def q23_8 (B : Sy) (C : Go.ScE.Callee) : Env → Fram → List Fram → KX → R0 := fun e fr up k =>
  hFa 3 (demK (look' 4 e)) fr up (fun r0 f0 u0 =>
  hLdS B false 1 false (demK r0) f0 u0 (fun r1 f1 u1 =>
  hLenLS B  (demK r1) f1 u1 (fun r2 f2 u2 =>
  headK (look' 0 e) (fun v0 => headK (look' 2 e) (fun v2 => headK r1 (fun v32 => headK r2 (fun v33 => headK (.c (.p (pI 0))) (fun v34 => k .normal [(0, v0), (2, v2), (32, v32), (33, v33), (34, v34)] f2 u2))))))))

noncomputable def q23_9 (B : Sy) (C : Go.ScE.Callee) : Env → Fram → List Fram → KX → R0 := fun e fr up k =>
  hBinS B .lss false (demK (look' 34 e)) (demK (look' 33 e)) fr up (fun r0 f0 u0 =>
  headK (look' 0 e) (fun v0 => headK (look' 2 e) (fun v2 => headK (look' 32 e) (fun v32 => headK (look' 33 e) (fun v33 => headK (look' 34 e) (fun v34 => headK r0 (fun v35 => k .normal [(0, v0), (2, v2), (32, v32), (33, v33), (34, v34), (35, v35)] f0 u0)))))))

noncomputable def q23_10 (B : Sy) (C : Go.ScE.Callee) : Env → Fram → List Fram → KX → R0 := fun e fr up k =>
  hIaS B 4 (demK (look' 32 e)) (demK (look' 34 e)) fr up (fun r0 f0 u0 =>
  hLdS B true 4 false (demK r0) f0 u0 (fun r1 f1 u1 =>
  hGen C (.alloc 1 true [(pI 0), (pI 0), (pS []), (.sl 4 [])]) [] f1 u1 (fun r2 f2 u2 =>
  hStS B 4 (demK r2) r1 f2 u2 (fun r3 f3 u3 =>
  headK (look' 0 e) (fun v0 => headK (look' 2 e) (fun v2 => headK r2 (fun v8 => headK (look' 32 e) (fun v32 => headK (look' 33 e) (fun v33 => headK (look' 34 e) (fun v34 => k .normal [(0, v0), (2, v2), (8, v8), (32, v32), (33, v33), (34, v34)] f3 u3))))))))))

noncomputable def q23_11 (B : Sy) (C : Go.ScE.Callee) : Env → Fram → List Fram → KX → R0 := fun e fr up k =>
  hLdS B true 4 false (demK (look' 8 e)) fr up (fun r1 f1 u1 =>
  hBinS B .add false (demK (demK (look' 2 e))) (.c (.p (pI 1))) f1 u1 (fun r3 f3 u3 =>
  hCall C 23 [(demK (demK (look' 0 e))), r1, (demK r3)] f3 u3 (fun r4 f4 u4 =>
  headK (look' 0 e) (fun v0 => headK (look' 2 e) (fun v2 => headK (demK r4) (fun v9 => headK (look' 32 e) (fun v32 => headK (look' 33 e) (fun v33 => headK (look' 34 e) (fun v34 => k .normal [(0, v0), (2, v2), (9, v9), (32, v32), (33, v33), (34, v34)] f4 u4)))))))))

noncomputable def q23_12 (B : Sy) (C : Go.ScE.Callee) : Env → Fram → List Fram → KX → R0 := fun e fr up k =>
  hBinS B .neq false (demK (demK (look' 9 e))) (.c (.p (pI 0))) fr up (fun r1 f1 u1 =>
  headK (look' 0 e) (fun v0 => headK (look' 2 e) (fun v2 => headK (look' 9 e) (fun v9 => headK (look' 32 e) (fun v32 => headK (look' 33 e) (fun v33 => headK (look' 34 e) (fun v34 => headK r1 (fun v44 => k .normal [(0, v0), (2, v2), (9, v9), (32, v32), (33, v33), (34, v34), (44, v44)] f1 u1))))))))

noncomputable def q23_13 (B : Sy) (C : Go.ScE.Callee) : Env → Fram → List Fram → KX → R0 := fun e fr up k =>
  headK (demK (demK (look' 9 e))) (fun v6 => k .normal [(6, v6)] fr up)

noncomputable def q23_14 (B : Sy) (C : Go.ScE.Callee) : Env → Fram → List Fram → KX → R0 := fun e fr up k =>
  hBinS B .add false (demK (look' 34 e)) (.c (.p (pI 1))) fr up (fun r0 f0 u0 =>
  headK (look' 0 e) (fun v0 => headK (look' 2 e) (fun v2 => headK (look' 32 e) (fun v32 => headK (look' 33 e) (fun v33 => headK (demK r0) (fun v34 => k .normal [(0, v0), (2, v2), (32, v32), (33, v33), (34, v34)] f0 u0))))))

noncomputable def q23_15 (B : Sy) (C : Go.ScE.Callee) : Env → Fram → List Fram → KX → R0 := fun e fr up k =>
  headK (.c (.p (pI 0))) (fun v6 => k .normal [(6, v6)] fr up)

noncomputable def s23 : KS := fun B C n => seqK (q23_0 B C) (seqK (seqK (q23_1 B C) (condK (.t 14) (seqK (q23_2 B C) (retK)) (skipK))) (seqK (q23_3 B C) (seqK (seqK (q23_4 B C) (condK (.t 27) (seqK (q23_5 B C) (retK)) (skipK))) (seqK (seqK (q23_6 B C) (condK (.t 30) (seqK (q23_7 B C) (retK)) (skipK))) (seqK (seqK (q23_8 B C) (blockK 0 (loopsK [0, 2, 32, 33, 34] [0] (seqK (q23_9 B C) (seqK (condK (.t 35) (skipK) (exitK 0)) (seqK (blockK 1 (seqK (q23_10 B C) (seqK (q23_11 B C) (seqK (q23_12 B C) (condK (.t 44) (seqK (q23_13 B C) (retK)) (skipK)))))) (q23_14 B C)))) n))) (seqK (q23_15 B C) (retK)))))))
theorem s23_eq (B : Sy) (C : Go.ScE.Callee) (n : Nat) : s23 B C n = evS B C n x23.body := by kernel_rfl

noncomputable def q24_0 (B : Sy) (C : Go.ScE.Callee) : Env → Fram → List Fram → KX → R0 := fun e fr up k =>
  headK (look' 0 e) (fun v0 => k .normal [(0, v0)] fr up)

noncomputable def q24_1 (B : Sy) (C : Go.ScE.Callee) : Env → Fram → List Fram → KX → R0 := fun e fr up k =>
  hCall C 29 [(demK (demK (look' 0 e)))] fr up (fun r1 f1 u1 =>
  guardK false (demK r1) (fun K => K (demK (look' 0 e)) f1 u1) f1 u1 (fun r3 f3 u3 =>
  guardK false (demK r1) (fun K => hBinS B .geq false (demK r3) (.c (.p (pK .u8 97))) f3 u3 K) f3 u3 (fun r4 f4 u4 =>
  guardK false (demK r1) (fun K => K (demK r4) f4 u4) f4 u4 (fun r5 f5 u5 =>
  guardK true r5 (fun K => K (demK (look' 0 e)) f5 u5) f5 u5 (fun r6 f6 u6 =>
  guardK true r5 (fun K => hBinS B .leq false (demK r6) (.c (.p (pK .u8 122))) f6 u6 K) f6 u6 (fun r7 f7 u7 =>
  guardK false (demK r1) (fun K => hPick  (demK r5) (demK r7) (.c (.p (pB false))) f7 u7 K) f7 u7 (fun r8 f8 u8 =>
  hPick  (demK (demK r1)) (.c (.p (pB true))) (demK r8) f8 u8 (fun r9 f9 u9 =>
  guardK false (demK r9) (fun K => K (demK (look' 0 e)) f9 u9) f9 u9 (fun r11 f11 u11 =>
  guardK false (demK r9) (fun K => hBinS B .geq false (demK r11) (.c (.p (pK .u8 65))) f11 u11 K) f11 u11 (fun r12 f12 u12 =>
  guardK false (demK r9) (fun K => K (demK r12) f12 u12) f12 u12 (fun r13 f13 u13 =>
  guardK true r13 (fun K => K (demK (look' 0 e)) f13 u13) f13 u13 (fun r14 f14 u14 =>
  guardK true r13 (fun K => hBinS B .leq false (demK r14) (.c (.p (pK .u8 90))) f14 u14 K) f14 u14 (fun r15 f15 u15 =>
  guardK false (demK r9) (fun K => hPick  (demK r13) (demK r15) (.c (.p (pB false))) f15 u15 K) f15 u15 (fun r16 f16 u16 =>
  hPick  (demK (demK r9)) (.c (.p (pB true))) (demK r16) f16 u16 (fun r17 f17 u17 =>
  guardK false (demK r17) (fun K => K (demK (look' 0 e)) f17 u17) f17 u17 (fun r19 f19 u19 =>
  guardK false (demK r17) (fun K => hCall C 30 [(.c (.p (pS [33, 36, 37, 38, 42, 47, 58, 60, 61, 62, 63, 94, 95, 126, 43, 45, 46, 64]))), (demK r19)] f19 u19 K) f19 u19 (fun r20 f20 u20 =>
  guardK false (demK r17) (fun K => hBinS B .geq false (demK r20) (.c (.p (pI 0))) f20 u20 K) f20 u20 (fun r21 f21 u21 =>
  hPick  (demK (demK r17)) (.c (.p (pB true))) (demK r21) f21 u21 (fun r22 f22 u22 =>
  headK (demK r22) (fun v2 => k .normal [(2, v2)] f22 u22))))))))))))))))))))

noncomputable def s24 : KS := fun B C n => seqK (q24_0 B C) (seqK (q24_1 B C) (retK))
theorem s24_eq (B : Sy) (C : Go.ScE.Callee) (n : Nat) : s24 B C n = evS B C n x24.body := by kernel_rfl

noncomputable def q25_0 (B : Sy) (C : Go.ScE.Callee) : Env → Fram → List Fram → KX → R0 := fun e fr up k =>
  headK (look' 0 e) (fun v0 => k .normal [(0, v0)] fr up)

noncomputable def q25_1 (B : Sy) (C : Go.ScE.Callee) : Env → Fram → List Fram → KX → R0 := fun e fr up k =>
  hBinS B .neq false (demK (demK (look' 0 e))) (.c (.p (pS []))) fr up (fun r1 f1 u1 =>
  guardK true (demK r1) (fun K => K (demK (look' 0 e)) f1 u1) f1 u1 (fun r3 f3 u3 =>
  guardK true (demK r1) (fun K => hGen C (.ixs) [(demK r3), (.c (.p (pI 0)))] f3 u3 K) f3 u3 (fun r4 f4 u4 =>
  guardK true (demK r1) (fun K => hBinS B .eql false (demK r4) (.c (.p (pK .u8 43))) f4 u4 K) f4 u4 (fun r5 f5 u5 =>
  guardK true (demK r1) (fun K => K (demK r5) f5 u5) f5 u5 (fun r6 f6 u6 =>
  guardK false r6 (fun K => K (demK (look' 0 e)) f6 u6) f6 u6 (fun r7 f7 u7 =>
  guardK false r6 (fun K => hGen C (.ixs) [(demK r7), (.c (.p (pI 0)))] f7 u7 K) f7 u7 (fun r8 f8 u8 =>
  guardK false r6 (fun K => hBinS B .eql false (demK r8) (.c (.p (pK .u8 45))) f8 u8 K) f8 u8 (fun r9 f9 u9 =>
  guardK true (demK r1) (fun K => hPick  (demK r6) (.c (.p (pB true))) (demK r9) f9 u9 K) f9 u9 (fun r10 f10 u10 =>
  hPick  (demK (demK r1)) (demK r10) (.c (.p (pB false))) f10 u10 (fun r11 f11 u11 =>
  headK (look' 0 e) (fun v0 => headK r11 (fun v15 => k .normal [(0, v0), (15, v15)] f11 u11))))))))))))

noncomputable def q25_2 (B : Sy) (C : Go.ScE.Callee) : Env → Fram → List Fram → KX → R0 := fun e fr up k =>
  hGen C (.slS true false) [(demK (demK (look' 0 e))), (.c (.p (pI 1)))] fr up (fun r1 f1 u1 =>
  headK (demK r1) (fun v0 => k .normal [(0, v0)] f1 u1))

noncomputable def q25_3 (B : Sy) (C : Go.ScE.Callee) : Env → Fram → List Fram → KX → R0 := fun e fr up k =>
  hGen C (.lenS) [(demK (demK (look' 0 e)))] fr up (fun r1 f1 u1 =>
  headK (look' 0 e) (fun v0 => headK r1 (fun v19 => headK (.c (.p (pI 0))) (fun v20 => k .normal [(0, v0), (19, v19), (20, v20)] f1 u1))))

noncomputable def q25_4 (B : Sy) (C : Go.ScE.Callee) : Env → Fram → List Fram → KX → R0 := fun e fr up k =>
  hBinS B .lss false (demK (look' 20 e)) (demK (look' 19 e)) fr up (fun r0 f0 u0 =>
  headK (look' 0 e) (fun v0 => headK (look' 19 e) (fun v19 => headK (look' 20 e) (fun v20 => headK r0 (fun v21 => k .normal [(0, v0), (19, v19), (20, v20), (21, v21)] f0 u0)))))

noncomputable def q25_5 (B : Sy) (C : Go.ScE.Callee) : Env → Fram → List Fram → KX → R0 := fun e fr up k =>
  headK (look' 0 e) (fun v0 => headK (demK (demK (look' 20 e))) (fun v3 => headK (look' 19 e) (fun v19 => headK (look' 20 e) (fun v20 => k .normal [(0, v0), (3, v3), (19, v19), (20, v20)] fr up))))

noncomputable def q25_6 (B : Sy) (C : Go.ScE.Callee) : Env → Fram → List Fram → KX → R0 := fun e fr up k =>
  hGen C (.ixs) [(demK (demK (look' 0 e))), (demK (demK (look' 3 e)))] fr up (fun r2 f2 u2 =>
  hCall C 29 [(demK r2)] f2 u2 (fun r3 f3 u3 =>
  hGen C (.un .not) [(demK r3)] f3 u3 (fun r4 f4 u4 =>
  headK (look' 0 e) (fun v0 => headK (look' 19 e) (fun v19 => headK (look' 20 e) (fun v20 => headK r4 (fun v27 => k .normal [(0, v0), (19, v19), (20, v20), (27, v27)] f4 u4)))))))

noncomputable def q25_7 (B : Sy) (C : Go.ScE.Callee) : Env → Fram → List Fram → KX → R0 := fun e fr up k =>
  headK (.c (.p (pB false))) (fun v2 => k .normal [(2, v2)] fr up)

noncomputable def q25_8 (B : Sy) (C : Go.ScE.Callee) : Env → Fram → List Fram → KX → R0 := fun e fr up k =>
  hBinS B .add false (demK (look' 20 e)) (.c (.p (pI 1))) fr up (fun r0 f0 u0 =>
  headK (look' 0 e) (fun v0 => headK (look' 19 e) (fun v19 => headK (demK r0) (fun v20 => k .normal [(0, v0), (19, v19), (20, v20)] f0 u0))))

noncomputable def q25_9 (B : Sy) (C : Go.ScE.Callee) : Env → Fram → List Fram → KX → R0 := fun e fr up k =>
  hBinS B .neq false (demK (demK (look' 0 e))) (.c (.p (pS []))) fr up (fun r1 f1 u1 =>
  headK (demK r1) (fun v2 => k .normal [(2, v2)] f1 u1))

noncomputable def s25 : KS := fun B C n => seqK (q25_0 B C) (seqK (seqK (q25_1 B C) (condK (.t 15) (q25_2 B C) (skipK))) (seqK (seqK (q25_3 B C) (blockK 0 (loopsK [0, 19, 20] [] (seqK (q25_4 B C) (seqK (condK (.t 21) (skipK) (exitK 0)) (seqK (blockK 1 (seqK (q25_5 B C) (seqK (q25_6 B C) (condK (.t 27) (seqK (q25_7 B C) (retK)) (skipK))))) (q25_8 B C)))) n))) (seqK (q25_9 B C) (retK))))
theorem s25_eq (B : Sy) (C : Go.ScE.Callee) (n : Nat) : s25 B C n = evS B C n x25.body := by kernel_rfl

noncomputable def q26_0 (B : Sy) (C : Go.ScE.Callee) : Env → Fram → List Fram → KX → R0 := fun e fr up k =>
  hGen C (.box 0) [(look' 1 e)] fr up (fun r0 f0 u0 =>
  headK (look' 0 e) (fun v0 => headK r0 (fun v3 => k .normal [(0, v0), (3, v3)] f0 u0)))

noncomputable def q26_1 (B : Sy) (C : Go.ScE.Callee) : Env → Fram → List Fram → KX → R0 := fun e fr up k =>
  hFa 0 (demK (look' 3 e)) fr up (fun r0 f0 u0 =>
  hLdS B false 1 false (demK r0) f0 u0 (fun r1 f1 u1 =>
  headK (look' 0 e) (fun v0 => headK (look' 3 e) (fun v3 => headK r1 (fun v5 => k .normal [(0, v0), (3, v3), (5, v5)] f1 u1)))))

noncomputable def q26_2 (B : Sy) (C : Go.ScE.Callee) : Env → Fram → List Fram → KX → R0 := fun e fr up k =>
  hBinS B .eql false (demK (look' 5 e)) (.c (.p (pI 0))) fr up (fun r0 f0 u0 =>
  headK (look' 0 e) (fun v0 => headK (look' 3 e) (fun v3 => headK (look' 5 e) (fun v5 => headK (demK r0) (fun v9 => k .normal [(0, v0), (3, v3), (5, v5), (9, v9)] f0 u0)))))

noncomputable def q26_3 (B : Sy) (C : Go.ScE.Callee) : Env → Fram → List Fram → KX → R0 := fun e fr up k =>
  hGen C (.nck) [(demK (demK (look' 0 e)))] fr up (fun r2 f2 u2 =>
  hFa 0 (demK r2) f2 u2 (fun r3 f3 u3 =>
  hLdS B false 1 true (demK r3) f3 u3 (fun r4 f4 u4 =>
  hFa 1 (demK (look' 3 e)) f4 u4 (fun r5 f5 u5 =>
  hLdS B false 1 false (demK r5) f5 u5 (fun r6 f6 u6 =>
  hGen C (.ixs) [(.c (.p (pS [102, 116]))), (demK r6)] f6 u6 (fun r7 f7 u7 =>
  hBlds 1 [(pK .u8 0)] 2 [0, 1] [(.c (.p (pK .u8 35))), (demK r7)] f7 u7 (fun r8 f8 u8 =>
  hApp 1 1 r4 (demK r8) f8 u8 (fun r9 f9 u9 =>
  hGen C (.nck) [(demK (demK (look' 0 e)))] f9 u9 (fun r10 f10 u10 =>
  hFa 0 (demK r10) f10 u10 (fun r11 f11 u11 =>
  hStS B 1 (demK r11) r9 f11 u11 (fun r12 f12 u12 =>
  k .normal [] f12 u12)))))))))))

noncomputable def q26_4 (B : Sy) (C : Go.ScE.Callee) : Env → Fram → List Fram → KX → R0 := fun e fr up k =>
  hBinS B .eql false (demK (look' 5 e)) (.c (.p (pI 1))) fr up (fun r0 f0 u0 =>
  headK (look' 0 e) (fun v0 => headK (look' 3 e) (fun v3 => headK (look' 5 e) (fun v5 => headK (demK r0) (fun v23 => k .normal [(0, v0), (3, v3), (5, v5), (23, v23)] f0 u0)))))

noncomputable def q26_5 (B : Sy) (C : Go.ScE.Callee) : Env → Fram → List Fram → KX → R0 := fun e fr up k =>
  hGen C (.nck) [(demK (demK (look' 0 e)))] fr up (fun r2 f2 u2 =>
  hFa 0 (demK r2) f2 u2 (fun r3 f3 u3 =>
  hLdS B false 1 true (demK r3) f3 u3 (fun r4 f4 u4 =>
  hFa 1 (demK (look' 3 e)) f4 u4 (fun r5 f5 u5 =>
  hLdS B false 1 false (demK r5) f5 u5 (fun r6 f6 u6 =>
  Bool.rec (motive := fun _ => R0) fail0 (hCall C 31 [r4, (demK r6), (.c (.p (pI 10)))] f6 u6 (fun r7 f7 u7 =>
  hGen C (.nck) [(demK (demK (look' 0 e)))] f7 u7 (fun r8 f8 u8 =>
  hFa 0 (demK r8) f8 u8 (fun r9 f9 u9 =>
  hStS B 1 (demK r9) r7 f9 u9 (fun r10 f10 u10 =>
  k .normal [] f10 u10))))) (chkD (.call 31) false [] [r4, (demK r6), (.c (.p (pI 10)))]))))))

noncomputable def q26_6 (B : Sy) (C : Go.ScE.Callee) : Env → Fram → List Fram → KX → R0 := fun e fr up k =>
  hBinS B .eql false (demK (look' 5 e)) (.c (.p (pI 2))) fr up (fun r0 f0 u0 =>
  headK (look' 0 e) (fun v0 => headK (look' 3 e) (fun v3 => headK (look' 5 e) (fun v5 => headK (demK r0) (fun v35 => k .normal [(0, v0), (3, v3), (5, v5), (35, v35)] f0 u0)))))

noncomputable def q26_7 (B : Sy) (C : Go.ScE.Callee) : Env → Fram → List Fram → KX → R0 := fun e fr up k =>
  hFa 1 (demK (look' 3 e)) fr up (fun r1 f1 u1 =>
  hLdS B false 1 false (demK r1) f1 u1 (fun r2 f2 u2 =>
  hCviS B .u8 (demK r2) f2 u2 (fun r3 f3 u3 =>
  hCall C 32 [(demK (demK (look' 0 e))), (demK r3)] f3 u3 (fun r4 f4 u4 =>
  k .normal [] f4 u4))))

noncomputable def q26_8 (B : Sy) (C : Go.ScE.Callee) : Env → Fram → List Fram → KX → R0 := fun e fr up k =>
  hBinS B .eql false (demK (look' 5 e)) (.c (.p (pI 3))) fr up (fun r0 f0 u0 =>
  headK (look' 0 e) (fun v0 => headK (look' 3 e) (fun v3 => headK (look' 5 e) (fun v5 => headK (demK r0) (fun v42 => k .normal [(0, v0), (3, v3), (5, v5), (42, v42)] f0 u0)))))

noncomputable def q26_9 (B : Sy) (C : Go.ScE.Callee) : Env → Fram → List Fram → KX → R0 := fun e fr up k =>
  hFa 2 (demK (look' 3 e)) fr up (fun r1 f1 u1 =>
  hLdS B false 1 false (demK r1) f1 u1 (fun r2 f2 u2 =>
  hCall C 33 [(demK (demK (look' 0 e))), (demK r2)] f2 u2 (fun r3 f3 u3 =>
  k .normal [] f3 u3)))

noncomputable def q26_10 (B : Sy) (C : Go.ScE.Callee) : Env → Fram → List Fram → KX → R0 := fun e fr up k =>
  hBinS B .eql false (demK (look' 5 e)) (.c (.p (pI 4))) fr up (fun r0 f0 u0 =>
  headK (look' 0 e) (fun v0 => headK (look' 3 e) (fun v3 => headK (look' 5 e) (fun v5 => headK (demK r0) (fun v48 => k .normal [(0, v0), (3, v3), (5, v5), (48, v48)] f0 u0)))))

noncomputable def q26_11 (B : Sy) (C : Go.ScE.Callee) : Env → Fram → List Fram → KX → R0 := fun e fr up k =>
  hGen C (.nck) [(demK (demK (look' 0 e)))] fr up (fun r2 f2 u2 =>
  hFa 0 (demK r2) f2 u2 (fun r3 f3 u3 =>
  hLdS B false 1 true (demK r3) f3 u3 (fun r4 f4 u4 =>
  hFa 2 (demK (look' 3 e)) f4 u4 (fun r5 f5 u5 =>
  hLdS B false 1 false (demK r5) f5 u5 (fun r6 f6 u6 =>
  hApp 1 1 r4 (demK r6) f6 u6 (fun r7 f7 u7 =>
  hGen C (.nck) [(demK (demK (look' 0 e)))] f7 u7 (fun r8 f8 u8 =>
  hFa 0 (demK r8) f8 u8 (fun r9 f9 u9 =>
  hStS B 1 (demK r9) r7 f9 u9 (fun r10 f10 u10 =>
  k .normal [] f10 u10)))))))))

noncomputable def q26_12 (B : Sy) (C : Go.ScE.Callee) : Env → Fram → List Fram → KX → R0 := fun e fr up k =>
  hBinS B .eql false (demK (look' 5 e)) (.c (.p (pI 7))) fr up (fun r0 f0 u0 =>
  headK (look' 0 e) (fun v0 => headK (look' 3 e) (fun v3 => headK (demK r0) (fun v60 => k .normal [(0, v0), (3, v3), (60, v60)] f0 u0))))

noncomputable def q26_13 (B : Sy) (C : Go.ScE.Callee) : Env → Fram → List Fram → KX → R0 := fun e fr up k =>
  hGen C (.nck) [(demK (demK (look' 0 e)))] fr up (fun r2 f2 u2 =>
  hFa 0 (demK r2) f2 u2 (fun r3 f3 u3 =>
  hLdS B false 1 true (demK r3) f3 u3 (fun r4 f4 u4 =>
  hBlds 1 [(pK .u8 0)] 1 [0] [(.c (.p (pK .u8 35)))] f4 u4 (fun r5 f5 u5 =>
  hApp 1 1 r4 (demK r5) f5 u5 (fun r6 f6 u6 =>
  hGen C (.nck) [(demK (demK (look' 0 e)))] f6 u6 (fun r7 f7 u7 =>
  hFa 0 (demK r7) f7 u7 (fun r8 f8 u8 =>
  hStS B 1 (demK r8) r6 f8 u8 (fun r9 f9 u9 =>
  headK (look' 0 e) (fun v0 => headK (look' 3 e) (fun v3 => k .normal [(0, v0), (3, v3)] f9 u9))))))))))

noncomputable def q26_14 (B : Sy) (C : Go.ScE.Callee) : Env → Fram → List Fram → KX → R0 := fun e fr up k =>
  hLdS B true 4 false (demK (look' 3 e)) fr up (fun r1 f1 u1 =>
  hCall C 34 [(demK (demK (look' 0 e))), r1] f1 u1 (fun r2 f2 u2 =>
  k .normal [] f2 u2))

noncomputable def q26_15 (B : Sy) (C : Go.ScE.Callee) : Env → Fram → List Fram → KX → R0 := fun e fr up k =>
  hLdS B true 4 false (demK (look' 3 e)) fr up (fun r1 f1 u1 =>
  hCall C 34 [(demK (demK (look' 0 e))), r1] f1 u1 (fun r2 f2 u2 =>
  k .normal [] f2 u2))

noncomputable def s26 : KS := fun B C n => seqK (q26_0 B C) (seqK (q26_1 B C) (blockK 0 (seqK (q26_2 B C) (condK (.t 9) (q26_3 B C) (seqK (q26_4 B C) (condK (.t 23) (q26_5 B C) (seqK (q26_6 B C) (condK (.t 35) (q26_7 B C) (seqK (q26_8 B C) (condK (.t 42) (q26_9 B C) (seqK (q26_10 B C) (condK (.t 48) (q26_11 B C) (seqK (q26_12 B C) (condK (.t 60) (seqK (q26_13 B C) (q26_14 B C)) (q26_15 B C)))))))))))))))
theorem s26_eq (B : Sy) (C : Go.ScE.Callee) (n : Nat) : s26 B C n = evS B C n x26.body := by kernel_rfl

noncomputable def q27_0 (B : Sy) (C : Go.ScE.Callee) : Env → Fram → List Fram → KX → R0 := fun e fr up k =>
  hGen C (.box 0) [(look' 0 e)] fr up (fun r0 f0 u0 =>
  headK r0 (fun v1 => k .normal [(1, v1)] f0 u0))

noncomputable def q27_1 (B : Sy) (C : Go.ScE.Callee) : Env → Fram → List Fram → KX → R0 := fun e fr up k =>
  hFa 0 (demK (look' 1 e)) fr up (fun r0 f0 u0 =>
  hLdS B false 1 false (demK r0) f0 u0 (fun r1 f1 u1 =>
  hBinS B .geq false (demK r1) (.c (.p (pI 5))) f1 u1 (fun r2 f2 u2 =>
  guardK true (demK r2) (fun K => hFa 0 (demK (look' 1 e)) f2 u2 K) f2 u2 (fun r4 f4 u4 =>
  guardK true (demK r2) (fun K => hLdS B false 1 false (demK r4) f4 u4 K) f4 u4 (fun r5 f5 u5 =>
  guardK true (demK r2) (fun K => hBinS B .leq false (demK r5) (.c (.p (pI 7))) f5 u5 K) f5 u5 (fun r6 f6 u6 =>
  hPick  (demK (demK r2)) (demK r6) (.c (.p (pB false))) f6 u6 (fun r7 f7 u7 =>
  headK (demK r7) (fun v2 => k .normal [(2, v2)] f7 u7))))))))

noncomputable def s27 : KS := fun B C n => seqK (q27_0 B C) (seqK (q27_1 B C) (retK))
theorem s27_eq (B : Sy) (C : Go.ScE.Callee) (n : Nat) : s27 B C n = evS B C n x27.body := by kernel_rfl

noncomputable def q28_0 (B : Sy) (C : Go.ScE.Callee) : Env → Fram → List Fram → KX → R0 := fun e fr up k =>
  hGen C (.box 0) [(look' 0 e)] fr up (fun r0 f0 u0 =>
  headK r0 (fun v1 => k .normal [(1, v1)] f0 u0))

noncomputable def q28_1 (B : Sy) (C : Go.ScE.Callee) : Env → Fram → List Fram → KX → R0 := fun e fr up k =>
  headK (look' 1 e) (fun v1 => headK (.c (.p (pI 0))) (fun v3 => headK (.c (.p (pS []))) (fun v4 => k .normal [(1, v1), (3, v3), (4, v4)] fr up)))

noncomputable def q28_2 (B : Sy) (C : Go.ScE.Callee) : Env → Fram → List Fram → KX → R0 := fun e fr up k =>
  hFa 0 (demK (look' 1 e)) fr up (fun r0 f0 u0 =>
  hLdS B false 1 false (demK r0) f0 u0 (fun r1 f1 u1 =>
  headK (look' 1 e) (fun v1 => headK (look' 3 e) (fun v3 => headK (look' 4 e) (fun v4 => headK r1 (fun v6 => k .normal [(1, v1), (3, v3), (4, v4), (6, v6)] f1 u1))))))

noncomputable def q28_3 (B : Sy) (C : Go.ScE.Callee) : Env → Fram → List Fram → KX → R0 := fun e fr up k =>
  hBinS B .eql false (demK (look' 6 e)) (.c (.p (pI 0))) fr up (fun r0 f0 u0 =>
  headK (look' 1 e) (fun v1 => headK (look' 3 e) (fun v3 => headK (look' 4 e) (fun v4 => headK (look' 6 e) (fun v6 => headK (demK r0) (fun v7 => k .normal [(1, v1), (3, v3), (4, v4), (6, v6), (7, v7)] f0 u0))))))

noncomputable def q28_4 (B : Sy) (C : Go.ScE.Callee) : Env → Fram → List Fram → KX → R0 := fun e fr up k =>
  hFa 1 (demK (look' 1 e)) fr up (fun r0 f0 u0 =>
  hLdS B false 1 false (demK r0) f0 u0 (fun r1 f1 u1 =>
  hBinS B .and false (demK r1) (.c (.p (pI 1))) f1 u1 (fun r2 f2 u2 =>
  headK (look' 1 e) (fun v1 => headK (demK r2) (fun v3 => headK (look' 4 e) (fun v4 => k .normal [(1, v1), (3, v3), (4, v4)] f2 u2))))))

noncomputable def q28_5 (B : Sy) (C : Go.ScE.Callee) : Env → Fram → List Fram → KX → R0 := fun e fr up k =>
  hBinS B .eql false (demK (look' 6 e)) (.c (.p (pI 1))) fr up (fun r0 f0 u0 =>
  headK (look' 1 e) (fun v1 => headK (look' 3 e) (fun v3 => headK (look' 4 e) (fun v4 => headK (look' 6 e) (fun v6 => headK (demK r0) (fun v12 => k .normal [(1, v1), (3, v3), (4, v4), (6, v6), (12, v12)] f0 u0))))))

noncomputable def q28_6 (B : Sy) (C : Go.ScE.Callee) : Env → Fram → List Fram → KX → R0 := fun e fr up k =>
  hFa 1 (demK (look' 1 e)) fr up (fun r0 f0 u0 =>
  hLdS B false 1 false (demK r0) f0 u0 (fun r1 f1 u1 =>
  hGen C (.mx) [(demK r1), (.c (.p (pI (-1152921504606846976))))] f1 u1 (fun r2 f2 u2 =>
  hGen C (.mn) [(demK r2), (.c (.p (pI 1152921504606846975)))] f2 u2 (fun r3 f3 u3 =>
  headK (look' 1 e) (fun v1 => headK (demK r3) (fun v3 => headK (look' 4 e) (fun v4 => k .normal [(1, v1), (3, v3), (4, v4)] f3 u3)))))))

noncomputable def q28_7 (B : Sy) (C : Go.ScE.Callee) : Env → Fram → List Fram → KX → R0 := fun e fr up k =>
  hBinS B .eql false (demK (look' 6 e)) (.c (.p (pI 2))) fr up (fun r0 f0 u0 =>
  headK (look' 1 e) (fun v1 => headK (look' 3 e) (fun v3 => headK (look' 4 e) (fun v4 => headK (look' 6 e) (fun v6 => headK (demK r0) (fun v18 => k .normal [(1, v1), (3, v3), (4, v4), (6, v6), (18, v18)] f0 u0))))))

noncomputable def q28_8 (B : Sy) (C : Go.ScE.Callee) : Env → Fram → List Fram → KX → R0 := fun e fr up k =>
  hFa 1 (demK (look' 1 e)) fr up (fun r0 f0 u0 =>
  hLdS B false 1 false (demK r0) f0 u0 (fun r1 f1 u1 =>
  hBinS B .and false (demK r1) (.c (.p (pI 255))) f1 u1 (fun r2 f2 u2 =>
  headK (look' 1 e) (fun v1 => headK (demK r2) (fun v3 => headK (look' 4 e) (fun v4 => k .normal [(1, v1), (3, v3), (4, v4)] f2 u2))))))

noncomputable def q28_9 (B : Sy) (C : Go.ScE.Callee) : Env → Fram → List Fram → KX → R0 := fun e fr up k =>
  hBinS B .eql false (demK (look' 6 e)) (.c (.p (pI 3))) fr up (fun r0 f0 u0 =>
  headK (look' 1 e) (fun v1 => headK (look' 3 e) (fun v3 => headK (look' 4 e) (fun v4 => headK (look' 6 e) (fun v6 => headK (demK r0) (fun v23 => k .normal [(1, v1), (3, v3), (4, v4), (6, v6), (23, v23)] f0 u0))))))

noncomputable def q28_10 (B : Sy) (C : Go.ScE.Callee) : Env → Fram → List Fram → KX → R0 := fun e fr up k =>
  hFa 2 (demK (look' 1 e)) fr up (fun r0 f0 u0 =>
  hLdS B false 1 false (demK r0) f0 u0 (fun r1 f1 u1 =>
  hFa 2 (demK (look' 1 e)) f1 u1 (fun r2 f2 u2 =>
  hLdS B false 1 false (demK r2) f2 u2 (fun r3 f3 u3 =>
  hGen C (.lenS) [(demK r3)] f3 u3 (fun r4 f4 u4 =>
  hGen C (.mn) [(demK r4), (.c (.p (pI 4096)))] f4 u4 (fun r5 f5 u5 =>
  hGen C (.slS false true) [(demK r1), (demK r5)] f5 u5 (fun r6 f6 u6 =>
  headK (look' 1 e) (fun v1 => headK (look' 3 e) (fun v3 => headK (demK r6) (fun v4 => k .normal [(1, v1), (3, v3), (4, v4)] f6 u6))))))))))

noncomputable def q28_11 (B : Sy) (C : Go.ScE.Callee) : Env → Fram → List Fram → KX → R0 := fun e fr up k =>
  hBinS B .eql false (demK (look' 6 e)) (.c (.p (pI 4))) fr up (fun r0 f0 u0 =>
  headK (look' 1 e) (fun v1 => headK (look' 3 e) (fun v3 => headK (look' 4 e) (fun v4 => headK (demK r0) (fun v32 => k .normal [(1, v1), (3, v3), (4, v4), (32, v32)] f0 u0)))))

noncomputable def q28_12 (B : Sy) (C : Go.ScE.Callee) : Env → Fram → List Fram → KX → R0 := fun e fr up k =>
  hFa 2 (demK (look' 1 e)) fr up (fun r0 f0 u0 =>
  hLdS B false 1 false (demK r0) f0 u0 (fun r1 f1 u1 =>
  headK (look' 1 e) (fun v1 => headK (look' 3 e) (fun v3 => headK (demK r1) (fun v4 => k .normal [(1, v1), (3, v3), (4, v4)] f1 u1)))))

noncomputable def q28_13 (B : Sy) (C : Go.ScE.Callee) : Env → Fram → List Fram → KX → R0 := fun e fr up k =>
  hFa 1 (demK (look' 1 e)) fr up (fun r0 f0 u0 =>
  hLdS B false 1 false (demK r0) f0 u0 (fun r1 f1 u1 =>
  hBinS B .neq false (demK r1) (demK (demK (look' 3 e))) f1 u1 (fun r3 f3 u3 =>
  guardK false (demK r3) (fun K => hFa 2 (demK (look' 1 e)) f3 u3 K) f3 u3 (fun r5 f5 u5 =>
  guardK false (demK r3) (fun K => hLdS B false 1 false (demK r5) f5 u5 K) f5 u5 (fun r6 f6 u6 =>
  guardK false (demK r3) (fun K => K (demK (look' 4 e)) f6 u6) f6 u6 (fun r7 f7 u7 =>
  guardK false (demK r3) (fun K => hBinS B .neq false (demK r6) (demK r7) f7 u7 K) f7 u7 (fun r8 f8 u8 =>
  hPick  (demK (demK r3)) (.c (.p (pB true))) (demK r8) f8 u8 (fun r9 f9 u9 =>
  guardK false (demK r9) (fun K => hFa 3 (demK (look' 1 e)) f9 u9 K) f9 u9 (fun r11 f11 u11 =>
  guardK false (demK r9) (fun K => hLdS B false 1 false (demK r11) f11 u11 K) f11 u11 (fun r12 f12 u12 =>
  guardK false (demK r9) (fun K => hLenLS B  (demK r12) f12 u12 K) f12 u12 (fun r13 f13 u13 =>
  guardK false (demK r9) (fun K => hBinS B .gtr false (demK r13) (.c (.p (pI 0))) f13 u13 K) f13 u13 (fun r14 f14 u14 =>
  guardK false (demK r9) (fun K => K (demK r14) f14 u14) f14 u14 (fun r15 f15 u15 =>
  guardK true r15 (fun K => hLdS B true 4 false (demK (look' 1 e)) f15 u15 K) f15 u15 (fun r16 f16 u16 =>
  guardK true r15 (fun K => hCall C 27 [(demK r16)] f16 u16 K) f16 u16 (fun r17 f17 u17 =>
  guardK true r15 (fun K => hGen C (.un .not) [(demK r17)] f17 u17 K) f17 u17 (fun r18 f18 u18 =>
  guardK false (demK r9) (fun K => hPick  (demK r15) (demK r18) (.c (.p (pB false))) f18 u18 K) f18 u18 (fun r19 f19 u19 =>
  hPick  (demK (demK r9)) (.c (.p (pB true))) (demK r19) f19 u19 (fun r20 f20 u20 =>
  headK (look' 1 e) (fun v1 => headK r20 (fun v56 => k .normal [(1, v1), (56, v56)] f20 u20))))))))))))))))))))

noncomputable def q28_14 (B : Sy) (C : Go.ScE.Callee) : Env → Fram → List Fram → KX → R0 := fun e fr up k =>
  headK (.c (.p (pB false))) (fun v2 => k .normal [(2, v2)] fr up)

noncomputable def q28_15 (B : Sy) (C : Go.ScE.Callee) : Env → Fram → List Fram → KX → R0 := fun e fr up k =>
  hFa 0 (demK (look' 1 e)) fr up (fun r0 f0 u0 =>
  hLdS B false 1 false (demK r0) f0 u0 (fun r1 f1 u1 =>
  headK (look' 1 e) (fun v1 => headK r1 (fun v58 => k .normal [(1, v1), (58, v58)] f1 u1))))

noncomputable def q28_16 (B : Sy) (C : Go.ScE.Callee) : Env → Fram → List Fram → KX → R0 := fun e fr up k =>
  hBinS B .eql false (demK (look' 58 e)) (.c (.p (pI 4))) fr up (fun r0 f0 u0 =>
  headK (look' 1 e) (fun v1 => headK (look' 58 e) (fun v58 => headK (demK r0) (fun v59 => k .normal [(1, v1), (58, v58), (59, v59)] f0 u0))))

noncomputable def q28_17 (B : Sy) (C : Go.ScE.Callee) : Env → Fram → List Fram → KX → R0 := fun e fr up k =>
  hFa 2 (demK (look' 1 e)) fr up (fun r0 f0 u0 =>
  hLdS B false 1 false (demK r0) f0 u0 (fun r1 f1 u1 =>
  hCall C 18 [(demK r1)] f1 u1 (fun r2 f2 u2 =>
  headK (demK r2) (fun v2 => k .normal [(2, v2)] f2 u2))))

noncomputable def q28_18 (B : Sy) (C : Go.ScE.Callee) : Env → Fram → List Fram → KX → R0 := fun e fr up k =>
  hBinS B .eql false (demK (look' 58 e)) (.c (.p (pI 6))) fr up (fun r0 f0 u0 =>
  headK (look' 1 e) (fun v1 => headK (demK r0) (fun v64 => k .normal [(1, v1), (64, v64)] f0 u0)))

noncomputable def q28_19 (B : Sy) (C : Go.ScE.Callee) : Env → Fram → List Fram → KX → R0 := fun e fr up k =>
  hFa 3 (demK (look' 1 e)) fr up (fun r0 f0 u0 =>
  hLdS B false 1 false (demK r0) f0 u0 (fun r1 f1 u1 =>
  hLenLS B  (demK r1) f1 u1 (fun r2 f2 u2 =>
  hBinS B .gtr false (demK r2) (.c (.p (pI 1))) f2 u2 (fun r3 f3 u3 =>
  guardK true (demK r3) (fun K => hFa 3 (demK (look' 1 e)) f3 u3 K) f3 u3 (fun r5 f5 u5 =>
  guardK true (demK r3) (fun K => hLdS B false 1 false (demK r5) f5 u5 K) f5 u5 (fun r6 f6 u6 =>
  guardK true (demK r3) (fun K => hFa 3 (demK (look' 1 e)) f6 u6 K) f6 u6 (fun r7 f7 u7 =>
  guardK true (demK r3) (fun K => hLdS B false 1 false (demK r7) f7 u7 K) f7 u7 (fun r8 f8 u8 =>
  guardK true (demK r3) (fun K => hLenLS B  (demK r8) f8 u8 K) f8 u8 (fun r9 f9 u9 =>
  guardK true (demK r3) (fun K => hBinS B .sub false (demK r9) (.c (.p (pI 1))) f9 u9 K) f9 u9 (fun r10 f10 u10 =>
  guardK true (demK r3) (fun K => hIaS B 4 (demK r6) (demK r10) f10 u10 K) f10 u10 (fun r11 f11 u11 =>
  guardK true (demK r3) (fun K => hFa 0 (demK r11) f11 u11 K) f11 u11 (fun r12 f12 u12 =>
  guardK true (demK r3) (fun K => hLdS B false 1 false (demK r12) f12 u12 K) f12 u12 (fun r13 f13 u13 =>
  guardK true (demK r3) (fun K => hBinS B .neq false (demK r13) (.c (.p (pI 5))) f13 u13 K) f13 u13 (fun r14 f14 u14 =>
  hPick  (demK (demK r3)) (demK r14) (.c (.p (pB false))) f14 u14 (fun r15 f15 u15 =>
  guardK true (demK r15) (fun K => hFa 3 (demK (look' 1 e)) f15 u15 K) f15 u15 (fun r17 f17 u17 =>
  guardK true (demK r15) (fun K => hLdS B false 1 false (demK r17) f17 u17 K) f17 u17 (fun r18 f18 u18 =>
  guardK true (demK r15) (fun K => hFa 3 (demK (look' 1 e)) f18 u18 K) f18 u18 (fun r19 f19 u19 =>
  guardK true (demK r15) (fun K => hLdS B false 1 false (demK r19) f19 u19 K) f19 u19 (fun r20 f20 u20 =>
  guardK true (demK r15) (fun K => hLenLS B  (demK r20) f20 u20 K) f20 u20 (fun r21 f21 u21 =>
  guardK true (demK r15) (fun K => hBinS B .sub false (demK r21) (.c (.p (pI 1))) f21 u21 K) f21 u21 (fun r22 f22 u22 =>
  guardK true (demK r15) (fun K => hIaS B 4 (demK r18) (demK r22) f22 u22 K) f22 u22 (fun r23 f23 u23 =>
  guardK true (demK r15) (fun K => hFa 0 (demK r23) f23 u23 K) f23 u23 (fun r24 f24 u24 =>
  guardK true (demK r15) (fun K => hLdS B false 1 false (demK r24) f24 u24 K) f24 u24 (fun r25 f25 u25 =>
  guardK true (demK r15) (fun K => hBinS B .neq false (demK r25) (.c (.p (pI 6))) f25 u25 K) f25 u25 (fun r26 f26 u26 =>
  hPick  (demK (demK r15)) (demK r26) (.c (.p (pB false))) f26 u26 (fun r27 f27 u27 =>
  headK (demK r27) (fun v2 => k .normal [(2, v2)] f27 u27)))))))))))))))))))))))))))

noncomputable def q28_20 (B : Sy) (C : Go.ScE.Callee) : Env → Fram → List Fram → KX → R0 := fun e fr up k =>
  hFa 0 (demK (look' 1 e)) fr up (fun r0 f0 u0 =>
  hLdS B false 1 false (demK r0) f0 u0 (fun r1 f1 u1 =>
  hBinS B .geq false (demK r1) (.c (.p (pI 0))) f1 u1 (fun r2 f2 u2 =>
  guardK true (demK r2) (fun K => hFa 0 (demK (look' 1 e)) f2 u2 K) f2 u2 (fun r4 f4 u4 =>
  guardK true (demK r2) (fun K => hLdS B false 1 false (demK r4) f4 u4 K) f4 u4 (fun r5 f5 u5 =>
  guardK true (demK r2) (fun K => hBinS B .lss false (demK r5) (.c (.p (pI 8))) f5 u5 K) f5 u5 (fun r6 f6 u6 =>
  hPick  (demK (demK r2)) (demK r6) (.c (.p (pB false))) f6 u6 (fun r7 f7 u7 =>
  headK (demK r7) (fun v2 => k .normal [(2, v2)] f7 u7))))))))

noncomputable def s28 : KS := fun B C n => seqK (q28_0 B C) (seqK (q28_1 B C) (seqK (seqK (q28_2 B C) (blockK 0 (seqK (q28_3 B C) (condK (.t 7) (q28_4 B C) (seqK (q28_5 B C) (condK (.t 12) (q28_6 B C) (seqK (q28_7 B C) (condK (.t 18) (q28_8 B C) (seqK (q28_9 B C) (condK (.t 23) (q28_10 B C) (seqK (q28_11 B C) (condK (.t 32) (q28_12 B C) (skipK))))))))))))) (seqK (seqK (q28_13 B C) (condK (.t 56) (seqK (q28_14 B C) (retK)) (skipK))) (seqK (seqK (q28_15 B C) (blockK 1 (seqK (q28_16 B C) (condK (.t 59) (seqK (q28_17 B C) (retK)) (seqK (q28_18 B C) (condK (.t 64) (seqK (q28_19 B C) (retK)) (skipK))))))) (seqK (q28_20 B C) (retK))))))
theorem s28_eq (B : Sy) (C : Go.ScE.Callee) (n : Nat) : s28 B C n = evS B C n x28.body := by kernel_rfl

noncomputable def q29_0 (B : Sy) (C : Go.ScE.Callee) : Env → Fram → List Fram → KX → R0 := fun e fr up k =>
  headK (look' 0 e) (fun v0 => k .normal [(0, v0)] fr up)

noncomputable def q29_1 (B : Sy) (C : Go.ScE.Callee) : Env → Fram → List Fram → KX → R0 := fun e fr up k =>
  hBinS B .geq false (demK (demK (look' 0 e))) (.c (.p (pK .u8 48))) fr up (fun r1 f1 u1 =>
  guardK true (demK r1) (fun K => K (demK (look' 0 e)) f1 u1) f1 u1 (fun r3 f3 u3 =>
  guardK true (demK r1) (fun K => hBinS B .leq false (demK r3) (.c (.p (pK .u8 57))) f3 u3 K) f3 u3 (fun r4 f4 u4 =>
  hPick  (demK (demK r1)) (demK r4) (.c (.p (pB false))) f4 u4 (fun r5 f5 u5 =>
  headK (demK r5) (fun v2 => k .normal [(2, v2)] f5 u5)))))

noncomputable def s29 : KS := fun B C n => seqK (q29_0 B C) (seqK (q29_1 B C) (retK))
theorem s29_eq (B : Sy) (C : Go.ScE.Callee) (n : Nat) : s29 B C n = evS B C n x29.body := by kernel_rfl

noncomputable def q30_0 (B : Sy) (C : Go.ScE.Callee) : Env → Fram → List Fram → KX → R0 := fun e fr up k =>
  headK (look' 0 e) (fun v0 => headK (look' 1 e) (fun v1 => k .normal [(0, v0), (1, v1)] fr up))

noncomputable def q30_1 (B : Sy) (C : Go.ScE.Callee) : Env → Fram → List Fram → KX → R0 := fun e fr up k =>
  hCall C 35 [(demK (demK (look' 0 e))), (demK (demK (look' 1 e)))] fr up (fun r2 f2 u2 =>
  headK (demK r2) (fun v4 => k .normal [(4, v4)] f2 u2))

noncomputable def s30 : KS := fun B C n => seqK (q30_0 B C) (seqK (q30_1 B C) (retK))
theorem s30_eq (B : Sy) (C : Go.ScE.Callee) (n : Nat) : s30 B C n = evS B C n x30.body := by kernel_rfl

noncomputable def q31_0 (B : Sy) (C : Go.ScE.Callee) : Env → Fram → List Fram → KX → R0 := fun e fr up k =>
  headK (look' 0 e) (fun v0 => headK (look' 1 e) (fun v1 => headK (look' 2 e) (fun v2 => k .normal [(0, v0), (1, v1), (2, v2)] fr up)))

noncomputable def q31_1 (B : Sy) (C : Go.ScE.Callee) : Env → Fram → List Fram → KX → R0 := fun e fr up k =>
  hCall C 36 [(look' 0 e), (demK (demK (look' 1 e))), (demK (demK (look' 2 e)))] fr up (fun r3 f3 u3 =>
  headK r3 (fun v6 => k .normal [(6, v6)] f3 u3))

noncomputable def s31 : KS := fun B C n => seqK (q31_0 B C) (seqK (q31_1 B C) (retK))
theorem s31_eq (B : Sy) (C : Go.ScE.Callee) (n : Nat) : s31 B C n = evS B C n x31.body := by kernel_rfl

noncomputable def q32_0 (B : Sy) (C : Go.ScE.Callee) : Env → Fram → List Fram → KX → R0 := fun e fr up k =>
  hGen C (.nck) [(demK (demK (look' 0 e)))] fr up (fun r1 f1 u1 =>
  hFa 1 (demK r1) f1 u1 (fun r2 f2 u2 =>
  hLdS B false 1 false (demK r2) f2 u2 (fun r3 f3 u3 =>
  headK (look' 0 e) (fun v0 => headK (look' 1 e) (fun v1 => headK (demK r3) (fun v19 => k .normal [(0, v0), (1, v1), (19, v19)] f3 u3))))))

noncomputable def q32_1 (B : Sy) (C : Go.ScE.Callee) : Env → Fram → List Fram → KX → R0 := fun e fr up k =>
  hGen C (.nck) [(demK (demK (look' 0 e)))] fr up (fun r2 f2 u2 =>
  hFa 0 (demK r2) f2 u2 (fun r3 f3 u3 =>
  hLdS B false 1 true (demK r3) f3 u3 (fun r4 f4 u4 =>
  hBlds 1 [(pK .u8 0)] 1 [0] [(demK (demK (look' 1 e)))] f4 u4 (fun r6 f6 u6 =>
  hApp 1 1 r4 (demK r6) f6 u6 (fun r7 f7 u7 =>
  hGen C (.nck) [(demK (demK (look' 0 e)))] f7 u7 (fun r8 f8 u8 =>
  hFa 0 (demK r8) f8 u8 (fun r9 f9 u9 =>
  hStS B 1 (demK r9) r7 f9 u9 (fun r10 f10 u10 =>
  k .normal [] f10 u10))))))))

noncomputable def q32_2 (B : Sy) (C : Go.ScE.Callee) : Env → Fram → List Fram → KX → R0 := fun e fr up k =>
  hBinS B .eql false (demK (demK (look' 1 e))) (.c (.p (pK .u8 32))) fr up (fun r1 f1 u1 =>
  headK (look' 0 e) (fun v0 => headK (look' 1 e) (fun v1 => headK (demK r1) (fun v34 => k .normal [(0, v0), (1, v1), (34, v34)] f1 u1))))

noncomputable def q32_3 (B : Sy) (C : Go.ScE.Callee) : Env → Fram → List Fram → KX → R0 := fun e fr up k =>
  hGen C (.nck) [(demK (demK (look' 0 e)))] fr up (fun r2 f2 u2 =>
  hFa 0 (demK r2) f2 u2 (fun r3 f3 u3 =>
  hLdS B false 1 true (demK r3) f3 u3 (fun r4 f4 u4 =>
  hApp 1 1 r4 (.c (.p (pS [35, 92, 115, 112, 97, 99, 101]))) f4 u4 (fun r5 f5 u5 =>
  hGen C (.nck) [(demK (demK (look' 0 e)))] f5 u5 (fun r6 f6 u6 =>
  hFa 0 (demK r6) f6 u6 (fun r7 f7 u7 =>
  hStS B 1 (demK r7) r5 f7 u7 (fun r8 f8 u8 =>
  k .normal [] f8 u8)))))))

noncomputable def q32_4 (B : Sy) (C : Go.ScE.Callee) : Env → Fram → List Fram → KX → R0 := fun e fr up k =>
  hBinS B .eql false (demK (demK (look' 1 e))) (.c (.p (pK .u8 10))) fr up (fun r1 f1 u1 =>
  headK (look' 0 e) (fun v0 => headK (look' 1 e) (fun v1 => headK (demK r1) (fun v45 => k .normal [(0, v0), (1, v1), (45, v45)] f1 u1))))

noncomputable def q32_5 (B : Sy) (C : Go.ScE.Callee) : Env → Fram → List Fram → KX → R0 := fun e fr up k =>
  hGen C (.nck) [(demK (demK (look' 0 e)))] fr up (fun r2 f2 u2 =>
  hFa 0 (demK r2) f2 u2 (fun r3 f3 u3 =>
  hLdS B false 1 true (demK r3) f3 u3 (fun r4 f4 u4 =>
  hApp 1 1 r4 (.c (.p (pS [35, 92, 110, 101, 119, 108, 105, 110, 101]))) f4 u4 (fun r5 f5 u5 =>
  hGen C (.nck) [(demK (demK (look' 0 e)))] f5 u5 (fun r6 f6 u6 =>
  hFa 0 (demK r6) f6 u6 (fun r7 f7 u7 =>
  hStS B 1 (demK r7) r5 f7 u7 (fun r8 f8 u8 =>
  k .normal [] f8 u8)))))))

noncomputable def q32_6 (B : Sy) (C : Go.ScE.Callee) : Env → Fram → List Fram → KX → R0 := fun e fr up k =>
  hBinS B .gtr false (demK (demK (look' 1 e))) (.c (.p (pK .u8 32))) fr up (fun r1 f1 u1 =>
  guardK true (demK r1) (fun K => K (demK (look' 1 e)) f1 u1) f1 u1 (fun r3 f3 u3 =>
  guardK true (demK r1) (fun K => hBinS B .lss false (demK r3) (.c (.p (pK .u8 127))) f3 u3 K) f3 u3 (fun r4 f4 u4 =>
  hPick  (demK (demK r1)) (demK r4) (.c (.p (pB false))) f4 u4 (fun r5 f5 u5 =>
  headK (look' 0 e) (fun v0 => headK (look' 1 e) (fun v1 => headK (demK r5) (fun v56 => k .normal [(0, v0), (1, v1), (56, v56)] f5 u5)))))))

noncomputable def q32_7 (B : Sy) (C : Go.ScE.Callee) : Env → Fram → List Fram → KX → R0 := fun e fr up k =>
  hGen C (.nck) [(demK (demK (look' 0 e)))] fr up (fun r2 f2 u2 =>
  hFa 0 (demK r2) f2 u2 (fun r3 f3 u3 =>
  hLdS B false 1 true (demK r3) f3 u3 (fun r4 f4 u4 =>
  hBlds 1 [(pK .u8 0)] 3 [0, 1, 2] [(.c (.p (pK .u8 35))), (.c (.p (pK .u8 92))), (demK (demK (look' 1 e)))] f4 u4 (fun r6 f6 u6 =>
  hApp 1 1 r4 (demK r6) f6 u6 (fun r7 f7 u7 =>
  hGen C (.nck) [(demK (demK (look' 0 e)))] f7 u7 (fun r8 f8 u8 =>
  hFa 0 (demK r8) f8 u8 (fun r9 f9 u9 =>
  hStS B 1 (demK r9) r7 f9 u9 (fun r10 f10 u10 =>
  k .normal [] f10 u10))))))))

noncomputable def q32_8 (B : Sy) (C : Go.ScE.Callee) : Env → Fram → List Fram → KX → R0 := fun e fr up k =>
  hGen C (.nck) [(demK (demK (look' 0 e)))] fr up (fun r2 f2 u2 =>
  hFa 0 (demK r2) f2 u2 (fun r3 f3 u3 =>
  hLdS B false 1 true (demK r3) f3 u3 (fun r4 f4 u4 =>
  hBinS B .shr false (demK (demK (look' 1 e))) (.c (.p (pK .u64 4))) f4 u4 (fun r6 f6 u6 =>
  hGen C (.ixs) [(.c (.p (pS [48, 49, 50, 51, 52, 53, 54, 55, 56, 57, 97, 98, 99, 100, 101, 102]))), (demK r6)] f6 u6 (fun r7 f7 u7 =>
  hBinS B .and false (demK (demK (look' 1 e))) (.c (.p (pK .u8 15))) f7 u7 (fun r9 f9 u9 =>
  hGen C (.ixs) [(.c (.p (pS [48, 49, 50, 51, 52, 53, 54, 55, 56, 57, 97, 98, 99, 100, 101, 102]))), (demK r9)] f9 u9 (fun r10 f10 u10 =>
  hBlds 1 [(pK .u8 0)] 5 [0, 1, 2, 3, 4] [(.c (.p (pK .u8 35))), (.c (.p (pK .u8 92))), (.c (.p (pK .u8 120))), (demK r7), (demK r10)] f10 u10 (fun r11 f11 u11 =>
  hApp 1 1 r4 (demK r11) f11 u11 (fun r12 f12 u12 =>
  hGen C (.nck) [(demK (demK (look' 0 e)))] f12 u12 (fun r13 f13 u13 =>
  hFa 0 (demK r13) f13 u13 (fun r14 f14 u14 =>
  hStS B 1 (demK r14) r12 f14 u14 (fun r15 f15 u15 =>
  k .normal [] f15 u15))))))))))))

noncomputable def s32 : KS := fun B C n => blockK 0 (seqK (q32_0 B C) (condK (.t 19) (q32_1 B C) (seqK (q32_2 B C) (condK (.t 34) (q32_3 B C) (seqK (q32_4 B C) (condK (.t 45) (q32_5 B C) (seqK (q32_6 B C) (condK (.t 56) (q32_7 B C) (q32_8 B C)))))))))
theorem s32_eq (B : Sy) (C : Go.ScE.Callee) (n : Nat) : s32 B C n = evS B C n x32.body := by kernel_rfl

noncomputable def q33_0 (B : Sy) (C : Go.ScE.Callee) : Env → Fram → List Fram → KX → R0 := fun e fr up k =>
  hGen C (.nck) [(demK (demK (look' 0 e)))] fr up (fun r1 f1 u1 =>
  hFa 1 (demK r1) f1 u1 (fun r2 f2 u2 =>
  hLdS B false 1 false (demK r2) f2 u2 (fun r3 f3 u3 =>
  headK (look' 0 e) (fun v0 => headK (look' 1 e) (fun v1 => headK r3 (fun v9 => k .normal [(0, v0), (1, v1), (9, v9)] f3 u3))))))

noncomputable def q33_1 (B : Sy) (C : Go.ScE.Callee) : Env → Fram → List Fram → KX → R0 := fun e fr up k =>
  hGen C (.nck) [(demK (demK (look' 0 e)))] fr up (fun r2 f2 u2 =>
  hFa 0 (demK r2) f2 u2 (fun r3 f3 u3 =>
  hLdS B false 1 true (demK r3) f3 u3 (fun r4 f4 u4 =>
  hApp 1 1 r4 (demK (demK (look' 1 e))) f4 u4 (fun r6 f6 u6 =>
  hGen C (.nck) [(demK (demK (look' 0 e)))] f6 u6 (fun r7 f7 u7 =>
  hFa 0 (demK r7) f7 u7 (fun r8 f8 u8 =>
  hStS B 1 (demK r8) r6 f8 u8 (fun r9 f9 u9 =>
  k .normal [] f9 u9)))))))

noncomputable def q33_2 (B : Sy) (C : Go.ScE.Callee) : Env → Fram → List Fram → KX → R0 := fun e fr up k =>
  hGen C (.nck) [(demK (demK (look' 0 e)))] fr up (fun r2 f2 u2 =>
  hFa 0 (demK r2) f2 u2 (fun r3 f3 u3 =>
  hLdS B false 1 true (demK r3) f3 u3 (fun r4 f4 u4 =>
  hBlds 1 [(pK .u8 0)] 1 [0] [(.c (.p (pK .u8 34)))] f4 u4 (fun r5 f5 u5 =>
  hApp 1 1 r4 (demK r5) f5 u5 (fun r6 f6 u6 =>
  hGen C (.nck) [(demK (demK (look' 0 e)))] f6 u6 (fun r7 f7 u7 =>
  hFa 0 (demK r7) f7 u7 (fun r8 f8 u8 =>
  hStS B 1 (demK r8) r6 f8 u8 (fun r9 f9 u9 =>
  headK (look' 0 e) (fun v0 => headK (look' 1 e) (fun v1 => k .normal [(0, v0), (1, v1)] f9 u9))))))))))

noncomputable def q33_3 (B : Sy) (C : Go.ScE.Callee) : Env → Fram → List Fram → KX → R0 := fun e fr up k =>
  hGen C (.lenS) [(demK (demK (look' 1 e)))] fr up (fun r1 f1 u1 =>
  headK (look' 0 e) (fun v0 => headK (look' 1 e) (fun v1 => headK r1 (fun v29 => headK (.c (.p (pI 0))) (fun v30 => k .normal [(0, v0), (1, v1), (29, v29), (30, v30)] f1 u1)))))

noncomputable def q33_4 (B : Sy) (C : Go.ScE.Callee) : Env → Fram → List Fram → KX → R0 := fun e fr up k =>
  hBinS B .lss false (demK (look' 30 e)) (demK (look' 29 e)) fr up (fun r0 f0 u0 =>
  headK (look' 0 e) (fun v0 => headK (look' 1 e) (fun v1 => headK (look' 29 e) (fun v29 => headK (look' 30 e) (fun v30 => headK r0 (fun v31 => k .normal [(0, v0), (1, v1), (29, v29), (30, v30), (31, v31)] f0 u0))))))

noncomputable def q33_5 (B : Sy) (C : Go.ScE.Callee) : Env → Fram → List Fram → KX → R0 := fun e fr up k =>
  headK (look' 0 e) (fun v0 => headK (look' 1 e) (fun v1 => headK (demK (demK (look' 30 e))) (fun v4 => headK (look' 29 e) (fun v29 => headK (look' 30 e) (fun v30 => k .normal [(0, v0), (1, v1), (4, v4), (29, v29), (30, v30)] fr up)))))

noncomputable def q33_6 (B : Sy) (C : Go.ScE.Callee) : Env → Fram → List Fram → KX → R0 := fun e fr up k =>
  hGen C (.ixs) [(demK (demK (look' 1 e))), (demK (demK (look' 4 e)))] fr up (fun r2 f2 u2 =>
  headK (look' 0 e) (fun v0 => headK (look' 1 e) (fun v1 => headK (demK r2) (fun v5 => headK (look' 29 e) (fun v29 => headK (look' 30 e) (fun v30 => k .normal [(0, v0), (1, v1), (5, v5), (29, v29), (30, v30)] f2 u2))))))

noncomputable def q33_7 (B : Sy) (C : Go.ScE.Callee) : Env → Fram → List Fram → KX → R0 := fun e fr up k =>
  hBinS B .eql false (demK (demK (look' 5 e))) (.c (.p (pK .u8 34))) fr up (fun r1 f1 u1 =>
  guardK false (demK r1) (fun K => K (demK (look' 5 e)) f1 u1) f1 u1 (fun r3 f3 u3 =>
  guardK false (demK r1) (fun K => hBinS B .eql false (demK r3) (.c (.p (pK .u8 92))) f3 u3 K) f3 u3 (fun r4 f4 u4 =>
  hPick  (demK (demK r1)) (.c (.p (pB true))) (demK r4) f4 u4 (fun r5 f5 u5 =>
  headK (look' 0 e) (fun v0 => headK (look' 1 e) (fun v1 => headK (look' 5 e) (fun v5 => headK (look' 29 e) (fun v29 => headK (look' 30 e) (fun v30 => headK (demK r5) (fun v46 => k .normal [(0, v0), (1, v1), (5, v5), (29, v29), (30, v30), (46, v46)] f5 u5))))))))))

noncomputable def q33_8 (B : Sy) (C : Go.ScE.Callee) : Env → Fram → List Fram → KX → R0 := fun e fr up k =>
  hGen C (.nck) [(demK (demK (look' 0 e)))] fr up (fun r2 f2 u2 =>
  hFa 0 (demK r2) f2 u2 (fun r3 f3 u3 =>
  hLdS B false 1 true (demK r3) f3 u3 (fun r4 f4 u4 =>
  hBlds 1 [(pK .u8 0)] 2 [0, 1] [(.c (.p (pK .u8 92))), (demK (demK (look' 5 e)))] f4 u4 (fun r6 f6 u6 =>
  hApp 1 1 r4 (demK r6) f6 u6 (fun r7 f7 u7 =>
  hGen C (.nck) [(demK (demK (look' 0 e)))] f7 u7 (fun r8 f8 u8 =>
  hFa 0 (demK r8) f8 u8 (fun r9 f9 u9 =>
  hStS B 1 (demK r9) r7 f9 u9 (fun r10 f10 u10 =>
  headK (look' 0 e) (fun v0 => headK (look' 1 e) (fun v1 => headK (look' 29 e) (fun v29 => headK (look' 30 e) (fun v30 => k .normal [(0, v0), (1, v1), (29, v29), (30, v30)] f10 u10))))))))))))

noncomputable def q33_9 (B : Sy) (C : Go.ScE.Callee) : Env → Fram → List Fram → KX → R0 := fun e fr up k =>
  hBinS B .eql false (demK (demK (look' 5 e))) (.c (.p (pK .u8 10))) fr up (fun r1 f1 u1 =>
  headK (look' 0 e) (fun v0 => headK (look' 1 e) (fun v1 => headK (look' 5 e) (fun v5 => headK (look' 29 e) (fun v29 => headK (look' 30 e) (fun v30 => headK (demK r1) (fun v63 => k .normal [(0, v0), (1, v1), (5, v5), (29, v29), (30, v30), (63, v63)] f1 u1)))))))

noncomputable def q33_10 (B : Sy) (C : Go.ScE.Callee) : Env → Fram → List Fram → KX → R0 := fun e fr up k =>
  hGen C (.nck) [(demK (demK (look' 0 e)))] fr up (fun r2 f2 u2 =>
  hFa 0 (demK r2) f2 u2 (fun r3 f3 u3 =>
  hLdS B false 1 true (demK r3) f3 u3 (fun r4 f4 u4 =>
  hBlds 1 [(pK .u8 0)] 2 [0, 1] [(.c (.p (pK .u8 92))), (.c (.p (pK .u8 110)))] f4 u4 (fun r5 f5 u5 =>
  hApp 1 1 r4 (demK r5) f5 u5 (fun r6 f6 u6 =>
  hGen C (.nck) [(demK (demK (look' 0 e)))] f6 u6 (fun r7 f7 u7 =>
  hFa 0 (demK r7) f7 u7 (fun r8 f8 u8 =>
  hStS B 1 (demK r8) r6 f8 u8 (fun r9 f9 u9 =>
  headK (look' 0 e) (fun v0 => headK (look' 1 e) (fun v1 => headK (look' 29 e) (fun v29 => headK (look' 30 e) (fun v30 => k .normal [(0, v0), (1, v1), (29, v29), (30, v30)] f9 u9))))))))))))

noncomputable def q33_11 (B : Sy) (C : Go.ScE.Callee) : Env → Fram → List Fram → KX → R0 := fun e fr up k =>
  hBinS B .lss false (demK (demK (look' 5 e))) (.c (.p (pK .u8 32))) fr up (fun r1 f1 u1 =>
  guardK false (demK r1) (fun K => K (demK (look' 5 e)) f1 u1) f1 u1 (fun r3 f3 u3 =>
  guardK false (demK r1) (fun K => hBinS B .gtr false (demK r3) (.c (.p (pK .u8 126))) f3 u3 K) f3 u3 (fun r4 f4 u4 =>
  hPick  (demK (demK r1)) (.c (.p (pB true))) (demK r4) f4 u4 (fun r5 f5 u5 =>
  headK (look' 0 e) (fun v0 => headK (look' 1 e) (fun v1 => headK (look' 5 e) (fun v5 => headK (look' 29 e) (fun v29 => headK (look' 30 e) (fun v30 => headK (demK r5) (fun v75 => k .normal [(0, v0), (1, v1), (5, v5), (29, v29), (30, v30), (75, v75)] f5 u5))))))))))

noncomputable def q33_12 (B : Sy) (C : Go.ScE.Callee) : Env → Fram → List Fram → KX → R0 := fun e fr up k =>
  hGen C (.nck) [(demK (demK (look' 0 e)))] fr up (fun r2 f2 u2 =>
  hFa 0 (demK r2) f2 u2 (fun r3 f3 u3 =>
  hLdS B false 1 true (demK r3) f3 u3 (fun r4 f4 u4 =>
  hBinS B .shr false (demK (demK (look' 5 e))) (.c (.p (pK .u64 4))) f4 u4 (fun r6 f6 u6 =>
  hGen C (.ixs) [(.c (.p (pS [48, 49, 50, 51, 52, 53, 54, 55, 56, 57, 97, 98, 99, 100, 101, 102]))), (demK r6)] f6 u6 (fun r7 f7 u7 =>
  hBinS B .and false (demK (demK (look' 5 e))) (.c (.p (pK .u8 15))) f7 u7 (fun r9 f9 u9 =>
  hGen C (.ixs) [(.c (.p (pS [48, 49, 50, 51, 52, 53, 54, 55, 56, 57, 97, 98, 99, 100, 101, 102]))), (demK r9)] f9 u9 (fun r10 f10 u10 =>
  hBlds 1 [(pK .u8 0)] 4 [0, 1, 2, 3] [(.c (.p (pK .u8 92))), (.c (.p (pK .u8 120))), (demK r7), (demK r10)] f10 u10 (fun r11 f11 u11 =>
  hApp 1 1 r4 (demK r11) f11 u11 (fun r12 f12 u12 =>
  hGen C (.nck) [(demK (demK (look' 0 e)))] f12 u12 (fun r13 f13 u13 =>
  hFa 0 (demK r13) f13 u13 (fun r14 f14 u14 =>
  hStS B 1 (demK r14) r12 f14 u14 (fun r15 f15 u15 =>
  headK (look' 0 e) (fun v0 => headK (look' 1 e) (fun v1 => headK (look' 29 e) (fun v29 => headK (look' 30 e) (fun v30 => k .normal [(0, v0), (1, v1), (29, v29), (30, v30)] f15 u15))))))))))))))))

noncomputable def q33_13 (B : Sy) (C : Go.ScE.Callee) : Env → Fram → List Fram → KX → R0 := fun e fr up k =>
  hGen C (.nck) [(demK (demK (look' 0 e)))] fr up (fun r2 f2 u2 =>
  hFa 0 (demK r2) f2 u2 (fun r3 f3 u3 =>
  hLdS B false 1 true (demK r3) f3 u3 (fun r4 f4 u4 =>
  hBlds 1 [(pK .u8 0)] 1 [0] [(demK (demK (look' 5 e)))] f4 u4 (fun r6 f6 u6 =>
  hApp 1 1 r4 (demK r6) f6 u6 (fun r7 f7 u7 =>
  hGen C (.nck) [(demK (demK (look' 0 e)))] f7 u7 (fun r8 f8 u8 =>
  hFa 0 (demK r8) f8 u8 (fun r9 f9 u9 =>
  hStS B 1 (demK r9) r7 f9 u9 (fun r10 f10 u10 =>
  headK (look' 0 e) (fun v0 => headK (look' 1 e) (fun v1 => headK (look' 29 e) (fun v29 => headK (look' 30 e) (fun v30 => k .normal [(0, v0), (1, v1), (29, v29), (30, v30)] f10 u10))))))))))))

noncomputable def q33_14 (B : Sy) (C : Go.ScE.Callee) : Env → Fram → List Fram → KX → R0 := fun e fr up k =>
  hBinS B .add false (demK (look' 30 e)) (.c (.p (pI 1))) fr up (fun r0 f0 u0 =>
  headK (look' 0 e) (fun v0 => headK (look' 1 e) (fun v1 => headK (look' 29 e) (fun v29 => headK (demK r0) (fun v30 => k .normal [(0, v0), (1, v1), (29, v29), (30, v30)] f0 u0)))))

noncomputable def q33_15 (B : Sy) (C : Go.ScE.Callee) : Env → Fram → List Fram → KX → R0 := fun e fr up k =>
  hGen C (.nck) [(demK (demK (look' 0 e)))] fr up (fun r2 f2 u2 =>
  hFa 0 (demK r2) f2 u2 (fun r3 f3 u3 =>
  hLdS B false 1 true (demK r3) f3 u3 (fun r4 f4 u4 =>
  hBlds 1 [(pK .u8 0)] 1 [0] [(.c (.p (pK .u8 34)))] f4 u4 (fun r5 f5 u5 =>
  hApp 1 1 r4 (demK r5) f5 u5 (fun r6 f6 u6 =>
  hGen C (.nck) [(demK (demK (look' 0 e)))] f6 u6 (fun r7 f7 u7 =>
  hFa 0 (demK r7) f7 u7 (fun r8 f8 u8 =>
  hStS B 1 (demK r8) r6 f8 u8 (fun r9 f9 u9 =>
  k .normal [] f9 u9))))))))

noncomputable def s33 : KS := fun B C n => seqK (seqK (q33_0 B C) (condK (.t 9) (seqK (q33_1 B C) (retK)) (skipK))) (seqK (q33_2 B C) (seqK (seqK (q33_3 B C) (blockK 0 (loopsK [0, 1, 29, 30] [] (seqK (q33_4 B C) (seqK (condK (.t 31) (skipK) (exitK 0)) (seqK (blockK 1 (seqK (q33_5 B C) (seqK (q33_6 B C) (blockK 2 (seqK (q33_7 B C) (condK (.t 46) (q33_8 B C) (seqK (q33_9 B C) (condK (.t 63) (q33_10 B C) (seqK (q33_11 B C) (condK (.t 75) (q33_12 B C) (q33_13 B C))))))))))) (q33_14 B C)))) n))) (q33_15 B C)))
theorem s33_eq (B : Sy) (C : Go.ScE.Callee) (n : Nat) : s33 B C n = evS B C n x33.body := by kernel_rfl

noncomputable def q34_0 (B : Sy) (C : Go.ScE.Callee) : Env → Fram → List Fram → KX → R0 := fun e fr up k =>
  hGen C (.box 0) [(look' 1 e)] fr up (fun r0 f0 u0 =>
  headK (look' 0 e) (fun v0 => headK r0 (fun v3 => k .normal [(0, v0), (3, v3)] f0 u0)))

noncomputable def q34_1 (B : Sy) (C : Go.ScE.Callee) : Env → Fram → List Fram → KX → R0 := fun e fr up k =>
  hGen C (.nck) [(demK (demK (look' 0 e)))] fr up (fun r2 f2 u2 =>
  hFa 0 (demK r2) f2 u2 (fun r3 f3 u3 =>
  hLdS B false 1 true (demK r3) f3 u3 (fun r4 f4 u4 =>
  hBlds 1 [(pK .u8 0)] 1 [0] [(.c (.p (pK .u8 40)))] f4 u4 (fun r5 f5 u5 =>
  hApp 1 1 r4 (demK r5) f5 u5 (fun r6 f6 u6 =>
  hGen C (.nck) [(demK (demK (look' 0 e)))] f6 u6 (fun r7 f7 u7 =>
  hFa 0 (demK r7) f7 u7 (fun r8 f8 u8 =>
  hStS B 1 (demK r8) r6 f8 u8 (fun r9 f9 u9 =>
  headK (look' 0 e) (fun v0 => headK (look' 3 e) (fun v3 => k .normal [(0, v0), (3, v3)] f9 u9))))))))))

noncomputable def q34_2 (B : Sy) (C : Go.ScE.Callee) : Env → Fram → List Fram → KX → R0 := fun e fr up k =>
  hFa 3 (demK (look' 3 e)) fr up (fun r0 f0 u0 =>
  hLdS B false 1 false (demK r0) f0 u0 (fun r1 f1 u1 =>
  hLenLS B  (demK r1) f1 u1 (fun r2 f2 u2 =>
  headK (look' 0 e) (fun v0 => headK (look' 3 e) (fun v3 => headK r1 (fun v16 => headK r2 (fun v17 => headK (.c (.p (pI 0))) (fun v18 => k .normal [(0, v0), (3, v3), (16, v16), (17, v17), (18, v18)] f2 u2))))))))

noncomputable def q34_3 (B : Sy) (C : Go.ScE.Callee) : Env → Fram → List Fram → KX → R0 := fun e fr up k =>
  hBinS B .lss false (demK (look' 18 e)) (demK (look' 17 e)) fr up (fun r0 f0 u0 =>
  headK (look' 0 e) (fun v0 => headK (look' 3 e) (fun v3 => headK (look' 16 e) (fun v16 => headK (look' 17 e) (fun v17 => headK (look' 18 e) (fun v18 => headK r0 (fun v19 => k .normal [(0, v0), (3, v3), (16, v16), (17, v17), (18, v18), (19, v19)] f0 u0)))))))

noncomputable def q34_4 (B : Sy) (C : Go.ScE.Callee) : Env → Fram → List Fram → KX → R0 := fun e fr up k =>
  hIaS B 4 (demK (look' 16 e)) (demK (look' 18 e)) fr up (fun r1 f1 u1 =>
  hLdS B true 4 false (demK r1) f1 u1 (fun r2 f2 u2 =>
  hGen C (.alloc 1 true [(pI 0), (pI 0), (pS []), (.sl 4 [])]) [] f2 u2 (fun r3 f3 u3 =>
  hStS B 4 (demK r3) r2 f3 u3 (fun r5 f5 u5 =>
  headK (look' 0 e) (fun v0 => headK (look' 3 e) (fun v3 => headK (demK (demK (look' 18 e))) (fun v4 => headK r3 (fun v5 => headK (look' 16 e) (fun v16 => headK (look' 17 e) (fun v17 => headK (look' 18 e) (fun v18 => k .normal [(0, v0), (3, v3), (4, v4), (5, v5), (16, v16), (17, v17), (18, v18)] f5 u5)))))))))))

noncomputable def q34_5 (B : Sy) (C : Go.ScE.Callee) : Env → Fram → List Fram → KX → R0 := fun e fr up k =>
  hBinS B .gtr false (demK (demK (look' 4 e))) (.c (.p (pI 0))) fr up (fun r1 f1 u1 =>
  headK (look' 0 e) (fun v0 => headK (look' 3 e) (fun v3 => headK (look' 4 e) (fun v4 => headK (look' 5 e) (fun v5 => headK (look' 16 e) (fun v16 => headK (look' 17 e) (fun v17 => headK (look' 18 e) (fun v18 => headK r1 (fun v24 => k .normal [(0, v0), (3, v3), (4, v4), (5, v5), (16, v16), (17, v17), (18, v18), (24, v24)] f1 u1)))))))))

noncomputable def q34_6 (B : Sy) (C : Go.ScE.Callee) : Env → Fram → List Fram → KX → R0 := fun e fr up k =>
  hGen C (.nck) [(demK (demK (look' 0 e)))] fr up (fun r2 f2 u2 =>
  hFa 0 (demK r2) f2 u2 (fun r3 f3 u3 =>
  hLdS B false 1 true (demK r3) f3 u3 (fun r4 f4 u4 =>
  hBlds 1 [(pK .u8 0)] 1 [0] [(.c (.p (pK .u8 32)))] f4 u4 (fun r5 f5 u5 =>
  hApp 1 1 r4 (demK r5) f5 u5 (fun r6 f6 u6 =>
  hGen C (.nck) [(demK (demK (look' 0 e)))] f6 u6 (fun r7 f7 u7 =>
  hFa 0 (demK r7) f7 u7 (fun r8 f8 u8 =>
  hStS B 1 (demK r8) r6 f8 u8 (fun r9 f9 u9 =>
  headK (look' 0 e) (fun v0 => headK (look' 3 e) (fun v3 => headK (look' 4 e) (fun v4 => headK (look' 5 e) (fun v5 => headK (look' 16 e) (fun v16 => headK (look' 17 e) (fun v17 => headK (look' 18 e) (fun v18 => k .normal [(0, v0), (3, v3), (4, v4), (5, v5), (16, v16), (17, v17), (18, v18)] f9 u9)))))))))))))))

noncomputable def q34_7 (B : Sy) (C : Go.ScE.Callee) : Env → Fram → List Fram → KX → R0 := fun e fr up k =>
  hFa 0 (demK (look' 3 e)) fr up (fun r0 f0 u0 =>
  hLdS B false 1 false (demK r0) f0 u0 (fun r1 f1 u1 =>
  hBinS B .eql false (demK r1) (.c (.p (pI 6))) f1 u1 (fun r2 f2 u2 =>
  guardK true (demK r2) (fun K => K (demK (look' 4 e)) f2 u2) f2 u2 (fun r4 f4 u4 =>
  guardK true (demK r2) (fun K => hFa 3 (demK (look' 3 e)) f4 u4 K) f4 u4 (fun r5 f5 u5 =>
  guardK true (demK r2) (fun K => hLdS B false 1 false (demK r5) f5 u5 K) f5 u5 (fun r6 f6 u6 =>
  guardK true (demK r2) (fun K => hLenLS B  (demK r6) f6 u6 K) f6 u6 (fun r7 f7 u7 =>
  guardK true (demK r2) (fun K => hBinS B .sub false (demK r7) (.c (.p (pI 1))) f7 u7 K) f7 u7 (fun r8 f8 u8 =>
  guardK true (demK r2) (fun K => hBinS B .eql false (demK r4) (demK r8) f8 u8 K) f8 u8 (fun r9 f9 u9 =>
  hPick  (demK (demK r2)) (demK r9) (.c (.p (pB false))) f9 u9 (fun r10 f10 u10 =>
  headK (look' 0 e) (fun v0 => headK (look' 3 e) (fun v3 => headK (look' 5 e) (fun v5 => headK (look' 16 e) (fun v16 => headK (look' 17 e) (fun v17 => headK (look' 18 e) (fun v18 => headK r10 (fun v44 => k .normal [(0, v0), (3, v3), (5, v5), (16, v16), (17, v17), (18, v18), (44, v44)] f10 u10)))))))))))))))))

noncomputable def q34_8 (B : Sy) (C : Go.ScE.Callee) : Env → Fram → List Fram → KX → R0 := fun e fr up k =>
  hGen C (.nck) [(demK (demK (look' 0 e)))] fr up (fun r2 f2 u2 =>
  hFa 0 (demK r2) f2 u2 (fun r3 f3 u3 =>
  hLdS B false 1 true (demK r3) f3 u3 (fun r4 f4 u4 =>
  hBlds 1 [(pK .u8 0)] 2 [0, 1] [(.c (.p (pK .u8 46))), (.c (.p (pK .u8 32)))] f4 u4 (fun r5 f5 u5 =>
  hApp 1 1 r4 (demK r5) f5 u5 (fun r6 f6 u6 =>
  hGen C (.nck) [(demK (demK (look' 0 e)))] f6 u6 (fun r7 f7 u7 =>
  hFa 0 (demK r7) f7 u7 (fun r8 f8 u8 =>
  hStS B 1 (demK r8) r6 f8 u8 (fun r9 f9 u9 =>
  headK (look' 0 e) (fun v0 => headK (look' 3 e) (fun v3 => headK (look' 5 e) (fun v5 => headK (look' 16 e) (fun v16 => headK (look' 17 e) (fun v17 => headK (look' 18 e) (fun v18 => k .normal [(0, v0), (3, v3), (5, v5), (16, v16), (17, v17), (18, v18)] f9 u9))))))))))))))

noncomputable def q34_9 (B : Sy) (C : Go.ScE.Callee) : Env → Fram → List Fram → KX → R0 := fun e fr up k =>
  hLdS B true 4 false (demK (look' 5 e)) fr up (fun r1 f1 u1 =>
  hCall C 26 [(demK (demK (look' 0 e))), r1] f1 u1 (fun r2 f2 u2 =>
  headK (look' 0 e) (fun v0 => headK (look' 3 e) (fun v3 => headK (look' 16 e) (fun v16 => headK (look' 17 e) (fun v17 => headK (look' 18 e) (fun v18 => k .normal [(0, v0), (3, v3), (16, v16), (17, v17), (18, v18)] f2 u2)))))))

noncomputable def q34_10 (B : Sy) (C : Go.ScE.Callee) : Env → Fram → List Fram → KX → R0 := fun e fr up k =>
  hBinS B .add false (demK (look' 18 e)) (.c (.p (pI 1))) fr up (fun r0 f0 u0 =>
  headK (look' 0 e) (fun v0 => headK (look' 3 e) (fun v3 => headK (look' 16 e) (fun v16 => headK (look' 17 e) (fun v17 => headK (demK r0) (fun v18 => k .normal [(0, v0), (3, v3), (16, v16), (17, v17), (18, v18)] f0 u0))))))

noncomputable def q34_11 (B : Sy) (C : Go.ScE.Callee) : Env → Fram → List Fram → KX → R0 := fun e fr up k =>
  hGen C (.nck) [(demK (demK (look' 0 e)))] fr up (fun r2 f2 u2 =>
  hFa 0 (demK r2) f2 u2 (fun r3 f3 u3 =>
  hLdS B false 1 true (demK r3) f3 u3 (fun r4 f4 u4 =>
  hBlds 1 [(pK .u8 0)] 1 [0] [(.c (.p (pK .u8 41)))] f4 u4 (fun r5 f5 u5 =>
  hApp 1 1 r4 (demK r5) f5 u5 (fun r6 f6 u6 =>
  hGen C (.nck) [(demK (demK (look' 0 e)))] f6 u6 (fun r7 f7 u7 =>
  hFa 0 (demK r7) f7 u7 (fun r8 f8 u8 =>
  hStS B 1 (demK r8) r6 f8 u8 (fun r9 f9 u9 =>
  k .normal [] f9 u9))))))))

noncomputable def s34 : KS := fun B C n => seqK (q34_0 B C) (seqK (q34_1 B C) (seqK (seqK (q34_2 B C) (blockK 0 (loopsK [0, 3, 16, 17, 18] [0] (seqK (q34_3 B C) (seqK (condK (.t 19) (skipK) (exitK 0)) (seqK (blockK 1 (seqK (q34_4 B C) (seqK (seqK (q34_5 B C) (condK (.t 24) (seqK (q34_6 B C) (seqK (q34_7 B C) (condK (.t 44) (q34_8 B C) (skipK)))) (skipK))) (q34_9 B C)))) (q34_10 B C)))) n))) (q34_11 B C)))
theorem s34_eq (B : Sy) (C : Go.ScE.Callee) (n : Nat) : s34 B C n = evS B C n x34.body := by kernel_rfl

noncomputable def q36_0 (B : Sy) (C : Go.ScE.Callee) : Env → Fram → List Fram → KX → R0 := fun e fr up k =>
  headK (look' 0 e) (fun v0 => headK (look' 1 e) (fun v1 => headK (look' 2 e) (fun v2 => k .normal [(0, v0), (1, v1), (2, v2)] fr up)))

noncomputable def q36_1 (B : Sy) (C : Go.ScE.Callee) : Env → Fram → List Fram → KX → R0 := fun e fr up k =>
  hCviS B .u64 (demK (demK (look' 1 e))) fr up (fun r1 f1 u1 =>
  headK (look' 0 e) (fun v0 => headK (look' 1 e) (fun v1 => headK (look' 2 e) (fun v2 => headK (demK r1) (fun v7 => k .normal [(0, v0), (1, v1), (2, v2), (7, v7)] f1 u1)))))

noncomputable def q36_2 (B : Sy) (C : Go.ScE.Callee) : Env → Fram → List Fram → KX → R0 := fun e fr up k =>
  hBinS B .lss false (demK (demK (look' 1 e))) (.c (.p (pI 0))) fr up (fun r1 f1 u1 =>
  headK (look' 0 e) (fun v0 => headK (look' 2 e) (fun v2 => headK (look' 7 e) (fun v7 => headK r1 (fun v11 => k .normal [(0, v0), (2, v2), (7, v7), (11, v11)] f1 u1)))))

noncomputable def q36_3 (B : Sy) (C : Go.ScE.Callee) : Env → Fram → List Fram → KX → R0 := fun e fr up k =>
  hBlds 1 [(pK .u8 0)] 1 [0] [(.c (.p (pK .u8 45)))] fr up (fun r1 f1 u1 =>
  hApp 1 1 (look' 0 e) (demK r1) f1 u1 (fun r2 f2 u2 =>
  headK r2 (fun v0 => headK (look' 2 e) (fun v2 => headK (look' 7 e) (fun v7 => k .normal [(0, v0), (2, v2), (7, v7)] f2 u2)))))

noncomputable def q36_4 (B : Sy) (C : Go.ScE.Callee) : Env → Fram → List Fram → KX → R0 := fun e fr up k =>
  hGen C (.un .neg) [(demK (demK (look' 7 e)))] fr up (fun r1 f1 u1 =>
  headK (look' 0 e) (fun v0 => headK (look' 2 e) (fun v2 => headK (demK r1) (fun v7 => k .normal [(0, v0), (2, v2), (7, v7)] f1 u1))))

noncomputable def q36_5 (B : Sy) (C : Go.ScE.Callee) : Env → Fram → List Fram → KX → R0 := fun e fr up k =>
  hCall C 38 [(look' 0 e), (demK (demK (look' 7 e))), (demK (demK (look' 2 e)))] fr up (fun r3 f3 u3 =>
  headK r3 (fun v6 => k .normal [(6, v6)] f3 u3))

noncomputable def s36 : KS := fun B C n => seqK (q36_0 B C) (seqK (q36_1 B C) (seqK (seqK (q36_2 B C) (condK (.t 11) (seqK (q36_3 B C) (q36_4 B C)) (skipK))) (seqK (q36_5 B C) (retK))))
theorem s36_eq (B : Sy) (C : Go.ScE.Callee) (n : Nat) : s36 B C n = evS B C n x36.body := by kernel_rfl

noncomputable def q38_0 (B : Sy) (C : Go.ScE.Callee) : Env → Fram → List Fram → KX → R0 := fun e fr up k =>
  headK (look' 0 e) (fun v0 => headK (look' 1 e) (fun v1 => headK (look' 2 e) (fun v2 => k .normal [(0, v0), (1, v1), (2, v2)] fr up)))

noncomputable def q38_1 (B : Sy) (C : Go.ScE.Callee) : Env → Fram → List Fram → KX → R0 := fun e fr up k =>
  hBinS B .eql false (demK (demK (look' 2 e))) (.c (.p (pI 10))) fr up (fun r1 f1 u1 =>
  headK (look' 0 e) (fun v0 => headK (look' 1 e) (fun v1 => headK (look' 2 e) (fun v2 => headK r1 (fun v10 => k .normal [(0, v0), (1, v1), (2, v2), (10, v10)] f1 u1)))))

noncomputable def q38_2 (B : Sy) (C : Go.ScE.Callee) : Env → Fram → List Fram → KX → R0 := fun e fr up k =>
  hBinS B .lss false (demK (demK (look' 1 e))) (.c (.p (pK .u64 100))) fr up (fun r1 f1 u1 =>
  headK (look' 0 e) (fun v0 => headK (look' 1 e) (fun v1 => headK r1 (fun v12 => k .normal [(0, v0), (1, v1), (12, v12)] f1 u1))))

noncomputable def q38_3 (B : Sy) (C : Go.ScE.Callee) : Env → Fram → List Fram → KX → R0 := fun e fr up k =>
  hCviS B .i64 (demK (demK (look' 1 e))) fr up (fun r2 f2 u2 =>
  hCall C 39 [(demK r2)] f2 u2 (fun r3 f3 u3 =>
  hApp 1 1 (look' 0 e) (demK r3) f3 u3 (fun r4 f4 u4 =>
  headK r4 (fun v6 => k .normal [(6, v6)] f4 u4))))

noncomputable def q38_4 (B : Sy) (C : Go.ScE.Callee) : Env → Fram → List Fram → KX → R0 := fun e fr up k =>
  hGen C (.alloc 0 true [(pK .u8 0), (pK .u8 0), (pK .u8 0), (pK .u8 0), (pK .u8 0), (pK .u8 0), (pK .u8 0), (pK .u8 0), (pK .u8 0), (pK .u8 0), (pK .u8 0), (pK .u8 0), (pK .u8 0), (pK .u8 0), (pK .u8 0), (pK .u8 0), (pK .u8 0), (pK .u8 0), (pK .u8 0), (pK .u8 0), (pK .u8 0), (pK .u8 0), (pK .u8 0), (pK .u8 0)]) [] fr up (fun r0 f0 u0 =>
  headK (look' 0 e) (fun v0 => headK (look' 1 e) (fun v1 => headK r0 (fun v7 => k .normal [(0, v0), (1, v1), (7, v7)] f0 u0))))

noncomputable def q38_5 (B : Sy) (C : Go.ScE.Callee) : Env → Fram → List Fram → KX → R0 := fun e fr up k =>
  hCall C 40 [(demK (demK (look' 1 e)))] fr up (fun r1 f1 u1 =>
  headK (look' 0 e) (fun v0 => headK (look' 1 e) (fun v1 => headK (look' 7 e) (fun v7 => headK (demK r1) (fun v8 => k .normal [(0, v0), (1, v1), (7, v7), (8, v8)] f1 u1)))))

noncomputable def q38_6 (B : Sy) (C : Go.ScE.Callee) : Env → Fram → List Fram → KX → R0 := fun e fr up k =>
  hGen C (.csb) [] fr up (fun r1 f1 u1 =>
  hCall C 41 [r1, (demK (demK (look' 1 e)))] f1 u1 (fun r3 f3 u3 =>
  headK (look' 0 e) (fun v0 => headK (look' 7 e) (fun v7 => headK (look' 8 e) (fun v8 => k .normal [(0, v0), (7, v7), (8, v8)] f3 u3)))))

noncomputable def q38_7 (B : Sy) (C : Go.ScE.Callee) : Env → Fram → List Fram → KX → R0 := fun e fr up k =>
  hGen C (.csb) [] fr up (fun r2 f2 u2 =>
  hApp 1 1 (look' 0 e) (demK r2) f2 u2 (fun r3 f3 u3 =>
  headK r3 (fun v6 => k .normal [(6, v6)] f3 u3)))

noncomputable def q38_8 (B : Sy) (C : Go.ScE.Callee) : Env → Fram → List Fram → KX → R0 := fun e fr up k =>
  hCall C 42 [(look' 0 e), (demK (demK (look' 1 e))), (demK (demK (look' 2 e))), (.c (.p (pB false))), (.c (.p (pB true)))] fr up (fun r3 f3 u3 =>
  hGen C (.ext 0) [(demK r3)] f3 u3 (fun r5 f5 u5 =>
  hGen C (.ext 1) [r3] f5 u5 (fun r6 f6 u6 =>
  headK r5 (fun v0 => k .normal [(0, v0)] f6 u6))))

noncomputable def q38_9 (B : Sy) (C : Go.ScE.Callee) : Env → Fram → List Fram → KX → R0 := fun e fr up k =>
  headK (look' 0 e) (fun v6 => k .normal [(6, v6)] fr up)

noncomputable def s38 : KS := fun B C n => seqK (q38_0 B C) (seqK (seqK (q38_1 B C) (condK (.t 10) (seqK (seqK (q38_2 B C) (condK (.t 12) (seqK (q38_3 B C) (retK)) (skipK))) (seqK (q38_4 B C) (seqK (q38_5 B C) (seqK (q38_6 B C) (seqK (q38_7 B C) (retK)))))) (skipK))) (seqK (q38_8 B C) (seqK (q38_9 B C) (retK))))
theorem s38_eq (B : Sy) (C : Go.ScE.Callee) (n : Nat) : s38 B C n = evS B C n x38.body := by kernel_rfl

end Go.Sc2
