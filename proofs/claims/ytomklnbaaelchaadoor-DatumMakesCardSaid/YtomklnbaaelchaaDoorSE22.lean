/- E22: the evaluator in a form that the kernel runs quickly; what it answers, the evaluator answers. -/
import Derived.Test.YtomklnbaaelchaaDoorSE21
set_option linter.unusedVariables false
set_option linter.unusedSimpArgs false
namespace Go.ScE
def aMv  (vs : List AV) (fr : Fram) (up : List Fram) : ActR := (match vs with
    | [x] => (x, fr, up, true)
    | _ => bad fr up)
def aPick  (vs : List AV) (fr : Fram) (up : List Fram) : ActR := (match vs with
    | [.c (.p (.lit (.bool c))), a, b] => (match c with | true => a | false => b, fr, up, true)
    | _ => bad fr up)
def aAlloc (s : Nat) (_u1 : Bool) (z : List PV) (vs : List AV) (fr : Fram) (up : List Fram) : ActR := (match vs with
    | [] => (.c (.ref 0 s 0), (s, .box (zvs z)) :: fr, up, !hhas s fr)
    | _ => bad fr up)
def aBox (s : Nat) (vs : List AV) (fr : Fram) (up : List Fram) : ActR := (match vs with
    | [x] => (match cellsA x with
        | some l => (.c (.ref 0 s 0), (s, .box l) :: fr, up, !hhas s fr)
        | none => bad fr up)
    | _ => bad fr up)
def aBld (z : List PV) (offs : List (Nat × Nat)) (vs : List AV) (fr : Fram) (up : List Fram) : ActR := (match vs with
    | xs => (match fillX (zvs z) offs xs with
        | some l => (.agg l, fr, up, true)
        | none => bad fr up))
def aBlds (sz : Nat) (z : List PV) (n : Nat) (idx : List Nat) (vs : List AV) (fr : Fram) (up : List Fram) : ActR := (match vs with
    | xs => (match fillS sz (List.replicate n z) idx xs with
        | some l => (.c (.own sz l), fr, up, decide (n * sz ≤ 16777216))
        | none => bad fr up))
def aLd (agg : Bool) (n : Nat) (take : Bool) (vs : List AV) (fr : Fram) (up : List Fram) : ActR := (match vs with
    | [.c x] => (match x with
        | .ipt cs off => (mkA agg (pvs (cut off n cs)), fr, up, decide (off + n ≤ cs.length))
        | .ref d k off => (match getH d k (fr :: up) with
          | some (.box cs) =>
            let l := cut off n cs
            let g := decide (off + n ≤ cs.length)
            if take then (match fset d (hset k (.box (put cs off (untakeL l))) (fget d (fr :: up))) (fr :: up) with
              | fr' :: up' => (mkA agg (upL d l), fr', up', g)
              | [] => bad fr up)
            else (mkA agg (upL d (demL l)), fr, up, g)
          | _ => bad fr up)
        | .aref d k sz i off => (match getH d k (fr :: up) with
          | some (.arr sz' l) => (mkA agg (pvs (cut off n (l.getD i []))), fr, up, decide (sz' = sz ∧ i < l.length ∧ off + n ≤ sz))
          | _ => bad fr up)
        | _ => bad fr up)
    | _ => bad fr up)
def aSt (n : Nat) (vs : List AV) (fr : Fram) (up : List Fram) : ActR := (match vs with
    | [.c x, v] => (match x with
        | .ref d k off => (match getH d k (fr :: up), cellsA v with
          | some (.box cs), some l => (match setH d k (.box (put cs off (downL d l))) (fr :: up) with
            | fr' :: up' => (undefA, fr', up', decide (l.length = n ∧ off + n ≤ cs.length) && outL d l)
            | [] => bad fr up)
          | _, _ => bad fr up)
        | .aref d k sz i off => (match getH d k (fr :: up), (cellsA v).bind toPs with
          | some (.arr sz' l), some xs => (match setH d k (.arr sz' (l.set i (put (l.getD i []) off xs))) (fr :: up) with
            | fr' :: up' => (undefA, fr', up', decide (sz' = sz ∧ xs.length = n ∧ i < l.length ∧ off + n ≤ sz))
            | [] => bad fr up)
          | _, _ => bad fr up)
        | _ => bad fr up)
    | _ => bad fr up)
def aNck  (vs : List AV) (fr : Fram) (up : List Fram) : ActR := (match vs with
    | [.c x] => (match x with
        | .ref .. | .aref .. | .ipt .. => (.c x, fr, up, true)
        | _ => bad fr up)
    | _ => bad fr up)
def aBin (op : BinOp) (bq : Bool) (vs : List AV) (fr : Fram) (up : List Fram) : ActR := (match vs with
    | [.c (.p (.lit a)), .c (.p (.lit b))] => same fr up (litC (evBinQ bq op a b))
    | _ => bad fr up)
def aUn (op : UnOp) (vs : List AV) (fr : Fram) (up : List Fram) : ActR := (match vs with
    | [.c (.p (.lit a))] => same fr up (litC (evUn op a))
    | _ => bad fr up)
def aCvi (k : IntKind) (vs : List AV) (fr : Fram) (up : List Fram) : ActR := (match vs with
    | [.c (.p (.lit (.int _ n)))] => (pint k (k.wrap n), fr, up, true)
    | _ => bad fr up)
def aCbs  (vs : List AV) (fr : Fram) (up : List Fram) : ActR := (match vs with
    | [y] => (match isStr y, listOf 1 (fr :: up) y with
        | false, some l => (match bytesL l with
            | some bs => (.c (.p (.lit (.string ⟨⟨bs⟩⟩))), fr, up, true)
            | none => bad fr up)
        | _, _ => bad fr up)
    | _ => bad fr up)
def aFa (off : Nat) (vs : List AV) (fr : Fram) (up : List Fram) : ActR := (match vs with
    | [.c x] => (match x with
        | .ref d k o => (.c (.ref d k (o + off)), fr, up, true)
        | .aref d k sz i o => (.c (.aref d k sz i (o + off)), fr, up, true)
        | .ipt cs o => (.c (.ipt cs (o + off)), fr, up, true)
        | _ => bad fr up)
    | _ => bad fr up)
def aIa (sz : Nat) (vs : List AV) (fr : Fram) (up : List Fram) : ActR := (match vs with
    | [.c x, .c (.p (.lit (.int _ i)))] => (match x with
        | .p (.sl sz' l) => (.c (.ipt (l.getD i.toNat []) 0), fr, up, decide (sz' = sz ∧ 0 ≤ i ∧ i < l.length))
        | .own sz' l => (.c (.ipt (l.getD i.toNat []) 0), fr, up, decide (sz' = sz ∧ 0 ≤ i ∧ i < l.length))
        | .arr d k sz' off n => (.c (.aref d k sz (off + i.toNat) 0), fr, up, decide (sz' = sz ∧ 0 ≤ i ∧ i < n))
        | _ => bad fr up)
    | _ => bad fr up)
def aIaa (sz : Nat) (n : Nat) (vs : List AV) (fr : Fram) (up : List Fram) : ActR := (match vs with
    | [.c x, .c (.p (.lit (.int _ i)))] => (match x with
        | .ref d k o => (.c (.ref d k (o + i.toNat * sz)), fr, up, decide (0 ≤ i ∧ i < n))
        | .aref d k sz' j o => (.c (.aref d k sz' j (o + i.toNat * sz)), fr, up, decide (0 ≤ i ∧ i < n))
        | .ipt cs o => (.c (.ipt cs (o + i.toNat * sz)), fr, up, decide (0 ≤ i ∧ i < n))
        | _ => bad fr up)
    | _ => bad fr up)
def aIxs  (vs : List AV) (fr : Fram) (up : List Fram) : ActR := (match vs with
    | [.c (.p (.lit (.string s))), .c (.p (.lit (.int _ i)))] => 
        (pint .u8 ((s.data.toList.getD i.toNat 0).toNat), fr, up, decide (0 ≤ i ∧ i < s.size))
    | _ => bad fr up)
def aBeq (neg : Bool) (n : Nat) (vs : List AV) (fr : Fram) (up : List Fram) : ActR := (match vs with
    | [.agg l, .agg m] => (match eqCs l m with
        | some b => (pbool (b != neg), fr, up, l.length == n)
        | none => bad fr up)
    | _ => bad fr up)
def aFld (agg : Bool) (off : Nat) (n : Nat) (vs : List AV) (fr : Fram) (up : List Fram) : ActR := (match vs with
    | [.agg l] => (mkA agg (cut off n l), fr, up, decide (off + n ≤ l.length) && (agg || n == 1))
    | _ => bad fr up)
def aExt (i : Nat) (vs : List AV) (fr : Fram) (up : List Fram) : ActR := (match vs with
    | [.tup l] => (match l[i]? with
        | some (b, cs) => (mkA b cs, fr, up, true)
        | none => bad fr up)
    | _ => bad fr up)
def aLenS  (vs : List AV) (fr : Fram) (up : List Fram) : ActR := (match vs with
    | [.c (.p (.lit (.string s)))] => (pint .i64 s.size, fr, up, true)
    | _ => bad fr up)
def aLenL  (vs : List AV) (fr : Fram) (up : List Fram) : ActR := (match vs with
    | [.c x] => (match x with
        | .p (.sl _ l) => (pint .i64 l.length, fr, up, true)
        | .own _ l => (pint .i64 l.length, fr, up, true)
        | .arr _ _ _ _ n => (pint .i64 n, fr, up, true)
        | _ => bad fr up)
    | _ => bad fr up)
def aLenM  (vs : List AV) (fr : Fram) (up : List Fram) : ActR := (match vs with
    | [.c (.mp d k)] => (match getH d k (fr :: up) with
        | some (.map es) => (pint .i64 es.length, fr, up, true)
        | _ => bad fr up)
    | _ => bad fr up)
def aApp (sz : Nat) (bytes : Nat) (vs : List AV) (fr : Fram) (up : List Fram) : ActR := (match vs with
    | [.c x, y] => (match listOf sz (fr :: up) y with
        | some ys => (match x with
          | .own sz' l => (.c (.own sz (l ++ ys)), fr, up, decide (sz' = sz ∧ (l.length + ys.length) * bytes ≤ roomy))
          | _ => bad fr up)
        | none => bad fr up)
    | _ => bad fr up)
def aMx  (vs : List AV) (fr : Fram) (up : List Fram) : ActR := (match vs with
    | [.c (.p (.lit (.int k a))), .c (.p (.lit (.int j b)))] => (pint k (if b > a then b else a), fr, up, decide (k = j))
    | _ => bad fr up)
def aMn  (vs : List AV) (fr : Fram) (up : List Fram) : ActR := (match vs with
    | [.c (.p (.lit (.int k a))), .c (.p (.lit (.int j b)))] => (pint k (if b < a then b else a), fr, up, decide (k = j))
    | _ => bad fr up)
def aCall (C : Callee) (f : FuncId) (vs : List AV) (fr : Fram) (up : List Fram) : ActR := (match vs with
    | xs => 
        (match freeAs xs with
        | true => let (r, _, ok) := C f xs []; (r, fr, up, ok && freeA r)
        | false => match C f xs (fr :: up) with
          | (r, fr' :: up', ok) => (r, fr', up', ok)
          | _ => bad fr up))
def aCallv (C : Callee)  (vs : List AV) (fr : Fram) (up : List Fram) : ActR := (match vs with
    | .c (.p (.lit (.func (.func f) c1 c2))) :: xs => 
        (match c1.size == 0 && c2.size == 0, freeAs xs with
        | true, true => let (r, _, ok) := C f xs []; (r, fr, up, ok && freeA r)
        | true, false => match C f xs (fr :: up) with
          | (r, fr' :: up', ok) => (r, fr', up', ok)
          | _ => bad fr up
        | _, _ => bad fr up)
    | _ => bad fr up)
def aMkm (s : Nat) (vs : List AV) (fr : Fram) (up : List Fram) : ActR := (.c (.mp 0 s), (s, .map []) :: fr, up, !hhas s fr)
def aMks (s : Nat) (sz : Nat) (z : List PV) (vs : List AV) (fr : Fram) (up : List Fram) : ActR := (match vs with
    | [.c (.p (.lit (.int .i64 n))), .c (.p (.lit (.int .i64 m)))] => 
        (.c (.arr 0 s sz 0 n.toNat), (s, .arr sz (List.replicate n.toNat z)) :: fr, up, !hhas s fr && decide (0 ≤ n ∧ n = m ∧ n * 64 ≤ roomy))
    | _ => bad fr up)
def aLk (zagg : Bool) (z : List PV) (ok : Bool) (vs : List AV) (fr : Fram) (up : List Fram) : ActR := (match vs with
    | [.c (.mp d k), .c (.p (.lit key))] => (match getH d k (fr :: up) with
        | some (.map es) =>
          let (b, cs, found) := match mget key es with | some (b, cs) => (b, cs, true) | none => (zagg, z, false)
          (if ok then .tup [(b, pvs cs), (false, [.p (.lit (.bool found))])] else mkA b (pvs cs), fr, up, keyOk key)
        | _ => bad fr up)
    | _ => bad fr up)
def aMu  (vs : List AV) (fr : Fram) (up : List Fram) : ActR := (match vs with
    | [.c (.mp d k), .c (.p (.lit key)), v] => (match getH d k (fr :: up), (cellsA v).bind toPs with
        | some (.map es), some xs => (match setH d k (.map (mset key (isAggA v, xs) es)) (fr :: up) with
          | fr' :: up' => (undefA, fr', up', keyOk key)
          | [] => bad fr up)
        | _, _ => bad fr up)
    | _ => bad fr up)
def aCopy (sz : Nat) (vs : List AV) (fr : Fram) (up : List Fram) : ActR := (match vs with
    | [.c (.arr d k sz' off n), y] => (match getH d k (fr :: up), listOf sz (fr :: up) y with
        | some (.arr sz2 l), some ys => (match setH d k (.arr sz2 (put l off ys)) (fr :: up) with
          | fr' :: up' => (pint .i64 ys.length, fr', up', decide (sz' = sz ∧ sz2 = sz ∧ off + n ≤ l.length ∧ ys.length ≤ n))
          | [] => bad fr up)
        | _, _ => bad fr up)
    | _ => bad fr up)
def aSlSTT  (vs : List AV) (fr : Fram) (up : List Fram) : ActR := (match vs with
    | [.c (.p (.lit (.string s))), .c (.p (.lit (.int _ a))), .c (.p (.lit (.int _ b)))] => (.c (.p (.lit (.string (s.extract a.toNat b.toNat)))), fr, up, decide (0 ≤ a ∧ a ≤ b ∧ b ≤ s.size))
    | _ => bad fr up)
def aSlSTF  (vs : List AV) (fr : Fram) (up : List Fram) : ActR := (match vs with
    | [.c (.p (.lit (.string s))), .c (.p (.lit (.int _ a)))] => (.c (.p (.lit (.string (s.extract a.toNat s.size)))), fr, up, decide (0 ≤ a ∧ a ≤ s.size))
    | _ => bad fr up)
def aSlSFT  (vs : List AV) (fr : Fram) (up : List Fram) : ActR := (match vs with
    | [.c (.p (.lit (.string s))), .c (.p (.lit (.int _ b)))] => (.c (.p (.lit (.string (s.extract 0 b.toNat)))), fr, up, decide (0 ≤ b ∧ b ≤ s.size))
    | _ => bad fr up)
def aSlLTT (sz : Nat) (vs : List AV) (fr : Fram) (up : List Fram) : ActR := (match vs with
    | [.c x, .c (.p (.lit (.int _ a))), .c (.p (.lit (.int _ b)))] => (match slOf sz x with
      | some l => (.c (.p (.sl sz ((l.take b.toNat).drop a.toNat))), fr, up, decide (0 ≤ a ∧ a ≤ b ∧ b ≤ l.length))
      | none => bad fr up)
    | _ => bad fr up)
def aSlLTF (sz : Nat) (vs : List AV) (fr : Fram) (up : List Fram) : ActR := (match vs with
    | [.c x, .c (.p (.lit (.int _ a)))] => (match slOf sz x with
      | some l => (.c (.p (.sl sz (l.drop a.toNat))), fr, up, decide (0 ≤ a ∧ a ≤ l.length))
      | none => bad fr up)
    | _ => bad fr up)
def aSlLFT (sz : Nat) (vs : List AV) (fr : Fram) (up : List Fram) : ActR := (match vs with
    | [.c x, .c (.p (.lit (.int _ b)))] => (match slOf sz x with
      | some l => (.c (.p (.sl sz (l.take b.toNat))), fr, up, decide (0 ≤ b ∧ b ≤ l.length))
      | none => bad fr up)
    | _ => bad fr up)
def actF (C : Callee) (op : XK) : List AV → Fram → List Fram → ActR := match op with
  | .mv  => aMv 
  | .pick  => aPick 
  | .alloc s u1 z => aAlloc s u1 z
  | .box s => aBox s
  | .bld z offs => aBld z offs
  | .blds sz z n idx => aBlds sz z n idx
  | .ld agg n take => aLd agg n take
  | .st n => aSt n
  | .nck  => aNck 
  | .bin op bq => aBin op bq
  | .un op => aUn op
  | .cvi k => aCvi k
  | .cbs  => aCbs 
  | .fa off => aFa off
  | .ia sz => aIa sz
  | .iaa sz n => aIaa sz n
  | .ixs  => aIxs 
  | .beq neg n => aBeq neg n
  | .fld agg off n => aFld agg off n
  | .ext i => aExt i
  | .lenS  => aLenS 
  | .lenL  => aLenL 
  | .lenM  => aLenM 
  | .app sz bytes => aApp sz bytes
  | .mx  => aMx 
  | .mn  => aMn 
  | .call f => aCall C f
  | .callv  => aCallv C 
  | .mkm s => aMkm s
  | .mks s sz z => aMks s sz z
  | .lk zagg z ok => aLk zagg z ok
  | .mu  => aMu 
  | .copy sz => aCopy sz
  | .slS  lo hi => (match lo, hi with | true, true => aSlSTT  | true, false => aSlSTF  | false, true => aSlSFT  | false, false => fun _ fr up => bad fr up)
  | .slL sz lo hi => (match lo, hi with | true, true => aSlLTT sz | true, false => aSlLTF sz | false, true => aSlLFT sz | false, false => fun _ fr up => bad fr up)
  | _ => fun _ fr up => bad fr up

theorem actF_eq (C : Callee) (op : XK) (vs : List AV) (fr : Fram) (up : List Fram) : actF C op vs fr up = act C op vs fr up := by
  cases op
  case slS lo hi => cases lo <;> cases hi <;> rfl
  case slL sz lo hi => cases lo <;> cases hi <;> rfl
  all_goals rfl

noncomputable def lookF (t : Nat) (e : Env) : AV := List.rec (motive := fun _ => AV) deadA (fun p _ ih => bif Nat.beq p.1 t then p.2 else ih) e
theorem nbeq_ne {a b : Nat} (h : a ≠ b) : Nat.beq a b = false := by
  cases hq : Nat.beq a b with
  | false => rfl
  | true => exact absurd (Nat.eq_of_beq_eq_true hq) h
theorem lookF_eq (t : Nat) : ∀ e : Env, lookF t e = look t e
  | [] => rfl
  | (t', x) :: r => by
    have ih := lookF_eq t r
    show (bif Nat.beq t' t then x else lookF t r) = if t' = t then x else look t r
    by_cases h : t' = t
    · subst h; rw [if_pos rfl, show Nat.beq t' t' = true from Nat.beq_refl t']; rfl
    · rw [if_neg h, nbeq_ne h, ih]; rfl

noncomputable def forceN {R : Type} (n : Nat) (k : Nat → R) : R := Nat.rec (motive := fun _ => R) (k 0) (fun m _ => k (Nat.succ m)) n
theorem forceN_eq {R : Type} (n : Nat) (k : Nat → R) : forceN n k = k n := by cases n <;> rfl
noncomputable def forceI {R : Type} (n : Int) (k : Int → R) : R := Int.rec (motive := fun _ => R) (fun m => forceN m fun m => k (.ofNat m)) (fun m => forceN m fun m => k (.negSucc m)) n
theorem forceI_eq {R : Type} (n : Int) (k : Int → R) : forceI n k = k n := by
  cases n with
  | ofNat m => exact forceN_eq m fun m => k (.ofNat m)
  | negSucc m => exact forceN_eq m fun m => k (.negSucc m)

inductive SR where
  | bad
  | ok (e : Env) (fr : Fram) (up : List Fram)
inductive CR where
  | bad
  | ok (x : Ex) (e : Env) (fr : Fram) (up : List Fram)

noncomputable def forceA {R : Type} (r : AV) (k : AV → R) : R := match r with
  | .c (.p (.lit (.int ik n))) => forceI n fun n => k (.c (.p (.lit (.int ik n))))
  | .c (.p (.lit (.bool b))) => (match b with | true => k (.c (.p (.lit (.bool true)))) | false => k (.c (.p (.lit (.bool false)))))
  | r => k r
theorem forceA_eq {R : Type} (r : AV) (k : AV → R) : forceA r k = k r := by
  unfold forceA
  split
  · exact forceI_eq _ _
  · rename_i b; cases b <;> rfl
  · rfl

noncomputable def wantedF (e : Env) : Option (Nat × Bool) → Option Bool
  | none => some true
  | some (t, b) => match lookF t e with
    | .c (.p (.lit (.bool c))) => some (c == b)
    | .tup [] => some false
    | _ => none
theorem wantedF_eq (e : Env) (g : Option (Nat × Bool)) : wantedF e g = wantedX e g := by
  unfold wantedF wantedX
  cases g with
  | none => rfl
  | some p => obtain ⟨t, b⟩ := p; simp only [lookF_eq]; rfl

noncomputable def rdF (x : XO) (e : Env) : AV × Env := match x with
  | .t n => (demA (lookF n e), e)
  | .tk n => (lookF n e, (n, demA (lookF n e)) :: e)
  | .k p => (.c (.p p), e)
  | .kn sz => (.c (.own sz []), e)
  | .ka cs => (.agg (zvs cs), e)
theorem rdF_eq (x : XO) (e : Env) : rdF x e = rdO e x := by cases x <;> simp only [rdF, rdO, lookF_eq]
noncomputable def rdsF (xs : List XO) : Env → List AV × Env := List.rec (motive := fun _ => Env → List AV × Env) (fun e => ([], e)) (fun x _ ih e => match rdF x e with | (v, e1) => match ih e1 with | (vs, e2) => (v :: vs, e2)) xs
theorem rdsF_eq : ∀ (xs : List XO) (e : Env), rdsF xs e = rdOs e xs
  | [], e => rfl
  | x :: r, e => by
    show (match rdF x e with | (v, e1) => match rdsF r e1 with | (vs, e2) => (v :: vs, e2)) = _
    rw [rdF_eq]
    simp only [rdOs, rdsF_eq]

noncomputable def stepF (C : Callee) (o : XOper) (e : Env) (fr : Fram) (up : List Fram) : SR := match o with
  | ⟨dst, g, op, xs⟩ => match wantedF e g with
    | some b => (match b with
      | true => (match rdsF xs e with
        | (vs, e1) => (match actF C op vs fr up with
          | (r, fr', up', ok) => (match ok with
            | true => forceA r fun r => .ok (putE dst r e1) fr' up'
            | false => .bad)))
      | false => .ok (putE dst undefA e) fr up)
    | none => .bad
/-- What a callee answers with a clean hand, another answers too. -/
def Le (C D : Callee) : Prop := ∀ f args frames r frames', C f args frames = (r, frames', true) → D f args frames = (r, frames', true)
theorem act_le {C D : Callee} (h : Le C D) {op : XK} {vs : List AV} {fr fr' : Fram} {up up' : List Fram} {r : AV} (ha : act C op vs fr up = (r, fr', up', true)) : act D op vs fr up = (r, fr', up', true) := by
  have hcall : ∀ {f : FuncId} {xs : List AV}, (match freeAs xs with
        | true => let (r, _, ok) := C f xs []; (r, fr, up, ok && freeA r)
        | false => match C f xs (fr :: up) with
          | (r, fr' :: up', ok) => (r, fr', up', ok)
          | _ => bad fr up) = ((r, fr', up', true) : ActR) → (match freeAs xs with
        | true => let (r, _, ok) := D f xs []; (r, fr, up, ok && freeA r)
        | false => match D f xs (fr :: up) with
          | (r, fr' :: up', ok) => (r, fr', up', ok)
          | _ => bad fr up) = ((r, fr', up', true) : ActR) := by
    intro f xs ha
    cases hf : freeAs xs with
    | true =>
      rw [hf] at ha
      generalize hc : C f xs [] = q at ha
      obtain ⟨r1, fs1, ok1⟩ := q
      simp only [Prod.mk.injEq, Bool.and_eq_true] at ha
      obtain ⟨rfl, rfl, rfl, rfl, h4⟩ := ha
      simp only [h _ _ _ _ _ hc, h4, Bool.and_self]
    | false =>
      rw [hf] at ha
      generalize hc : C f xs (fr :: up) = q at ha
      obtain ⟨r1, fs1, ok1⟩ := q
      cases fs1 with
      | nil => simp [bad] at ha
      | cons f1 u1 =>
        simp only [Prod.mk.injEq] at ha
        obtain ⟨rfl, rfl, rfl, rfl⟩ := ha
        simp only [h _ _ _ _ _ hc]
  cases op
  case call f => simp only [act] at ha ⊢; exact hcall ha
  case callv =>
    simp only [act] at ha ⊢
    split at ha
    · rename_i f c1 c2 xs
      cases hz : (c1.size == 0 && c2.size == 0) with
      | true =>
        have := hcall (f := f) (xs := xs) (by rw [hz] at ha; cases hf : freeAs xs <;> simp only [hf] at ha ⊢ <;> exact ha)
        cases hf : freeAs xs <;> simp only [hf] at this ⊢ <;> exact this
      | false => rw [hz] at ha; simp [bad] at ha
    · simp [bad] at ha
  case slS lo hi => cases lo <;> cases hi <;> exact ha
  case slL sz lo hi => cases lo <;> cases hi <;> exact ha
  all_goals exact ha

theorem stepF_ok {C D : Callee} (h : Le C D) {o : XOper} {e e' : Env} {fr fr' : Fram} {up up' : List Fram} (hs : stepF C o e fr up = .ok e' fr' up') : stepX D o ⟨e, fr, up, true⟩ = ⟨e', fr', up', true⟩ := by
  obtain ⟨dst, g, op, xs⟩ := o
  unfold stepF at hs
  unfold stepX
  dsimp only at hs ⊢
  rw [wantedF_eq] at hs
  cases hw : wantedX e g with
  | none => rw [hw] at hs; cases hs
  | some b =>
    rw [hw] at hs
    cases b with
    | false => simp only [SR.ok.injEq] at hs; obtain ⟨rfl, rfl, rfl⟩ := hs; simp [hw]
    | true =>
      simp only [rdsF_eq] at hs
      generalize hq : rdOs e xs = q at hs
      obtain ⟨vs, e1⟩ := q
      simp only [actF_eq] at hs
      generalize ha : act C op vs fr up = q at hs
      obtain ⟨r, fr1, up1, ok⟩ := q
      cases ok with
      | false => cases hs
      | true =>
        simp only [forceA_eq, SR.ok.injEq] at hs
        obtain ⟨rfl, rfl, rfl⟩ := hs
        simp [hw, hq, act_le h ha]
noncomputable def stepsF (C : Callee) (ops : List XOper) : Env → Fram → List Fram → SR := List.rec (motive := fun _ => Env → Fram → List Fram → SR) (fun e fr up => .ok e fr up) (fun o _ ih e fr up => match stepF C o e fr up with | .ok e fr up => ih e fr up | .bad => .bad) ops
theorem stepsF_ok {C D : Callee} (h : Le C D) : ∀ {ops : List XOper} {e e' : Env} {fr fr' : Fram} {up up' : List Fram} (_ : stepsF C ops e fr up = .ok e' fr' up'), stepsX D ops ⟨e, fr, up, true⟩ = ⟨e', fr', up', true⟩
  | [], e, e', fr, fr', up, up', hs => by
    have : SR.ok e fr up = .ok e' fr' up' := hs
    simp only [SR.ok.injEq] at this; obtain ⟨rfl, rfl, rfl⟩ := this; rfl
  | o :: r, e, e', fr, fr', up, up', hs => by
    have hs' : (match stepF C o e fr up with | .ok e fr up => stepsF C r e fr up | .bad => SR.bad) = .ok e' fr' up' := hs
    generalize hq : stepF C o e fr up = q at hs'
    cases q with
    | bad => cases hs'
    | ok e1 fr1 up1 =>
      have h1 := stepF_ok h hq
      have h2 := stepsF_ok h (ops := r) hs'
      simp only [stepsX, h1, h2]
noncomputable def stepDF (C : Callee) (o : XOperD) (e : Env) (fr : Fram) (up : List Fram) : SR := match dynF o e with
  | true => stepF C o.x e fr up
  | false => .bad
  where dynF (o : XOperD) (e : Env) : Bool := match wantedF e o.x.g with
  | some b => (match b with
    | true => (match (rdsF o.x.xs e).1 with
      | vs => (!isCall o.x.op || o.iso || freeAs vs) && avoidAs o.forb vs)
    | false => true)
  | _ => true
theorem dynF_eq (o : XOperD) (e : Env) (fr : Fram) (up : List Fram) (ok : Bool) : stepDF.dynF o e = dynD o ⟨e, fr, up, ok⟩ := by
  unfold stepDF.dynF dynD
  rw [wantedF_eq]
  cases wantedX e o.x.g with
  | none => rfl
  | some b => cases b with
    | true => simp only [rdsF_eq]
    | false => rfl
theorem stepDF_ok {C D : Callee} (h : Le C D) {o : XOperD} {e e' : Env} {fr fr' : Fram} {up up' : List Fram} (hs : stepDF C o e fr up = .ok e' fr' up') : stepD D o ⟨e, fr, up, true⟩ = ⟨e', fr', up', true⟩ := by
  unfold stepDF at hs
  rw [dynF_eq o e fr up true] at hs
  cases hd : dynD o ⟨e, fr, up, true⟩ with
  | false => rw [hd] at hs; cases hs
  | true =>
    rw [hd] at hs
    unfold stepD
    simp only [stepF_ok h hs, hd, Bool.and_self]
noncomputable def stepsDF (C : Callee) (ops : List XOperD) : Env → Fram → List Fram → SR := List.rec (motive := fun _ => Env → Fram → List Fram → SR) (fun e fr up => .ok e fr up) (fun o _ ih e fr up => match stepDF C o e fr up with | .ok e fr up => ih e fr up | .bad => .bad) ops
theorem stepsDF_ok {C D : Callee} (h : Le C D) : ∀ {ops : List XOperD} {e e' : Env} {fr fr' : Fram} {up up' : List Fram} (_ : stepsDF C ops e fr up = .ok e' fr' up'), stepsD D ops ⟨e, fr, up, true⟩ = ⟨e', fr', up', true⟩
  | [], e, e', fr, fr', up, up', hs => by
    have : SR.ok e fr up = .ok e' fr' up' := hs
    simp only [SR.ok.injEq] at this; obtain ⟨rfl, rfl, rfl⟩ := this; rfl
  | o :: r, e, e', fr, fr', up, up', hs => by
    have hs' : (match stepDF C o e fr up with | .ok e fr up => stepsDF C r e fr up | .bad => SR.bad) = .ok e' fr' up' := hs
    generalize hq : stepDF C o e fr up = q at hs'
    cases q with
    | bad => cases hs'
    | ok e1 fr1 up1 =>
      have h1 := stepDF_ok h hq
      have h2 := stepsDF_ok h (ops := r) hs'
      simp only [stepsD, h1, h2]

noncomputable def keepK {R : Type} (ts : List Nat) : Env → (Env → R) → R := List.rec (motive := fun _ => Env → (Env → R) → R) (fun _ k => k []) (fun t _ ih e k => match lookF t e with
  | .c x => ih e fun e' => k ((t, .c x) :: e')
  | .agg l => ih e fun e' => k ((t, .agg l) :: e')
  | .tup l => ih e fun e' => k ((t, .tup l) :: e')) ts
theorem keepK_eq {R : Type} : ∀ (ts : List Nat) (e : Env) (k : Env → R), keepK ts e k = k (keepE ts e)
  | [], e, k => rfl
  | t :: r, e, k => by
    have ih := fun k => keepK_eq (R := R) r e k
    show (match lookF t e with
      | .c x => keepK r e fun e' => k ((t, .c x) :: e')
      | .agg l => keepK r e fun e' => k ((t, .agg l) :: e')
      | .tup l => keepK r e fun e' => k ((t, .tup l) :: e')) = _
    rw [lookF_eq]
    cases hl : look t e <;> simp only [ih, keepE, hl]

noncomputable def loopF (body : Env → Fram → List Fram → CR) (live keep : List Nat) (n : Nat) : Env → Fram → List Fram → CR := Nat.rec (motive := fun _ => Env → Fram → List Fram → CR) (fun _ _ _ => .bad) (fun _ ih e fr up => keepK live e fun e1 =>
    match keptE keep e1 && keptF keep (keepF keep fr) with
    | true => (match body e1 (keepF keep fr) up with
      | .ok x e2 fr2 up2 => (match x with
        | .normal => ih e2 fr2 up2
        | .exit j => .ok (.exit j) e2 fr2 up2
        | .ret => .ok .ret e2 fr2 up2)
      | .bad => .bad)
    | false => .bad) n

noncomputable def evCF (C : Callee) (n : Nat) (c : XCode) : Env → Fram → List Fram → CR := XCode.rec (motive := fun _ => Env → Fram → List Fram → CR)
  (fun e fr up => .ok .normal e fr up)
  (fun ops live e fr up => match stepsDF C ops e fr up with
    | .ok e1 fr1 up1 => keepK live e1 fun e2 => .ok .normal e2 fr1 up1
    | .bad => .bad)
  (fun _ ops live e fr up => match stepsF C ops e fr up with
    | .ok e1 fr1 up1 => keepK live e1 fun e2 => .ok .normal e2 fr1 up1
    | .bad => .bad)
  (fun _ _ iha ihb e fr up => match iha e fr up with
    | .ok x e1 fr1 up1 => (match x with
      | .normal => ihb e1 fr1 up1
      | .exit j => .ok (.exit j) e1 fr1 up1
      | .ret => .ok .ret e1 fr1 up1)
    | .bad => .bad)
  (fun c _ _ iha ihb e fr up => match (rdF c e).1 with
    | .c (.p (.lit (.bool t))) => (match t with
      | true => iha e fr up
      | false => ihb e fr up)
    | _ => .bad)
  (fun id _ ih e fr up => match ih e fr up with
    | .ok x e1 fr1 up1 => (match x with
      | .normal => .ok .normal e1 fr1 up1
      | .exit j => bif Nat.beq j id then .ok .normal e1 fr1 up1 else .ok (.exit j) e1 fr1 up1
      | .ret => .ok .ret e1 fr1 up1)
    | .bad => .bad)
  (fun live keep _ ih e fr up => loopF ih live keep n e fr up)
  (fun id e fr up => .ok (.exit id) e fr up)
  (fun e fr up => .ok .ret e fr up) c
theorem loopF_ok {D : Callee} {N : Nat} {b : XCode} {body : Env → Fram → List Fram → CR} (hb : ∀ {e fr up x e' fr' up'}, body e fr up = .ok x e' fr' up' → evC D N b ⟨e, fr, up, true⟩ = (x, ⟨e', fr', up', true⟩)) {live keep : List Nat} :
    ∀ {n : Nat} {e e' : Env} {fr fr' : Fram} {up up' : List Fram} {x : Ex} (_ : loopF body live keep n e fr up = .ok x e' fr' up'), loopX (evC D N b) (headX live keep) n ⟨e, fr, up, true⟩ = (x, ⟨e', fr', up', true⟩)
  | 0, e, e', fr, fr', up, up', x, h => by cases h
  | n + 1, e, e', fr, fr', up, up', x, h => by
    have h' : (keepK (R := CR) live e fun e1 =>
      match keptE keep e1 && keptF keep (keepF keep fr) with
      | true => (match body e1 (keepF keep fr) up with
        | CR.ok x e2 fr2 up2 => (match x with
          | .normal => loopF body live keep n e2 fr2 up2
          | .exit j => CR.ok (.exit j) e2 fr2 up2
          | .ret => CR.ok .ret e2 fr2 up2)
        | CR.bad => CR.bad)
      | false => CR.bad) = CR.ok x e' fr' up' := h
    rw [keepK_eq] at h'
    cases hk : (keptE keep (keepE live e) && keptF keep (keepF keep fr)) with
    | false => rw [hk] at h'; cases h'
    | true =>
      simp only [hk] at h'
      generalize hq : body (keepE live e) (keepF keep fr) up = q at h'
      cases q with
      | bad => cases h'
      | ok y e2 fr2 up2 =>
        have h1 := hb hq
        have h2 : headX live keep ⟨e, fr, up, true⟩ = ⟨keepE live e, keepF keep fr, up, true⟩ := by
          simp only [headX, Bool.true_and, hk]
        cases y with
        | normal => simp only [loopX, h2, h1]; exact loopF_ok hb h'
        | exit j => simp only [CR.ok.injEq] at h'; obtain ⟨rfl, rfl, rfl, rfl⟩ := h'; simp only [loopX, h2, h1]
        | ret => simp only [CR.ok.injEq] at h'; obtain ⟨rfl, rfl, rfl, rfl⟩ := h'; simp only [loopX, h2, h1]
theorem evCF_ok {C D : Callee} (h : Le C D) (n : Nat) : ∀ {c : XCode} {e e' : Env} {fr fr' : Fram} {up up' : List Fram} {x : Ex} (_ : evCF C n c e fr up = .ok x e' fr' up'), evC D n c ⟨e, fr, up, true⟩ = (x, ⟨e', fr', up', true⟩) := by
  intro c
  induction c with
  | skip =>
    intro e e' fr fr' up up' x hs
    have : CR.ok .normal e fr up = .ok x e' fr' up' := hs
    simp only [CR.ok.injEq] at this; obtain ⟨rfl, rfl, rfl, rfl⟩ := this; rfl
  | regionD ops live =>
    intro e e' fr fr' up up' x hs
    have hs' : (match stepsDF C ops e fr up with
      | .ok e1 fr1 up1 => keepK live e1 fun e2 => CR.ok .normal e2 fr1 up1
      | .bad => .bad) = .ok x e' fr' up' := hs
    generalize hq : stepsDF C ops e fr up = q at hs'
    cases q with
    | bad => cases hs'
    | ok e1 fr1 up1 =>
      simp only [keepK_eq, CR.ok.injEq] at hs'
      obtain ⟨rfl, rfl, rfl, rfl⟩ := hs'
      simp only [evC, stepsDF_ok h hq]
  | region d ops live =>
    intro e e' fr fr' up up' x hs
    have hs' : (match stepsF C ops e fr up with
      | .ok e1 fr1 up1 => keepK live e1 fun e2 => CR.ok .normal e2 fr1 up1
      | .bad => .bad) = .ok x e' fr' up' := hs
    generalize hq : stepsF C ops e fr up = q at hs'
    cases q with
    | bad => cases hs'
    | ok e1 fr1 up1 =>
      simp only [keepK_eq, CR.ok.injEq] at hs'
      obtain ⟨rfl, rfl, rfl, rfl⟩ := hs'
      simp only [evC, stepsF_ok h hq]
  | seq a b iha ihb =>
    intro e e' fr fr' up up' x hs
    have hs' : (match evCF C n a e fr up with
      | .ok x e1 fr1 up1 => (match x with
        | .normal => evCF C n b e1 fr1 up1
        | .exit j => CR.ok (.exit j) e1 fr1 up1
        | .ret => CR.ok .ret e1 fr1 up1)
      | .bad => CR.bad) = .ok x e' fr' up' := hs
    generalize hq : evCF C n a e fr up = q at hs'
    cases q with
    | bad => cases hs'
    | ok y e1 fr1 up1 =>
      have h1 := iha hq
      cases y with
      | normal => simp only [evC, h1]; exact ihb hs'
      | exit j => simp only [CR.ok.injEq] at hs'; obtain ⟨rfl, rfl, rfl, rfl⟩ := hs'; simp only [evC, h1]
      | ret => simp only [CR.ok.injEq] at hs'; obtain ⟨rfl, rfl, rfl, rfl⟩ := hs'; simp only [evC, h1]
  | cond c a b iha ihb =>
    intro e e' fr fr' up up' x hs
    have hs' : (match (rdF c e).1 with
      | .c (.p (.lit (.bool t))) => (match t with
        | true => evCF C n a e fr up
        | false => evCF C n b e fr up)
      | _ => CR.bad) = .ok x e' fr' up' := hs
    rw [rdF_eq] at hs'
    simp only [evC]
    split at hs'
    · rename_i t ht
      rw [ht]
      cases t with
      | true => exact iha hs'
      | false => exact ihb hs'
    · cases hs'
  | block id b ih =>
    intro e e' fr fr' up up' x hs
    have hs' : (match evCF C n b e fr up with
      | .ok x e1 fr1 up1 => (match x with
        | .normal => CR.ok .normal e1 fr1 up1
        | .exit j => bif Nat.beq j id then CR.ok .normal e1 fr1 up1 else CR.ok (.exit j) e1 fr1 up1
        | .ret => CR.ok .ret e1 fr1 up1)
      | .bad => CR.bad) = .ok x e' fr' up' := hs
    generalize hq : evCF C n b e fr up = q at hs'
    cases q with
    | bad => cases hs'
    | ok y e1 fr1 up1 =>
      have h1 := ih hq
      cases y with
      | normal => simp only [CR.ok.injEq] at hs'; obtain ⟨rfl, rfl, rfl, rfl⟩ := hs'; simp only [evC, h1]
      | ret => simp only [CR.ok.injEq] at hs'; obtain ⟨rfl, rfl, rfl, rfl⟩ := hs'; simp only [evC, h1]
      | exit j =>
        simp only [evC, h1]
        dsimp only at hs'
        by_cases hj : j = id
        · subst hj
          rw [show Nat.beq j j = true from Nat.beq_refl j] at hs'
          simp only [cond_true, CR.ok.injEq] at hs'; obtain ⟨rfl, rfl, rfl, rfl⟩ := hs'; rw [if_pos rfl]
        · rw [nbeq_ne hj] at hs'
          simp only [cond_false, CR.ok.injEq] at hs'; obtain ⟨rfl, rfl, rfl, rfl⟩ := hs'; rw [if_neg hj]
  | loop live keep b ih =>
    intro e e' fr fr' up up' x hs
    have hs' : loopF (evCF C n b) live keep n e fr up = .ok x e' fr' up' := hs
    simp only [evC]
    exact loopF_ok (fun hh => ih hh) hs'
  | exit i =>
    intro e e' fr fr' up up' x hs
    have : CR.ok (.exit i) e fr up = .ok x e' fr' up' := hs
    simp only [CR.ok.injEq] at this; obtain ⟨rfl, rfl, rfl, rfl⟩ := this; rfl
  | ret =>
    intro e e' fr fr' up up' x hs
    have : CR.ok .ret e fr up = .ok x e' fr' up' := hs
    simp only [CR.ok.injEq] at this; obtain ⟨rfl, rfl, rfl, rfl⟩ := this; rfl

noncomputable def finF (xf : XFunc) (e : Env) (fr : Fram) (up : List Fram) : AV × List Fram × Bool := match resXs ⟨e, fr, up, true⟩ xf.res with
  | none => (deadA, [], false)
  | some rs => match frzA fr (tupA rs) with
    | t => (downA 1 t, up, outA 1 t)
noncomputable def runXF (C : Callee) (n : Nat) (xf : XFunc) (args : List AV) (frames : List Fram) : AV × List Fram × Bool :=
  match args.length == xf.np with
  | true => (match evCF C n xf.body (zipArgs 0 (upAs 1 args)) [] frames with
    | .ok x e fr up => (match x with
      | .exit _ => (deadA, [], false)
      | .normal => finF xf e fr up
      | .ret => finF xf e fr up)
    | .bad => (deadA, [], false))
  | false => (deadA, [], false)
noncomputable def evFF (tbl : FuncId → Option XFunc) (ext : Callee) (k : Nat) : Callee := Nat.rec (motive := fun _ => Callee) (fun _ _ _ => (deadA, [], false)) (fun k ih f args frames => match tbl f with
  | some xf => runXF ih k xf args frames
  | none => ext f args frames) k
theorem runXF_ok {C D : Callee} (h : Le C D) {n : Nat} {xf : XFunc} {args : List AV} {frames frames' : List Fram} {r : AV} (hr : runXF C n xf args frames = (r, frames', true)) : runX D n xf args frames = (r, frames', true) := by
  unfold runXF at hr
  unfold runX
  cases hl : (args.length == xf.np) with
  | false => rw [hl] at hr; simp at hr
  | true =>
    simp only [hl] at hr
    generalize hq : evCF C n xf.body (zipArgs 0 (upAs 1 args)) [] frames = q at hr
    cases q with
    | bad => simp at hr
    | ok x e fr up =>
      have h1 := evCF_ok h n hq
      have hfin : ∀ {a b : Unit}, finF xf e fr up = (r, frames', true) → (match resXs ⟨e, fr, up, true⟩ xf.res with
          | none => ((deadA, [], false) : AV × List Fram × Bool)
          | some rs => let t := frzA fr (tupA rs); (downA 1 t, up, true && outA 1 t)) = (r, frames', true) := fun {_ _} hf => by
        unfold finF at hf
        split at hf
        · simp at hf
        · rename_i rs hrs
          simp only [hrs, Bool.true_and]; exact hf
      rw [h1]
      cases x with
      | exit j => simp at hr
      | normal => exact hfin (a := ()) (b := ()) hr
      | ret => exact hfin (a := ()) (b := ()) hr
theorem evFF_le (tbl : FuncId → Option XFunc) (ext : Callee) : ∀ k, Le (evFF tbl ext k) (evF tbl ext k)
  | 0 => fun f args frames r frames' h => by
    have : ((deadA, [], false) : AV × List Fram × Bool) = (r, frames', true) := h
    simp at this
  | k + 1 => fun f args frames r frames' h => by
    have h' : (match tbl f with
      | some xf => runXF (evFF tbl ext k) k xf args frames
      | none => ext f args frames) = (r, frames', true) := h
    simp only [evF]
    split at h'
    · rename_i xf hx; simp only [hx]; exact runXF_ok (evFF_le tbl ext k) h'
    · rename_i hx; simp only [hx]; exact h'
end Go.ScE
