/- The executor's codes and calls. -/
import Derived.Test.YtdjhhdppeicpbaaAbCore
namespace Ab
open Go

/-- The environment: the functions, and those that are answered by a Lean function. -/
structure XEnv where
  fn : FuncId → Option XFunc
  prim : FuncId → Option (List AVal → AH → Option (AVal × AH))

mutual
/-- Are two values alike, to the sign? ('junk' and strings are like nothing.) -/
def AVal.same : AVal → AVal → Bool
  | .bool a, .bool b => a == b
  | .int k a, .int k' b => k == k' && a == b
  | .float k a, .float k' b => k == k' && a == b
  | .nilptr, .nilptr | .nilslice, .nilslice | .nilmap, .nilmap | .nilFunc, .nilFunc | .nilIface, .nilIface => true
  | .ptr b o, .ptr b' o' => b == b' && o == o'
  | .slice b o n c l, .slice b' o' n' c' l' => b == b' && o == o' && n == n' && c == c' && l == l'
  | .map b, .map b' => b == b'
  | .func f xs, .func g ys => f == g && AVal.sames xs ys
  | .iface t x, .iface u y => t == u && AVal.same x y
  | .agg xs, .agg ys => AVal.sames xs ys
  | .tuple xs, .tuple ys => AVal.sames xs ys
  | _, _ => false
def AVal.sames : List AVal → List AVal → Bool
  | [], [] => true
  | x :: xs, y :: ys => AVal.same x y && AVal.sames xs ys
  | _, _ => false
end

mutual
theorem AVal.same_eq : ∀ {x y : AVal}, AVal.same x y = true → x = y := by
  intro x y h
  cases x <;> cases y <;> simp [AVal.same] at h ⊢ <;> try (simp_all; done)
  · exact ⟨h.1, AVal.sames_eq h.2⟩
  · exact ⟨h.1, AVal.same_eq h.2⟩
  · exact AVal.sames_eq h
  · exact AVal.sames_eq h
theorem AVal.sames_eq : ∀ {xs ys : List AVal}, AVal.sames xs ys = true → xs = ys := by
  intro xs ys h
  cases xs with
  | nil => cases ys <;> simp [AVal.sames] at h ⊢
  | cons x xs => cases ys with
    | nil => simp [AVal.sames] at h
    | cons y ys =>
      simp [AVal.sames] at h
      rw [AVal.same_eq h.1, AVal.sames_eq h.2]
end

def isChain (op : XOp) : Bool := !(isPure op || isRead op || isFree op)

/-- Where a region stands whose order is open: 'bs' are the memories ahead of each operation that turns memory, the last one first. -/
structure DSt where
  T : List AVal
  D : List ADef
  A : AH
  bs : List AH

inductive DRes where
  | stuck
  | ok (s : DSt)
  | pan (v : AVal) (s : DSt) (A : AH)

/-- One operation of such a region. A new block has the number 'id'. -/
def dstep (call : FuncId → List AVal → AH → Res) (id : Nat) (o : XOper) (s : DSt) : DRes :=
  match wants s.T o.guard with
  | none => .stuck
  | some false => .ok { s with T := put s.T o.dst (.tuple []), bs := if isChain o.op then s.A :: s.bs else s.bs }
  | some true =>
    if isPure o.op then
      match apure s.T o.op with
      | some v => .ok { s with T := put s.T o.dst v }
      | none => .stuck
    else if isRead o.op then
      match aread s.T s.A o.op with
      | some v => .ok { s with T := put s.T o.dst v }
      | none => .stuck
    else if isFree o.op then
      match afree s.T o.op with
      | some (x, k) => .ok { s with T := put s.T o.dst (k id), A := s.A.set id x }
      | none => .stuck
    else if isCall o.op then
      match acallee s.T s.A o.op with
      | none => .stuck
      | some (f, args) => match call f args s.A with
        | .stuck => .stuck
        | .ret v A' => .ok { s with T := put s.T o.dst v, A := A', bs := s.A :: s.bs }
        | .pan v A' => .pan v s A'
    else
      match achain s.T s.A o.op with
      | some (v, A') => .ok { s with T := put s.T o.dst v, A := A', bs := s.A :: s.bs }
      | none => .stuck

inductive DRun where
  | stuck
  | done (s : DSt)
  | pan (p : Nat) (v : AVal) (s : DSt) (A : AH)

def drun (call : FuncId → List AVal → AH → Res) (base : Nat) : Nat → List XOper → DSt → DRun
  | _, [], s => .done s
  | i, o :: rest, s => match dstep call (base + i) o s with
    | .stuck => .stuck
    | .ok s' => drun call base (i + 1) rest s'
    | .pan v s A => .pan i v s A

/-- The reads of 'chk' (the operation's place; from how many operations that turn memory on it may come, and behind how many at the most) are what they were, wherever they may come. 'bs': the memories in order. -/
def chkOk (ops : List XOper) (T : List AVal) (bs : List AH) (lim : Nat) : List (Nat × Nat × Nat) → Bool
  | [] => true
  | (r, lo, hi) :: rest =>
    (match ops[r]? with
     | none => false
     | some o =>
       if lim ≤ r then true else
       match wants T o.guard with
       | some false => true
       | some true => (List.range (hi + 1 - lo)).all fun j => match bs[lo + j]? with
         | none => true
         | some B => match aread T B o.op, o.dst with
           | some v, some d => (T.getD d .junk).same v
           | _, _ => false
       | none => false) && chkOk ops T bs lim rest

def xdraw (call : FuncId → List AVal → AH → Res) (ops : List XOper) (chk : List (Nat × Nat × Nat)) (np : List Nat) (T : List AVal) (D : List ADef) (A : AH) : Out :=
  match drun call A.next 0 ops { T, D, A := A.bump ops.length, bs := [] } with
  | .stuck => .stuck
  | .done s => if chkOk ops s.T (s.A :: s.bs).reverse ops.length chk then .norm s.T s.D s.A else .stuck
  | .pan p v s A' => if chkOk ops s.T (s.A :: s.bs).reverse p chk && !np.contains p then .pan v (forget T ops) s.D A' else .stuck

def xloop (body : List AVal → List ADef → AH → Out) : Nat → List AVal → List ADef → AH → Out
  | 0, _, _, _ => .stuck
  | n + 1, T, D, A => match body T D A with
    | .norm T D A => xloop body n T D A
    | o => o

def xcode (call : FuncId → List AVal → AH → Res) (lp : Nat) : XCode → List AVal → List ADef → AH → Out
  | .skip, T, D, A => .norm T D A
  | .region ops, T, D, A => xops call ops ops T D A
  | .draw ops chk np, T, D, A => xdraw call ops chk np T D A
  | .seq a b, T, D, A => match xcode call lp a T D A with
    | .norm T D A => xcode call lp b T D A
    | o => o
  | .cond c a b, T, D, A => match ev T c with
    | .bool true => xcode call lp a T D A
    | .bool false => xcode call lp b T D A
    | _ => .stuck
  | .block id b, T, D, A => match xcode call lp b T D A with
    | .exit id' T D A => if id' = id then .norm T D A else .exit id' T D A
    | o => o
  | .loop b, T, D, A => xloop (xcode call lp b) lp T D A
  | .exit id, T, D, A => .exit id T D A
  | .ret, T, D, A => .ret T D A

def ares1 (T : List AVal) (A : AH) : XRes → Option AVal
  | .tmp t => some (T.getD t .junk)
  | .cell1 t => match T.getD t .junk with
    | .ptr b o => A.rd1 b o
    | _ => none
  | .cellN t n => match T.getD t .junk with
    | .ptr b o => match A.rd b o n with
      | some cs => some (.agg cs)
      | none => none
    | _ => none

def aresAll (T : List AVal) (A : AH) : List XRes → Option (List AVal)
  | [] => some []
  | r :: rs => match ares1 T A r with
    | none => none
    | some v => match aresAll T A rs with
      | none => none
      | some vs => some (v :: vs)

def ares (xf : XFunc) (T : List AVal) (A : AH) : Option AVal :=
  match aresAll T A xf.results with
  | some [v] => some v
  | some vs => some (.tuple vs)
  | none => none

/-- Operations of a deferred function that may recover: 'm' is what the frame below panics with, 'r': it has been recovered. -/
def xopsS : List XOper → List AVal → Option AVal → Bool → Option (List AVal × Bool)
  | [], T, _, r => some (T, r)
  | ⟨dst, op, none⟩ :: rest, T, m, r =>
    match op with
    | .recover => match m, r with
      | some v, false => xopsS rest (put T dst v) m true
      | _, _ => xopsS rest (put T dst .nilIface) m r
    | op => if isPure op then
        match apure T op with
        | some v => xopsS rest (put T dst v) m r
        | none => none
      else none
  | _ :: _, _, _, _ => none

def hasRecover : XCode → Bool
  | .region ops => ops.any fun o => match o.op with | .recover => true | _ => false
  | .seq a b => hasRecover a || hasRecover b
  | _ => false

inductive OutS where
  | stuck
  | norm (T : List AVal) (r : Bool) (A : AH)
  | ret (T : List AVal) (r : Bool) (A : AH)

def xcodeS (call : FuncId → List AVal → AH → Res) (lp : Nat) : XCode → List AVal → Option AVal → Bool → AH → OutS
  | .seq a b, T, m, r, A => match xcodeS call lp a T m r A with
    | .norm T r A => xcodeS call lp b T m r A
    | o => o
  | .region ops, T, m, r, A =>
    if hasRecover (.region ops) then
      match xopsS ops T m r with
      | some (T, r) => .norm T r A
      | none => .stuck
    else match xcode call lp (.region ops) T [] A with
      | .norm T [] A => .norm T r A
      | .ret T [] A => .ret T r A
      | _ => .stuck
  | c, T, _, r, A => match xcode call lp c T [] A with
    | .norm T [] A => .norm T r A
    | .ret T [] A => .ret T r A
    | _ => .stuck

/-- The first slots of a call. -/
def slots (xf : XFunc) (args : List AVal) : List AVal := args ++ List.replicate (xf.ntmps - args.length) (.tuple [])

/-- A deferred call, while the frame below returns (none) or panics. -/
def dcall (E : XEnv) (call : FuncId → List AVal → AH → Res) (lp : Nat) (d : ADef) (m : Option AVal) (A : AH) : Option (Option AVal × AH) :=
  match E.fn d.f with
  | none => none
  | some xf =>
    if xf.results.isEmpty then
      match xcodeS call lp xf.body (slots xf (d.args ++ d.caps)) m false A with
      | .norm _ r A' => some (if r then none else m, A')
      | .ret _ r A' => some (if r then none else m, A')
      | .stuck => none
    else none

/-- The end of a call: the deferred calls, then the results. -/
def leave (E : XEnv) (call : FuncId → List AVal → AH → Res) (lp : Nat) (xf : XFunc) (T : List AVal) : List ADef → Option AVal → AH → Res
  | [], none, A => match ares xf T A with
    | some v => .ret v A
    | none => .stuck
  | [], some v, A => .pan v A
  | d :: ds, m, A => match dcall E call lp d m A with
    | some (m', A') => leave E call lp xf T ds m' A'
    | none => .stuck

def acall (E : XEnv) : Nat → FuncId → List AVal → AH → Res
  | 0, _, _, _ => .stuck
  | n + 1, f, args, A =>
    match E.prim f with
    | some g => match g args A with
      | some (v, A') => .ret v A'
      | none => .stuck
    | none => match E.fn f with
      | none => .stuck
      | some xf => match xcode (acall E n) n xf.body (slots xf args) [] A with
        | .norm T D A => leave E (acall E n) n xf T D none A
        | .ret T D A => leave E (acall E n) n xf T D none A
        | .pan v T D A => leave E (acall E n) n xf T D (some v) A
        | _ => .stuck

end Ab
