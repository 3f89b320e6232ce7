/- From the model's code to the executor's. -/
import Derived.Test.YtdjhhdppeicpbaaAbExec
namespace Ab
open Go

/-- A plain value. -/
def cVal1 : Value → Option AVal
  | .bool b => some (.bool b)
  | .int k n => some (.int k n)
  | .float k b => some (.float k b)
  | .string s => some (.str s)
  | .pointer none => some .nilptr
  | .slice none 0 0 => some .nilslice
  | .map none => some .nilmap
  | .nilFunc => some .nilFunc
  | .nilIface => some .nilIface
  | _ => none

def cVals : List Value → Option (List AVal)
  | [] => some []
  | v :: vs => match cVal1 v, cVals vs with
    | some a, some as => some (a :: as)
    | _, _ => none

def cVal : Value → Option AVal
  | .agg cs => match cVals cs.toList with
    | some as => some (.agg as)
    | none => none
  | .tuple cs => match cVals cs.toList with
    | some as => some (.tuple as)
    | none => none
  | v => cVal1 v

def cOpd : Operand → Option XOpd
  | .tmp t => some (.t t)
  | .const v => match cVal v with
    | some a => some (.c a)
    | none => none
  | .global _ => none
  | .func f => some (.c (.func f []))

def cOpds : List Operand → Option (List XOpd)
  | [] => some []
  | x :: xs => match cOpd x, cOpds xs with
    | some a, some as => some (a :: as)
    | _, _ => none

def cOpt : Option Operand → Option (Option XOpd)
  | none => some none
  | some x => match cOpd x with
    | some a => some (some a)
    | none => none

def isAggD : TypeDesc → Bool
  | .struct _ | .array _ _ => true
  | _ => false

/-- Of a type: is it a struct or an array, and its size in cells. -/
def tyShape (P : Program) (t : TypeId) : Option (Bool × Nat) :=
  match P.underlying t, P.info? t with
  | some d, some i => some (isAggD d, i.size)
  | _, _ => none

/-- The zero value of a type. -/
def tyZero (P : Program) (t : TypeId) : Option AVal :=
  match P.info? t with
  | some i => match i.zero with
    | some z => cVal z
    | none => none
  | none => none

/-- The zero value's cells, and the value itself. -/
def tyZeroCells (P : Program) (t : TypeId) : Option (List AVal) :=
  match P.info? t with
  | some i => match i.zero with
    | some z => cVals z.cells.toList
    | none => none
  | none => none

/-- The places of a build's parts. -/
def cParts (place : Nat → Option (Nat × Nat)) : List (Nat × Operand) → Option (List (Nat × Nat × XOpd))
  | [] => some []
  | (i, x) :: rest => match place i, cOpd x, cParts place rest with
    | some (off, size), some x, some ps => some ((off, size, x) :: ps)
    | _, _, _ => none

def fieldPlaces (P : Program) : List Field → Option (List (Nat × Nat))
  | [] => some []
  | f :: fs => match P.info? f.type, fieldPlaces P fs with
    | some i, some ps => some ((f.offset, i.size) :: ps)
    | _, _ => none

def constNil : Nat → Operand → Bool
  | 0, .const (.pointer none) | 1, .const (.slice none 0 0) | 2, .const (.map none) | 3, .const .nilFunc | 4, .const .nilIface => true
  | _, _ => false

def nilKind : TypeDesc → Option Nat
  | .pointer _ => some 0
  | .slice _ => some 1
  | .map _ _ => some 2
  | .func _ _ _ => some 3
  | .interface _ => some 4
  | _ => none

/-- A struct of whole numbers and bools alone, none without a name. -/
def flatKinds (P : Program) : Nat → List Field → Option (List Bool)
  | _, [] => some []
  | o, f :: fs => if f.offset == o && f.name != "_" then
      match P.underlying f.type, flatKinds P (o + 1) fs with
      | some (.int _), some ks => some (true :: ks)
      | some .bool, some ks => some (false :: ks)
      | _, _ => none
    else none

def cBin (P : Program) (op : BinOp) (t : TypeId) (x y : Operand) : Option XOp :=
  match cOpd x, cOpd y, P.underlying t with
  | some a, some b, some d =>
    match d with
    | .int _ | .string => some (.bin op a b)
    | .bool => match op with
      | .eql => some (.beq false a b)
      | .neq => some (.beq true a b)
      | _ => none
    | .float _ => match op with
      | .add | .sub | .mul | .quo => some (.fbin op a b)
      | _ => some (.bin op a b)
    | .struct fs =>
      if !P.eqGuardType P.depth t && !P.stoodInHeld t then
        match flatKinds P 0 fs.toList, op with
        | some ks, .eql => some (.eqagg false ks a b)
        | some ks, .neq => some (.eqagg true ks a b)
        | _, _ => none
      else none
    | d => match nilKind d with
      | some k => match op with
        | .eql => if constNil k y then some (.isnil k false a) else if constNil k x then some (.isnil k false b) else none
        | .neq => if constNil k y then some (.isnil k true a) else if constNil k x then some (.isnil k true b) else none
        | _ => none
      | none => none
  | _, _, _ => none

/-- The methods of a name, by their dynamic type: the function, and how the receiver is read. -/
def methodRow (P : Program) (name : String) (t : TypeId) (i : TypeInfo) : Option (TypeId × FuncId × Option Nat) :=
  match i.methods.find? (·.name == name) with
  | some m =>
    if m.path.isEmpty then
      match m.func, P.underlying t with
      | some (f, true), some (.pointer _) => some (t, f, none)
      | some (f, false), some (.pointer e) => match tyShape P e with
        | some (true, n) => some (t, f, some (n + 1))
        | some (false, 1) => some (t, f, some 0)
        | _ => none
      | some (f, false), some _ => some (t, f, none)
      | _, _ => none
    else none
  | none => none

def methodTable (P : Program) (name : String) : List (TypeId × FuncId × Option Nat) :=
  P.types.toList.zipIdx.filterMap fun (i, t) => methodRow P name t i

/-- A function with a body, that may be called. -/
def callable (P : Program) (f : FuncId) : Bool :=
  match P.funcs[f]? with
  | some fn => fn.body.isSome && fn.name != "runtime.NumGoroutine"
  | none => false

def keyKind (P : Program) (t : TypeId) : Option Bool :=
  match P.underlying t with
  | some (.int _) => some true
  | some .string => some false
  | _ => none

def cBuiltin (P : Program) (b : Builtin) (ts : Array TypeId) (args : List Operand) : Option XOp :=
  match b, ts.toList, args with
  | .len, [t], [x] => match cOpd x, P.underlying t with
    | some a, some d => match d with
      | .string => some (.blenstr a)
      | .slice _ => some (.blen a)
      | .array n _ => some (.bconst n)
      | .map _ _ => some (.blenm a)
      | _ => none
    | _, _ => none
  | .cap, [t], [x] => match cOpd x, P.underlying t with
    | some a, some (.slice _) => some (.bcap a)
    | _, _ => none
  | .min, [_, _], [x, y] => match cOpd x, cOpd y with
    | some a, some b => some (.bmin a b)
    | _, _ => none
  | .max, [_, _], [x, y] => match cOpd x, cOpd y with
    | some a, some b => some (.bmax a b)
    | _, _ => none
  | .append, [t, u], [x, y] => match cOpd x, cOpd y, P.underlying t, P.underlying u with
    | some a, some b, some (.slice e), some (.slice _) => match P.info? e with
      | some i => match i.zero with
        | some z => if z.cells.size = i.size then some (.append i.size i.bytes a b) else none
        | none => none
      | none => none
    | some a, some b, some (.slice e), some (.int _) => match P.info? e, tyZeroCells P e with
      | some i, some z => if z.length = i.size then some (.appendZ i.size i.bytes z a b) else none
      | _, _ => none
    | _, _, _, _ => none
  | .copy, [t, _], [x, y] => match cOpd x, cOpd y, P.underlying t with
    | some a, some b, some (.slice e) => match P.info? e with
      | some i => some (.copy i.size a b)
      | none => none
    | _, _, _ => none
  | .clear, [t], [x] => match cOpd x, P.underlying t with
    | some a, some (.slice e) => match P.info? e, tyZeroCells P e with
      | some i, some z => some (.clear i.size z a)
      | _, _ => none
    | _, _ => none
  | .delete, [t, _], [m, k] => match cOpd m, cOpd k, P.underlying t with
    | some a, some b, some (.map kt _) => match keyKind P kt with
      | some ki => some (.delete ki a b)
      | none => none
    | _, _, _ => none
  | .recover, _, [] => some .recover
  | .panic, _, [x] => match cOpd x with
    | some a => some (.panic a)
    | none => none
  | _, _, _ => none

def cOp (P : Program) (op : Op) : Option XOp :=
  match op with
  | .move x | .assign x => match cOpd x with
    | some a => some (.mov a)
    | none => none
  | .pick c a b => match cOpd c, cOpd a, cOpd b with
    | some c, some a, some b => some (.pick c a b)
    | _, _, _ => none
  | .alloc t => match tyZeroCells P t with
    | some zs => some (.alloc zs)
    | none => none
  | .box _ x => match cOpd x with
    | some a => some (.box a)
    | none => none
  | .build t ps => match P.underlying t, tyZeroCells P t with
    | some (.struct fs), some zs => match fieldPlaces P fs.toList with
      | some pl => match cParts (fun i => pl[i]?) ps.toList with
        | some qs => some (.build zs qs)
        | none => none
      | none => none
    | some (.array _ e), some zs => match P.info? e with
      | some i => match cParts (fun k => some (k * i.size, i.size)) ps.toList with
        | some qs => some (.build zs qs)
        | none => none
      | none => none
    | _, _ => none
  | .buildSlice t len ps => match P.underlying t with
    | some (.slice e) => match P.info? e, tyZeroCells P e with
      | some i, some z => if len * i.size ≤ 2 ^ 24 && z.length == i.size then
          match cParts (fun k => some (k * i.size, i.size)) ps.toList with
          | some qs => some (.bslice len ((List.replicate len z).flatten) qs)
          | none => none
        else none
      | _, _ => none
    | _ => none
  | .load t x => match tyShape P t, cOpd x with
    | some (true, n), some a => some (.loadN n a)
    | some (false, _), some a => some (.load1 a)
    | _, _ => none
  | .store t x v => match tyShape P t, cOpd x, cOpd v with
    | some (true, n), some a, some b => some (.storeN n a b)
    | some (false, 1), some a, some b => some (.store1 a b)
    | _, _, _ => none
  | .nilCheck x => match cOpd x with
    | some a => some (.nilc a)
    | none => none
  | .binOp op t x y _ => cBin P op t x y
  | .unOp op _ x => match cOpd x with
    | some a => some (.un op a)
    | none => none
  | .convert s d x => match cOpd x, P.underlying s, P.underlying d with
    | some a, some (.int _), some (.int k) => some (.cvi k a)
    | some a, some (.int _), some (.float k) => some (.cvif k a)
    | some a, some (.slice e), some .string => match P.underlying e with
      | some (.int .u8) => some (.cvbs a)
      | _ => none
    | some a, some (.slice _), some (.slice e) => match P.underlying e with
      | some (.int .u8) => if s == d then some (.cvid a) else none
      | _ => none
    | some a, some .string, some .string => some (.cvss a)
    | _, _, _ => none
  | .sliceToArrayPointer t x => match cOpd x, P.underlying t with
    | some a, some (.array n _) => some (.s2ap n a)
    | _, _ => none
  | .makeInterface t x => match cOpd x, P.underlying t with
    | some a, some d => match d with
      | .interface _ => none
      | _ => some (.mki t a)
    | _, _ => none
  | .makeFunc fn first caps => match fn, first.toList, cOpds caps.toList with
    | .func f, [], some cs => some (.mkf f cs)
    | _, _, _ => none
  | .makeMap _ r => match r with
    | none => some .mkm
    | some _ => none
  | .makeSlice t l c => match P.underlying t, cOpd l, cOpd c with
    | some (.slice e), some a, some b => match P.info? e, tyZeroCells P e with
      | some i, some z => some (.mks i.size i.bytes z a b)
      | _, _ => none
    | _, _, _ => none
  | .slice t x lo hi mx => match P.underlying t, cOpd x, cOpt lo, cOpt hi, cOpt mx with
    | some d, some a, some l, some h, some m => match d with
      | .slice e => match P.info? e with
        | some i => some (.slc i.size a l h m)
        | none => none
      | .string => match m with
        | none => some (.slstr a l h)
        | some _ => none
      | .array n e => match P.info? e with
        | some i => some (.sla n i.size a l h m)
        | none => none
      | _ => none
    | _, _, _, _, _ => none
  | .fieldAddr s x f => match P.underlying s, cOpd x with
    | some (.struct fs), some a => match fs[f]? with
      | some fd => match P.info? fd.type with
        | some i => if i.size = 0 then none else some (.fadr fd.offset a)
        | none => none
      | none => none
    | _, _ => none
  | .field s x f => match P.underlying s, cOpd x with
    | some (.struct fs), some a => match fs[f]? with
      | some fd => match tyShape P fd.type with
        | some (ag, n) => some (.fld fd.offset n ag a)
        | none => none
      | none => none
    | _, _ => none
  | .indexAddr t x i => match P.underlying t, cOpd x, cOpd i with
    | some (.slice e), some a, some b => match P.info? e with
      | some i => some (.idxs i.size a b)
      | none => none
    | some (.array n e), some a, some b => match P.info? e with
      | some i => some (.idxa n i.size a b)
      | none => none
    | _, _, _ => none
  | .index t x i => match P.underlying t, cOpd x, cOpd i with
    | some (.array n e), some a, some b => match tyShape P e with
      | some (ag, sz) => some (.idx n sz ag a b)
      | none => none
    | some .string, some a, some b => some (.idxstr a b)
    | _, _, _ => none
  | .lookup t m k ok => match P.underlying t, cOpd m, cOpd k with
    | some (.map kt e), some a, some b => match keyKind P kt, tyZero P e with
      | some ki, some z => some (.lookup ki z ok a b)
      | _, _ => none
    | _, _, _ => none
  | .mapUpdate t m k v => match P.underlying t, cOpd m, cOpd k, cOpd v with
    | some (.map kt _), some a, some b, some c => match keyKind P kt with
      | some ki => some (.mapup ki a b c)
      | none => none
    | _, _, _, _ => none
  | .typeAssert x _ t ok => match cOpd x, P.underlying t, tyZero P t with
    | some a, some d, some z => match d with
      | .interface _ => none
      | _ => some (.tassert t ok z a)
    | _, _, _ => none
  | .extract x i => match cOpd x with
    | some a => some (.ext i a)
    | none => none
  | .call c => match c.callee, cOpds c.args.toList with
    | .value (.func f), some as => some (.call f as)
    | .value x, some as => match cOpd x with
      | some a => some (.callv a as)
      | none => none
    | .invoke r name, some as => match cOpd r with
      | some a => some (.invoke (methodTable P name) a as)
      | none => none
    | .builtin b, _ => cBuiltin P b c.argTypes c.args.toList
    | _, _ => none
  | .defer c => match c.callee, cOpds c.args.toList with
    | .value x, some as => match cOpd x with
      | some a => some (.defer a as)
      | none => none
    | _, _ => none
  | .panic x => match cOpd x with
    | some a => some (.panic a)
    | none => none
  | _ => none

def cGuard (ops : Array Oper) : Option (Nat × Bool) → Option (Option (Nat × Bool))
  | none => some none
  | some (j, b) => match (ops[j]?).bind (·.dst) with
    | some t => some (some (t, b))
    | none => none

def cOper (P : Program) (ops : Array Oper) (o : Oper) : Option XOper :=
  match cOp P o.op, cGuard ops o.guard with
  | some x, some g => some ⟨o.dst, x, g⟩
  | _, _ => none

def cOpers (P : Program) (ops : Array Oper) : List Oper → Option (List XOper)
  | [] => some []
  | o :: os => match cOper P ops o, cOpers P ops os with
    | some x, some xs => some (x :: xs)
    | _, _ => none

/-! ### Regions whose order is open -/

/-- Which operations stand ahead of each: a number, bit by bit. -/
def ordMasks : List Oper → List Nat → List Nat
  | [], acc => acc
  | o :: os, acc => ordMasks os (acc ++ [o.after.foldl (fun s e => if Region.binds .any e then s ||| 2 ^ e.on ||| acc.getD e.on 0 else s) 0])

def maskOk (tb : List Nat) (i : Nat) (o : Oper) : Bool :=
  (tb.getD i 0 == o.after.foldl (fun s e => if Region.binds .any e then s ||| 2 ^ e.on ||| tb.getD e.on 0 else s) 0) && o.after.all fun e => !Region.binds .any e || decide (e.on < i)

def masksOk (tb : List Nat) : Nat → List Oper → Bool
  | _, [] => true
  | i, o :: os => maskOk tb i o && masksOk tb (i + 1) os

def opdReads : XOpd → List Nat
  | .t i => [i]
  | .c _ => []

def opReads : XOp → List Nat
  | .mov x | .nilc x | .isnil _ _ x | .un _ x | .cvi _ x | .cvif _ x | .cvss x | .s2ap _ x | .mki _ x | .fadr _ x | .fld _ _ _ x | .tassert _ _ _ x | .ext _ x | .blen x | .blenstr x | .blenm x | .bcap x | .box x | .load1 x | .loadN _ x | .cvbs x | .cvid x | .clear _ _ x | .panic x => opdReads x
  | .bin _ x y | .beq _ x y | .fbin _ x y | .eqagg _ _ x y | .idxs _ x y | .idxa _ _ x y | .idx _ _ _ x y | .idxstr x y | .bmin x y | .bmax x y | .store1 x y | .storeN _ x y | .lookup _ _ _ x y | .delete _ x y | .append _ _ x y | .appendZ _ _ _ x y | .copy _ x y | .mks _ _ _ x y => opdReads x ++ opdReads y
  | .pick x y z | .mapup _ x y z => opdReads x ++ opdReads y ++ opdReads z
  | .build _ ps | .bslice _ _ ps => ps.flatMap fun p => opdReads p.2.2
  | .mkf _ xs | .call _ xs => xs.flatMap opdReads
  | .callv x xs | .invoke _ x xs | .defer x xs => opdReads x ++ xs.flatMap opdReads
  | .slc _ x l h m | .sla _ _ x l h m => opdReads x ++ (match l with | some y => opdReads y | none => []) ++ (match h with | some y => opdReads y | none => []) ++ (match m with | some y => opdReads y | none => [])
  | .slstr x l h => opdReads x ++ (match l with | some y => opdReads y | none => []) ++ (match h with | some y => opdReads y | none => [])
  | .alloc _ | .mkm | .bconst _ | .recover => []

def operReads (o : XOper) : List Nat := opReads o.op ++ (match o.guard with | some (g, _) => [g] | none => [])

/-- The places of what holds, in a list. -/
def placesOf (p : XOper → Bool) (xs : List XOper) : List Nat := (List.range xs.length).filter fun i => match xs[i]? with | some o => p o | none => false

def dsts : List XOper → List Nat
  | [] => []
  | o :: os => match o.dst with
    | some d => d :: dsts os
    | none => dsts os

def distinctB : List Nat → Bool
  | [] => true
  | x :: xs => !xs.contains x && distinctB xs

/-- Of each slot that is read: whoever writes it in this region stands in an order to the reader ('strict': ahead of it). -/
def slotsOk (tb : List Nat) (strict : Bool) (i : Nat) (rs : List Nat) : Nat → List XOper → Bool
  | _, [] => true
  | j, o :: os => ((!strict && j == i) || (match o.dst with | some d => !rs.contains d | none => true) || (tb.getD i 0).testBit j || (!strict && (tb.getD j 0).testBit i)) && slotsOk tb strict i rs (j + 1) os

/-- The chain operations that surely stand ahead of a reader, and those that do not surely stand behind it. -/
def chkOf (tb : List Nat) (chain : List Nat) (r : Nat) : Nat × Nat × Nat :=
  ((chain.filter fun e => (tb.getD r 0).testBit e).length, (chain.filter fun e => e < r).length, (chain.filter fun e => !(tb.getD e 0).testBit r).length)

def cChk (tb chain : List Nat) : List Nat → List (Nat × Nat × Nat)
  | [] => []
  | r :: rs => match chkOf tb chain r with
    | (lo, k, hi) => if lo = k ∧ hi = k then cChk tb chain rs else (r, lo, hi) :: cChk tb chain rs

def cNp (tb : List Nat) (n : Nat) : List Nat → List Nat
  | [] => []
  | e :: es => if (List.range (n - (e + 1))).all fun j => (tb.getD (e + 1 + j) 0).testBit e then cNp tb n es else e :: cNp tb n es

def pairsOk (p : Nat → Nat → Bool) : List Nat → Bool
  | [] => true
  | x :: xs => xs.all (p x) && pairsOk p xs

def allSlots (tb : List Nat) (all : List XOper) : Nat → List XOper → Bool
  | _, [] => true
  | i, o :: os => slotsOk tb false i (operReads o) 0 all && allSlots tb all (i + 1) os

def drawOk (tb : List Nat) (os : List Oper) (xs : List XOper) (chk : List (Nat × Nat × Nat)) : Bool :=
  let chain := placesOf (fun o => isChain o.op) xs
  let free := placesOf (fun o => isFree o.op) xs
  masksOk tb 0 os && distinctB (dsts xs) && pairsOk (fun a b => (tb.getD b 0).testBit a) chain &&
  free.all (fun i => chain.all fun e => e ≤ i || (tb.getD e 0).testBit i) &&
  allSlots tb xs 0 xs &&
  chk.all (fun c => match xs[c.1]? with | some o => slotsOk tb true c.1 (operReads o) 0 xs | none => false)

def cDraw (P : Program) (ops : Array Oper) : Option XCode :=
  match cOpers P ops ops.toList with
  | none => none
  | some xs =>
    let tb := ordMasks ops.toList []
    let chain := placesOf (fun o => isChain o.op) xs
    let chk := cChk tb chain (placesOf (fun o => isRead o.op) xs)
    if drawOk tb ops.toList xs chk then some (.draw xs chk (cNp tb xs.length chain)) else none

def cCode (P : Program) : Code → Option XCode
  | .skip => some .skip
  | .region _ ops false => match cOpers P ops ops.toList with
    | some xs => some (.region xs)
    | none => none
  | .region _ ops true => cDraw P ops
  | .seq a b => match cCode P a, cCode P b with
    | some x, some y => some (.seq x y)
    | _, _ => none
  | .cond c a b => match cOpd c, cCode P a, cCode P b with
    | some c, some x, some y => some (.cond c x y)
    | _, _, _ => none
  | .block id a => match cCode P a with
    | some x => some (.block id x)
    | none => none
  | .loop a => match cCode P a with
    | some x => some (.loop x)
    | none => none
  | .exit id => some (.exit id)
  | .ret => some .ret
  | _ => none

def cRes (P : Program) : List ResultVar → Option (List XRes)
  | [] => some []
  | r :: rs => match (match r with
      | .tmp t => some (XRes.tmp t)
      | .cell a t => match tyShape P t with
        | some (true, n) => some (.cellN a n)
        | some (false, _) => some (.cell1 a)
        | none => none), cRes P rs with
    | some x, some xs => some (x :: xs)
    | _, _ => none

def cFunc (P : Program) (f : FuncId) : Option XFunc :=
  match P.funcs[f]? with
  | none => none
  | some fn => match fn.body with
    | none => none
    | some c => if fn.name == "runtime.NumGoroutine" then none else
      match cCode P c, cRes P fn.results.toList with
      | some x, some rs => some ⟨fn.ntmps, rs, x⟩
      | _, _ => none

end Ab
