/- An executor over an abstract heap: block numbers are its own, capacities that append leaves open are not looked at, and the order of a statement is the text's. No program and no claim in sight. -/
import Derived.Recover
import Derived.Orders
namespace Ab
open Go

/-- A value. 'junk': whatever it is. 'slice b o len cap lx': at lx = 0 the capacity is known; else it is at least 'cap', and an element has lx cells. -/
inductive AVal where
  | junk
  | bool (b : Bool)
  | int (k : IntKind) (n : Int)
  | float (k : FloatKind) (bits : Nat)
  | nan (k : FloatKind)
  | str (s : ByteArray)
  | nilptr
  | ptr (b o : Nat)
  | nilslice
  | slice (b o len cap lx : Nat)
  | nilmap
  | map (b : Nat)
  | func (f : FuncId) (caps : List AVal)
  | nilFunc
  | iface (t : TypeId) (v : AVal)
  | nilIface
  | agg (cs : List AVal)
  | tuple (vs : List AVal)

instance : Inhabited AVal := ⟨.junk⟩

def AVal.cells : AVal → List AVal
  | .agg cs => cs
  | v => [v]

/-- The value of one cell, that may be stored. -/
def AVal.one : AVal → Bool
  | .agg _ | .tuple _ | .junk => false
  | _ => true

def AVal.isJunk : AVal → Bool
  | .junk => true
  | _ => false

/-- A trie over numbers. -/
inductive Tr (α : Type) where
  | e
  | n (v : Option α) (l r : Tr α)

def Tr.get {α : Type} : Tr α → Nat → Option α
  | .e, _ => none
  | .n v l r, k => if k = 0 then v else if k % 2 = 1 then l.get (k / 2) else r.get (k / 2 - 1)

def Tr.setF {α : Type} : Nat → Tr α → Nat → Option α → Tr α
  | 0, t, _, _ => t
  | f + 1, .e, k, v => if k = 0 then .n v .e .e else if k % 2 = 1 then .n none (Tr.setF f .e (k / 2) v) .e else .n none .e (Tr.setF f .e (k / 2 - 1) v)
  | f + 1, .n u l r, k, v => if k = 0 then .n v l r else if k % 2 = 1 then .n u (Tr.setF f l (k / 2) v) r else .n u l (Tr.setF f r (k / 2 - 1) v)

def Tr.set {α : Type} (t : Tr α) (k : Nat) (v : Option α) : Tr α := Tr.setF (k + 1) t k v

theorem Tr.get_e {α : Type} (k : Nat) : (Tr.e : Tr α).get k = none := by simp [Tr.get]

theorem Tr.get_setF {α : Type} : ∀ (f : Nat) (t : Tr α) (k j : Nat) (v : Option α), k < f → (Tr.setF f t k v).get j = if j = k then v else t.get j
  | 0, _, _, _, _, h => absurd h (by omega)
  | f + 1, .e, k, j, v, h => by
    simp only [Tr.setF]
    split
    · rename_i hk; subst hk
      by_cases hj : j = 0
      · simp [Tr.get, hj]
      · simp [Tr.get, hj]
    · rename_i hk
      split
      · rename_i ho
        simp only [Tr.get]
        rw [Tr.get_setF f .e (k / 2) (j / 2) v (by omega)]
        by_cases hj : j = 0
        · have : ¬ (0 = k) := by omega
          simp [hj, this]
        · by_cases hjo : j % 2 = 1
          · by_cases he : j = k
            · simp [he, hk, ho]
            · have : ¬ (j / 2 = k / 2) := by omega
              simp [hj, hjo, he, this, Tr.get]
          · have : j ≠ k := by omega
            simp [hj, hjo, this]
      · rename_i ho
        simp only [Tr.get]
        rw [Tr.get_setF f .e (k / 2 - 1) (j / 2 - 1) v (by omega)]
        by_cases hj : j = 0
        · have : ¬ (0 = k) := by omega
          simp [hj, this]
        · by_cases hjo : j % 2 = 1
          · have : j ≠ k := by omega
            simp [hj, hjo, this]
          · by_cases he : j = k
            · simp [he, hk, ho]
            · have : ¬ (j / 2 - 1 = k / 2 - 1) := by omega
              simp [hj, hjo, he, this, Tr.get]
  | f + 1, .n u l r, k, j, v, h => by
    simp only [Tr.setF]
    split
    · rename_i hk; subst hk
      by_cases hj : j = 0
      · simp [Tr.get, hj]
      · simp [Tr.get, hj]
    · rename_i hk
      split
      · rename_i ho
        simp only [Tr.get]
        rw [Tr.get_setF f l (k / 2) (j / 2) v (by omega)]
        by_cases hj : j = 0
        · have : ¬ (0 = k) := by omega
          simp [hj, this]
        · by_cases hjo : j % 2 = 1
          · by_cases he : j = k
            · simp [he, hk, ho]
            · have : ¬ (j / 2 = k / 2) := by omega
              simp [hj, hjo, he, this]
          · have : j ≠ k := by omega
            simp [hj, hjo, this]
      · rename_i ho
        simp only [Tr.get]
        rw [Tr.get_setF f r (k / 2 - 1) (j / 2 - 1) v (by omega)]
        by_cases hj : j = 0
        · have : ¬ (0 = k) := by omega
          simp [hj, this]
        · by_cases hjo : j % 2 = 1
          · have : j ≠ k := by omega
            simp [hj, hjo, this]
          · by_cases he : j = k
            · simp [he, hk, ho]
            · have : ¬ (j / 2 - 1 = k / 2 - 1) := by omega
              simp [hj, hjo, he, this]

theorem Tr.get_set {α : Type} (t : Tr α) (k j : Nat) (v : Option α) : (t.set k v).get j = if j = k then v else t.get j :=
  Tr.get_setF (k + 1) t k j v (by omega)

/-- A block: cells ('ro': never written), or a map. -/
inductive ABlk where
  | cells (ro : Bool) (cs : List AVal)
  | map (es : List (AVal × AVal × Nat)) (clock : Nat)

structure AH where
  next : Nat
  t : Tr ABlk

def AH.get (A : AH) (b : Nat) : Option ABlk := A.t.get b
def AH.set (A : AH) (b : Nat) (x : ABlk) : AH := { A with t := A.t.set b (some x) }
def AH.kill (A : AH) (b : Nat) : AH := { A with t := A.t.set b none }
def AH.new (A : AH) (x : ABlk) : AH := { next := A.next + 1, t := A.t.set A.next (some x) }
def AH.bump (A : AH) (n : Nat) : AH := { A with next := A.next + n }

section
variable (A : AH) (b j n : Nat) (x : ABlk)
@[simp] theorem AH.next_set : (A.set b x).next = A.next := rfl
@[simp] theorem AH.next_kill : (A.kill b).next = A.next := rfl
@[simp] theorem AH.next_new : (A.new x).next = A.next + 1 := rfl
@[simp] theorem AH.next_bump : (A.bump n).next = A.next + n := rfl
@[simp] theorem AH.get_bump : (A.bump n).get j = A.get j := rfl
theorem AH.get_set : (A.set b x).get j = if j = b then some x else A.get j := Tr.get_set _ _ _ _
theorem AH.get_kill : (A.kill b).get j = if j = b then none else A.get j := Tr.get_set _ _ _ _
theorem AH.get_new : (A.new x).get j = if j = A.next then some x else A.get j := Tr.get_set _ _ _ _
@[simp] theorem AH.get_set_same : (A.set b x).get b = some x := by simp [AH.get_set]
@[simp] theorem AH.get_kill_same : (A.kill b).get b = none := by simp [AH.get_kill]
@[simp] theorem AH.get_new_same : (A.new x).get A.next = some x := by simp [AH.get_new]
theorem AH.get_set_ne (h : j ≠ b) : (A.set b x).get j = A.get j := by simp [AH.get_set, h]
theorem AH.get_kill_ne (h : j ≠ b) : (A.kill b).get j = A.get j := by simp [AH.get_kill, h]
theorem AH.get_new_ne (h : j ≠ A.next) : (A.new x).get j = A.get j := by simp [AH.get_new, h]
end

/-- n cells from a place on. -/
def AH.rd (A : AH) (b o n : Nat) : Option (List AVal) :=
  match A.get b with
  | some (.cells _ cs) => if o + n ≤ cs.length then some ((cs.drop o).take n) else none
  | _ => none

def AH.rd1 (A : AH) (b o : Nat) : Option AVal :=
  match A.get b with
  | some (.cells _ cs) => cs[o]?
  | _ => none

def patch (cs : List AVal) (o : Nat) (vs : List AVal) : List AVal := cs.take o ++ vs ++ cs.drop (o + vs.length)

/-- Cells from a place on are written. -/
def AH.wr (A : AH) (b o : Nat) (vs : List AVal) : Option AH :=
  match A.get b with
  | some (.cells false cs) => if o + vs.length ≤ cs.length && vs.all AVal.one then some (A.set b (.cells false (patch cs o vs))) else none
  | _ => none

def AH.wr1 (A : AH) (b o : Nat) (v : AVal) : Option AH :=
  match A.get b with
  | some (.cells false cs) => if o < cs.length && v.one then some (A.set b (.cells false (cs.set o v))) else none
  | _ => none

inductive XOpd where
  | t (i : Nat)
  | c (v : AVal)

def ev (T : List AVal) : XOpd → AVal
  | .t i => T.getD i .junk
  | .c v => v

inductive XOp where
  | mov (x : XOpd)
  | pick (c a b : XOpd)
  | alloc (zs : List AVal)
  | box (x : XOpd)
  | build (zs : List AVal) (ps : List (Nat × Nat × XOpd))
  | bslice (len : Nat) (zs : List AVal) (ps : List (Nat × Nat × XOpd))
  | load1 (x : XOpd)
  | loadN (n : Nat) (x : XOpd)
  | store1 (x v : XOpd)
  | storeN (n : Nat) (x v : XOpd)
  | nilc (x : XOpd)
  | bin (op : BinOp) (x y : XOpd)
  | fbin (op : BinOp) (x y : XOpd)
  | beq (neg : Bool) (x y : XOpd)
  | isnil (kind : Nat) (neg : Bool) (x : XOpd)
  | eqagg (neg : Bool) (ks : List Bool) (x y : XOpd)
  | un (op : UnOp) (x : XOpd)
  | cvi (k : IntKind) (x : XOpd)
  | cvif (k : FloatKind) (x : XOpd)
  | cvbs (x : XOpd)
  | cvid (x : XOpd)
  | cvss (x : XOpd)
  | s2ap (n : Nat) (x : XOpd)
  | mki (t : TypeId) (x : XOpd)
  | mkf (f : FuncId) (caps : List XOpd)
  | mkm
  | mks (esz bytes : Nat) (z : List AVal) (l c : XOpd)
  | slc (esz : Nat) (x : XOpd) (lo hi mx : Option XOpd)
  | slstr (x : XOpd) (lo hi : Option XOpd)
  | sla (n esz : Nat) (x : XOpd) (lo hi mx : Option XOpd)
  | fadr (off : Nat) (x : XOpd)
  | fld (off size : Nat) (ag : Bool) (x : XOpd)
  | idxs (esz : Nat) (x i : XOpd)
  | idxa (n esz : Nat) (x i : XOpd)
  | idx (n esz : Nat) (ag : Bool) (x i : XOpd)
  | idxstr (x i : XOpd)
  | lookup (ki : Bool) (z : AVal) (ok : Bool) (m k : XOpd)
  | tassert (t : TypeId) (ok : Bool) (z : AVal) (x : XOpd)
  | ext (i : Nat) (x : XOpd)
  | blen (x : XOpd)
  | blenstr (x : XOpd)
  | blenm (x : XOpd)
  | bconst (n : Nat)
  | bcap (x : XOpd)
  | bmin (x y : XOpd)
  | bmax (x y : XOpd)
  | mapup (ki : Bool) (m k v : XOpd)
  | delete (ki : Bool) (m k : XOpd)
  | append (esz bytes : Nat) (x y : XOpd)
  | appendZ (esz bytes : Nat) (z : List AVal) (x n : XOpd)
  | copy (esz : Nat) (x y : XOpd)
  | clear (esz : Nat) (z : List AVal) (x : XOpd)
  | call (f : FuncId) (args : List XOpd)
  | callv (x : XOpd) (args : List XOpd)
  | invoke (tbl : List (TypeId × FuncId × Option Nat)) (x : XOpd) (args : List XOpd)
  | defer (x : XOpd) (args : List XOpd)
  | panic (x : XOpd)
  | recover

structure XOper where
  dst : Option Nat
  op : XOp
  guard : Option (Nat × Bool)

inductive XCode where
  | skip
  | region (ops : List XOper)
  | draw (ops : List XOper) (chk : List (Nat × Nat × Nat)) (np : List Nat)
  | seq (a b : XCode)
  | cond (c : XOpd) (a b : XCode)
  | block (id : Nat) (body : XCode)
  | loop (body : XCode)
  | exit (id : Nat)
  | ret

inductive XRes where
  | tmp (t : Nat)
  | cell1 (t : Nat)
  | cellN (t n : Nat)

structure XFunc where
  ntmps : Nat
  results : List XRes
  body : XCode

/-! ### What the operations come to -/

def intBin (op : BinOp) (k : IntKind) (a b : Int) : Option AVal :=
  match op with
  | .add => some (.int k (k.wrap (a + b)))
  | .sub => some (.int k (k.wrap (a - b)))
  | .mul => some (.int k (k.wrap (a * b)))
  | .quo => if b = 0 then none else some (.int k (k.wrap (a.tdiv b)))
  | .rem => if b = 0 then none else some (.int k (a.tmod b))
  | .and => some (.int k (k.wrap (BitVec.ofInt k.bits a &&& BitVec.ofInt k.bits b).toNat))
  | .or => some (.int k (k.wrap (BitVec.ofInt k.bits a ||| BitVec.ofInt k.bits b).toNat))
  | .xor => some (.int k (k.wrap (BitVec.ofInt k.bits a ^^^ BitVec.ofInt k.bits b).toNat))
  | .andNot => some (.int k (k.wrap (BitVec.ofInt k.bits a &&& ~~~ (BitVec.ofInt k.bits b)).toNat))
  | .eql => some (.bool (a == b))
  | .neq => some (.bool (a != b))
  | .lss => some (.bool (decide (a < b)))
  | .leq => some (.bool (decide (a ≤ b)))
  | .gtr => some (.bool (decide (a > b)))
  | .geq => some (.bool (decide (a ≥ b)))
  | _ => none

def nanOr (k : FloatKind) : Option Nat → AVal
  | some r => .float k r
  | none => .nan k

def floatAr (op : BinOp) (k : FloatKind) (a b : Nat) : Option AVal :=
  match op with
  | .add => some (nanOr k (k.format.add a b))
  | .sub => some (nanOr k (k.format.sub a b))
  | .mul => some (nanOr k (k.format.mul a b))
  | .quo => some (nanOr k (k.format.div a b))
  | _ => none

def floatCmp (op : BinOp) (c : Option Ordering) : Option AVal :=
  match op with
  | .eql => some (.bool (c == some .eq))
  | .neq => some (.bool (c != some .eq))
  | .lss => some (.bool (c == some .lt))
  | .leq => some (.bool (c == some .lt || c == some .eq))
  | .gtr => some (.bool (c == some .gt))
  | .geq => some (.bool (c == some .gt || c == some .eq))
  | _ => none

def strBin (op : BinOp) (x y : ByteArray) : Option AVal :=
  let eq := x.toList == y.toList
  let lt := Op.bytesLess x.toList y.toList
  match op with
  | .add => if ((x.size + y.size : Nat) : Int) > IntKind.i64.max then none else some (.str (x ++ y))
  | .eql => some (.bool eq)
  | .neq => some (.bool !eq)
  | .lss => some (.bool lt)
  | .leq => some (.bool (lt || eq))
  | .gtr => some (.bool !(lt || eq))
  | .geq => some (.bool !lt)
  | _ => none

def abin (op : BinOp) : AVal → AVal → Option AVal
  | .int k a, .int k' b =>
    match op with
    | .shl => if b < 0 then none else some (.int k (k.wrap (a * 2 ^ (min b.toNat k.bits))))
    | .shr => if b < 0 then none else some (.int k (a.fdiv (2 ^ (min b.toNat k.bits))))
    | op => if k = k' then intBin op k a b else none
  | .float k a, .float k' b => if k = k' then floatCmp op (k.format.order a b) else none
  | .nan k, .float k' _ => if k = k' then floatCmp op none else none
  | .float k _, .nan k' => if k = k' then floatCmp op none else none
  | .nan k, .nan k' => if k = k' then floatCmp op none else none
  | .str a, .str b => strBin op a b
  | _, _ => none

/-- Is it nil? (0: a pointer, 1: a slice, 2: a map, 3: a function, 4: an interface value.) -/
def AVal.nil? : Nat → AVal → Option Bool
  | 0, .nilptr | 1, .nilslice | 2, .nilmap | 3, .nilFunc | 4, .nilIface => some true
  | 0, .ptr .. | 1, .slice .. | 2, .map .. | 3, .func .. | 4, .iface .. => some false
  | _, _ => none

/-- Two rows of integers (true) and bools (false), alike. -/
def sameCells : List Bool → List AVal → List AVal → Option Bool
  | [], [], [] => some true
  | true :: ks, .int k a :: xs, .int k' b :: ys => if k = k' then (if a = b then sameCells ks xs ys else some false) else none
  | false :: ks, .bool a :: xs, .bool b :: ys => if a = b then sameCells ks xs ys else some false
  | _, _, _ => none

def aun (op : UnOp) : AVal → Option AVal
  | .int k n => match op with
    | .neg => some (.int k (k.wrap (0 - n)))
    | .xor => some (.int k (k.wrap (BitVec.ofInt k.bits (if k.signed then -1 else k.max) ^^^ BitVec.ofInt k.bits n).toNat))
    | _ => none
  | .float k b => match op with
    | .neg => some (.float k (Op.negFloat k b))
    | _ => none
  | .bool b => match op with
    | .not => some (.bool !b)
    | _ => none
  | _ => none

/-- Parts laid into cells: each an offset, a size, and what is laid. -/
def afill (T : List AVal) : List AVal → List (Nat × Nat × XOpd) → Option (List AVal)
  | cs, [] => some cs
  | cs, (off, size, x) :: rest =>
    if (ev T x).isJunk then none else
    if (ev T x).cells.length = size && off + size ≤ cs.length then afill T (patch cs off (ev T x).cells) rest else none

/-- A bound of a slice: a number from 0 to y. -/
def abound (T : List AVal) (x : XOpd) (y : Nat) : Option Nat :=
  match ev T x with
  | .int _ i => if 0 ≤ i ∧ i ≤ y then some i.toNat else none
  | _ => none

/-- low, high, max of a slice expression; whether max was given. -/
def abounds (T : List AVal) (len cap : Nat) (lo hi mx : Option XOpd) : Option (Nat × Nat × Nat) :=
  match mx with
  | some m =>
    match hi with
    | none => none
    | some h =>
      match abound T m cap with
      | none => none
      | some m => match abound T h m with
        | none => none
        | some h => match lo with
          | none => some (0, h, m)
          | some l => match abound T l h with
            | none => none
            | some l => some (l, h, m)
  | none =>
    match (match hi with | none => some len | some h => abound T h cap) with
    | none => none
    | some h => match lo with
      | none => some (0, h, cap)
      | some l => match abound T l h with
        | none => none
        | some l => some (l, h, cap)

def apart (off size : Nat) (ag : Bool) (cs : List AVal) : Option AVal :=
  if ag then (if off + size ≤ cs.length then some (.agg ((cs.drop off).take size)) else none) else cs[off]?

/-- Operations that look at no memory. -/
def apure (T : List AVal) : XOp → Option AVal
  | .mov x => some (ev T x)
  | .pick c a b => match ev T c with
    | .bool t => some (if t then ev T a else ev T b)
    | _ => none
  | .build zs ps => match afill T zs ps with
    | some cs => some (.agg cs)
    | none => none
  | .nilc x => match ev T x with
    | .ptr b o => some (.ptr b o)
    | .func f cs => some (.func f cs)
    | .iface t v => some (.iface t v)
    | _ => none
  | .bin op x y => abin op (ev T x) (ev T y)
  | .beq neg x y => match ev T x, ev T y with
    | .bool a, .bool b => some (.bool ((a == b) != neg))
    | _, _ => none
  | .isnil kind neg x => match (ev T x).nil? kind with
    | some b => some (.bool (b != neg))
    | none => none
  | .eqagg neg ks x y => match ev T x, ev T y with
    | .agg cs, .agg ds => match sameCells ks cs ds with
        | some b => some (.bool (b != neg))
        | none => none
    | _, _ => none
  | .un op x => aun op (ev T x)
  | .cvi k x => match ev T x with
    | .int _ n => some (.int k (k.wrap n))
    | _ => none
  | .cvif k x => match ev T x with
    | .int _ n => some (.float k (k.nearest n))
    | _ => none
  | .cvss x => match ev T x with
    | .str s => some (.str s)
    | _ => none
  | .s2ap n x => match ev T x with
    | .slice b o len _ _ => if 0 < n ∧ n ≤ len then some (.ptr b o) else none
    | _ => none
  | .mki t x => if (ev T x).isJunk then none else some (.iface t (ev T x))
  | .mkf f caps => some (.func f (caps.map (ev T)))
  | .slc esz x lo hi mx => match ev T x with
    | .slice b o len cap lx => match abounds T len cap lo hi mx with
      | some (l, h, m) => if lx = 0 || lx = esz then some (.slice b (o + l * esz) (h - l) (m - l) (if mx.isSome then 0 else lx)) else none
      | none => none
    | .nilslice => match abounds T 0 0 lo hi mx with
      | some _ => some .nilslice
      | none => none
    | _ => none
  | .slstr x lo hi => match ev T x with
    | .str s => match abounds T s.size s.size lo hi none with
      | some (l, h, _) => some (.str (s.extract l h))
      | none => none
    | _ => none
  | .sla n esz x lo hi mx => match ev T x with
    | .ptr b o => match abounds T n n lo hi mx with
      | some (l, h, m) => some (.slice b (o + l * esz) (h - l) (m - l) 0)
      | none => none
    | _ => none
  | .fadr off x => match ev T x with
    | .ptr b o => some (.ptr b (o + off))
    | _ => none
  | .fld off size ag x => match ev T x with
    | .agg cs => apart off size ag cs
    | _ => none
  | .idxs esz x i => match ev T x, ev T i with
    | .slice b o len _ _, .int _ i => if 0 ≤ i ∧ i < len then some (.ptr b (o + i.toNat * esz)) else none
    | _, _ => none
  | .idxa n esz x i => match ev T x, ev T i with
    | .ptr b o, .int _ i => if 0 ≤ i ∧ i < n then some (.ptr b (o + i.toNat * esz)) else none
    | _, _ => none
  | .idx n esz ag x i => match ev T x, ev T i with
    | .agg cs, .int _ i => if 0 ≤ i ∧ i < n then apart (i.toNat * esz) esz ag cs else none
    | _, _ => none
  | .idxstr x i => match ev T x, ev T i with
    | .str s, .int _ i => if 0 ≤ i then (match s[i.toNat]? with | some b => some (.int .u8 b.toNat) | none => none) else none
    | _, _ => none
  | .tassert t ok z x => match ev T x with
    | .iface t' v => if t' = t then some (if ok then .tuple [v, .bool true] else v) else if ok then some (.tuple [z, .bool false]) else none
    | .nilIface => if ok then some (.tuple [z, .bool false]) else none
    | _ => none
  | .ext i x => match ev T x with
    | .tuple vs => vs[i]?
    | _ => none
  | .blen x => match ev T x with
    | .slice _ _ len _ _ => some (.int .i64 len)
    | .nilslice => some (.int .i64 0)
    | _ => none
  | .blenstr x => match ev T x with
    | .str s => some (.int .i64 s.size)
    | _ => none
  | .bconst n => some (.int .i64 n)
  | .bcap x => match ev T x with
    | .slice _ _ _ cap 0 => some (.int .i64 cap)
    | .nilslice => some (.int .i64 0)
    | _ => none
  | .bmin x y => match ev T x, ev T y with
    | .int k a, .int _ b => some (.int k (if b < a then b else a))
    | _, _ => none
  | .bmax x y => match ev T x, ev T y with
    | .int k a, .int _ b => some (.int k (if b > a then b else a))
    | _, _ => none
  | _ => none

def asBytes : List AVal → Option (List UInt8)
  | [] => some []
  | .int .u8 n :: rest => match asBytes rest with
    | some bs => some (UInt8.ofNat n.toNat :: bs)
    | none => none
  | _ => none

/-- Two keys of a map (true: integers, false: strings): alike? -/
def keyEq : Bool → AVal → AVal → Option Bool
  | true, .int k a, .int k' b => if k = k' then some (a == b) else none
  | false, .str a, .str b => some (a == b)
  | _, _, _ => none

def findKey (ki : Bool) (k : AVal) : List (AVal × AVal × Nat) → Nat → Option (Option (Nat × AVal))
  | [], _ => some none
  | e :: es, i => match keyEq ki k e.1 with
    | some true => some (some (i, e.2.1))
    | some false => findKey ki k es (i + 1)
    | none => none

/-- Operations that only read memory. -/
def aread (T : List AVal) (A : AH) : XOp → Option AVal
  | .load1 x => match ev T x with
    | .ptr b o => A.rd1 b o
    | _ => none
  | .loadN n x => match ev T x with
    | .ptr b o => match A.rd b o n with
      | some cs => some (.agg cs)
      | none => none
    | _ => none
  | .cvbs x => match ev T x with
    | .nilslice => some (.str .empty)
    | .slice b o len _ _ => match A.rd b o len with
      | some cs => match asBytes cs with
        | some bs => some (.str ⟨bs.toArray⟩)
        | none => none
      | none => none
    | _ => none
  | .lookup ki z ok m k => match ev T m with
    | .nilmap => some (if ok then .tuple [z, .bool false] else z)
    | .map b => match A.get b with
      | some (.map es _) => match findKey ki (ev T k) es 0 with
        | some (some (_, v)) => some (if ok then .tuple [v, .bool true] else v)
        | some none => some (if ok then .tuple [z, .bool false] else z)
        | none => none
      | _ => none
    | _ => none
  | .blenm m => match ev T m with
    | .nilmap => some (.int .i64 0)
    | .map b => match A.get b with
      | some (.map es _) => some (.int .i64 es.length)
      | _ => none
    | _ => none
  | _ => none

/-- Operations that lay a new block: the block, and the value out of its number. -/
def afree (T : List AVal) : XOp → Option (ABlk × (Nat → AVal))
  | .alloc zs => some (.cells false zs, fun b => .ptr b 0)
  | .box x => if (ev T x).isJunk then none else some (.cells false (ev T x).cells, fun b => .ptr b 0)
  | .bslice len zs ps => match afill T zs ps with
    | some cs => some (.cells false cs, fun b => .slice b 0 len len 0)
    | none => none
  | .mkm => some (.map [] 0, fun b => .map b)
  | .mks esz bytes z l c => match ev T l, ev T c with
    | .int _ l, .int _ c =>
      if 0 ≤ l ∧ l ≤ c ∧ c < 2 ^ 62 ∧ bytes * c ≤ 2 ^ 47 ∧ z.length = esz then some (.cells false ((List.replicate c.toNat z).flatten), fun b => .slice b 0 l.toNat c.toNat 0) else none
    | _, _ => none
  | _ => none

def isFree : XOp → Bool
  | .alloc _ | .box _ | .bslice .. | .mkm | .mks .. => true
  | _ => false

def isPure : XOp → Bool
  | .mov _ | .pick .. | .build .. | .nilc _ | .bin .. | .beq .. | .isnil .. | .eqagg .. | .un .. | .cvi .. | .cvif .. | .cvss _ | .s2ap .. | .mki .. | .mkf .. | .slc .. | .slstr .. | .sla .. | .fadr .. | .fld .. | .idxs .. | .idxa .. | .idx .. | .idxstr .. | .tassert .. | .ext .. | .blen _ | .blenstr _ | .bconst _ | .bcap _ | .bmin .. | .bmax .. => true
  | _ => false

def isRead : XOp → Bool
  | .load1 _ | .loadN .. | .cvbs _ | .lookup .. | .blenm _ => true
  | _ => false

/-- The new elements behind a slice's own. -/
def aappend (A : AH) (esz bytes : Nat) (s : AVal) (n : Nat) (new : List AVal) : Option (AVal × AH) :=
  match s with
  | .nilslice =>
    if n = 0 then some (.nilslice, A) else
    if 0 < bytes ∧ 0 < esz ∧ n * bytes ≤ 2 ^ 47 ∧ n < 2 ^ 62 then some (.slice A.next 0 n n esz, A.new (.cells false new)) else none
  | .slice b o len cap lx =>
    if len + n ≤ cap then
      if new.isEmpty then some (.slice b o (len + n) cap lx, A) else
      match A.wr b (o + len * esz) new with
      | some A' => some (.slice b o (len + n) cap lx, A')
      | none => none
    else if 0 < bytes ∧ 0 < esz ∧ (len + n) * bytes ≤ 2 ^ 47 ∧ len + n < 2 ^ 62 then
      match (if len * esz = 0 then some [] else A.rd b o (len * esz)) with
      | none => none
      | some old =>
        if lx = 0 then some (.slice A.next 0 (len + n) (len + n) esz, A.new (.cells false (old ++ new)))
        else if lx = esz && new.all AVal.one then
          match A.get b with
          | some (.cells false cs) => if o + len * esz ≤ cs.length then some (.slice A.next 0 (len + n) (len + n) esz, (A.kill b).new (.cells false (old ++ new))) else none
          | _ => none
        else none
    else none
  | _ => none

/-- Operations that turn memory, but calls. -/
def achain (T : List AVal) (A : AH) : XOp → Option (AVal × AH)
  | .store1 x v => match ev T x with
    | .ptr b o => match A.wr1 b o (ev T v) with
      | some A' => some (.tuple [], A')
      | none => none
    | _ => none
  | .storeN n x v => match ev T x, ev T v with
    | .ptr b o, .agg cs => if cs.length = n then
        match A.wr b o cs with
        | some A' => some (.tuple [], A')
        | none => none
      else none
    | _, _ => none
  | .fbin op x y => match ev T x, ev T y with
    | .float k a, .float k' b => if k = k' then
        match floatAr op k a b with
        | some v => some (v, A)
        | none => none
      else none
    | _, _ => none
  | .cvid x => match ev T x with
    | .slice b o len cap lx => match A.get b with
      | some (.cells false cs) => if 0 < cs.length then some (.slice b o len cap lx, A) else none
      | _ => none
    | _ => none
  | .mapup ki m k v => match ev T m with
    | .map b => match A.get b with
      | some (.map es clock) => if (ev T v).isJunk || (ev T k).isJunk then none else match findKey ki (ev T k) es 0 with
        | some (some (i, _)) => some (.tuple [], A.set b (.map (es.modify i fun e => (ev T k, ev T v, e.2.2)) clock))
        | some none => some (.tuple [], A.set b (.map (es ++ [(ev T k, ev T v, clock)]) (clock + 1)))
        | none => none
      | _ => none
    | _ => none
  | .delete ki m k => match ev T m with
    | .map b => match A.get b with
      | some (.map es clock) => match findKey ki (ev T k) es 0 with
        | some (some (i, _)) => some (.tuple [], A.set b (.map (es.eraseIdx i) clock))
        | some none => some (.tuple [], A)
        | none => none
      | _ => none
    | _ => none
  | .append esz bytes x y => match ev T y with
    | .nilslice => aappend A esz bytes (ev T x) 0 []
    | .slice b o n _ _ => match (if n * esz = 0 then some [] else A.rd b o (n * esz)) with
      | some new => aappend A esz bytes (ev T x) n new
      | none => none
    | _ => none
  | .appendZ esz bytes z x n => match ev T n with
    | .int _ n => if 0 ≤ n ∧ n < 2 ^ 62 ∧ n * bytes ≤ 2 ^ 47 ∧ z.length = esz then aappend A esz bytes (ev T x) n.toNat (List.replicate n.toNat z).flatten else none
    | _ => none
  | .copy esz x y =>
    match (match ev T y with | .nilslice => some (0, 0, 0) | .slice b o n _ _ => some (b, o, n) | _ => none) with
    | none => none
    | some (b, o, n) => match ev T x with
      | .nilslice => some (.int .i64 0, A)
      | .slice b' o' n' _ _ =>
        if (min n n') * esz = 0 then some (.int .i64 (min n n' : Nat), A) else
        match A.rd b o ((min n n') * esz) with
        | some cs => match A.wr b' o' cs with
          | some A' => some (.int .i64 (min n n' : Nat), A')
          | none => none
        | none => none
      | _ => none
  | .clear esz z x => match ev T x with
    | .nilslice => some (.tuple [], A)
    | .slice b o n _ _ =>
      if n = 0 then some (.tuple [], A) else
      if z.length = esz then
        match A.wr b o (List.replicate n z).flatten with
        | some A' => some (.tuple [], A')
        | none => none
      else none
    | _ => none
  | _ => none

/-! ### Running -/

structure ADef where
  f : FuncId
  args : List AVal
  caps : List AVal

inductive Out where
  | stuck
  | norm (T : List AVal) (D : List ADef) (A : AH)
  | exit (id : Nat) (T : List AVal) (D : List ADef) (A : AH)
  | ret (T : List AVal) (D : List ADef) (A : AH)
  | pan (v : AVal) (T : List AVal) (D : List ADef) (A : AH)

inductive Res where
  | stuck
  | ret (v : AVal) (A : AH)
  | pan (v : AVal) (A : AH)

def put (T : List AVal) (d : Option Nat) (v : AVal) : List AVal :=
  match d with
  | some d => T.set d v
  | none => T

/-- Is the operation wanted? -/
def wants (T : List AVal) : Option (Nat × Bool) → Option Bool
  | none => some true
  | some (g, b) => match T.getD g .junk with
    | .bool c => some (c == b)
    | .tuple [] => some false
    | _ => none

/-- The receiver of a method that is met behind an interface. -/
def areceiver (A : AH) (v : AVal) : Option Nat → Option AVal
  | none => if v.isJunk then none else some v
  | some 0 => match v with
    | .ptr b o => A.rd1 b o
    | _ => none
  | some (n + 1) => match v with
    | .ptr b o => match A.rd b o n with
      | some cs => some (.agg cs)
      | none => none
    | _ => none

/-- The function that is called, and with what. -/
def acallee (T : List AVal) (A : AH) : XOp → Option (FuncId × List AVal)
  | .call f args => some (f, args.map (ev T))
  | .callv x args => match ev T x with
    | .func f caps => some (f, args.map (ev T) ++ caps)
    | _ => none
  | .invoke tbl x args => match ev T x with
    | .iface t v => match tbl.find? (·.1 == t) with
      | some (_, f, m) => match areceiver A v m with
        | some r => some (f, r :: args.map (ev T))
        | none => none
      | none => none
    | _ => none
  | _ => none

def isCall : XOp → Bool
  | .call .. | .callv .. | .invoke .. => true
  | _ => false

/-- All slots that operations write are forgotten. -/
def forget (T : List AVal) : List XOper → List AVal
  | [] => T
  | o :: rest => forget (put T o.dst .junk) rest

/-- Operations one behind another. 'all': those of the whole region. -/
def xops (call : FuncId → List AVal → AH → Res) (all : List XOper) : List XOper → List AVal → List ADef → AH → Out
  | [], T, D, A => .norm T D A
  | o :: rest, T, D, A =>
    match wants T o.guard with
    | none => .stuck
    | some false => xops call all rest (put T o.dst (.tuple [])) D A
    | some true =>
      if isPure o.op then
        match apure T o.op with
        | some v => xops call all rest (put T o.dst v) D A
        | none => .stuck
      else if isRead o.op then
        match aread T A o.op with
        | some v => xops call all rest (put T o.dst v) D A
        | none => .stuck
      else if isFree o.op then
        match afree T o.op with
        | some (x, k) => xops call all rest (put T o.dst (k A.next)) D (A.new x)
        | none => .stuck
      else if isCall o.op then
        match acallee T A o.op with
        | none => .stuck
        | some (f, args) => match call f args A with
          | .stuck => .stuck
          | .ret v A' => xops call all rest (put T o.dst v) D A'
          | .pan v A' => .pan v (forget T all) D A'
      else
        match o.op with
        | .defer x args => match ev T x with
          | .func f caps => xops call all rest (put T o.dst (.tuple [])) (⟨f, args.map (ev T), caps⟩ :: D) A
          | _ => .stuck
        | .panic x => match ev T x with
          | .iface t v => .pan (.iface t v) (forget T all) D A
          | _ => .stuck
        | op => match achain T A op with
          | some (v, A') => xops call all rest (put T o.dst v) D A'
          | none => .stuck

end Ab
