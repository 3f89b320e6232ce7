/- The executor's hot operations, by raw recursors. -/
import Derived.Test.YtdjhhdppeicpbaaAbFast1
namespace Ab
open Go
noncomputable section

def intC {β : Type} (v : AVal) (f : IntKind → Int → β) (d : β) : β := AVal.casesOn v d (fun _ => d) f (fun _ _ => d) (fun _ => d) (fun _ => d) d (fun _ _ => d) d (fun _ _ _ _ _ => d) d (fun _ => d) (fun _ _ => d) d (fun _ _ => d) d (fun _ => d) (fun _ => d)
def boolC {β : Type} (v : AVal) (f : Bool → β) (d : β) : β := AVal.casesOn v d f (fun _ _ => d) (fun _ _ => d) (fun _ => d) (fun _ => d) d (fun _ _ => d) d (fun _ _ _ _ _ => d) d (fun _ => d) (fun _ _ => d) d (fun _ _ => d) d (fun _ => d) (fun _ => d)
def ptrC {β : Type} (v : AVal) (f : Nat → Nat → β) (d : β) : β := AVal.casesOn v d (fun _ => d) (fun _ _ => d) (fun _ _ => d) (fun _ => d) (fun _ => d) d f d (fun _ _ _ _ _ => d) d (fun _ => d) (fun _ _ => d) d (fun _ _ => d) d (fun _ => d) (fun _ => d)
def sliceC {β : Type} (v : AVal) (f : Nat → Nat → Nat → Nat → Nat → β) (d : β) : β := AVal.casesOn v d (fun _ => d) (fun _ _ => d) (fun _ _ => d) (fun _ => d) (fun _ => d) d (fun _ _ => d) d f d (fun _ => d) (fun _ _ => d) d (fun _ _ => d) d (fun _ => d) (fun _ => d)
def oneR (v : AVal) : Bool := AVal.casesOn v false (fun _ => true) (fun _ _ => true) (fun _ _ => true) (fun _ => true) (fun _ => true) true (fun _ _ => true) true (fun _ _ _ _ _ => true) true (fun _ => true) (fun _ _ => true) true (fun _ _ => true) true (fun _ => false) (fun _ => false)
theorem oneR_eq (v : AVal) : oneR v = v.one := by cases v <;> rfl

def optC {α β : Type} (x : Option α) (f : α → β) (d : β) : β := Option.rec d f x
theorem optC_some {α β : Type} (a : α) (f : α → β) (d : β) : optC (some a) f d = f a := rfl
theorem optC_none {α β : Type} (f : α → β) (d : β) : optC none f d = d := rfl

def kix (k : IntKind) : Nat := IntKind.rec 0 1 2 3 4 5 6 7 k
def kindR (k k' : IntKind) : Bool := Nat.beq (kix k) (kix k')
theorem kindR_eq (k k' : IntKind) : kindR k k' = true ↔ k = k' := by cases k <;> cases k' <;> decide

def natOp (f : Nat → Nat → Option AVal) (d : Option AVal) (a b : Int) : Option AVal := Int.rec (fun m => Int.rec (fun n => f m n) (fun _ => d) b) (fun _ => d) a
theorem natOp_eq {f : Nat → Nat → Option AVal} {d : Option AVal} {a b : Int} (h : ∀ m n : Nat, a = m → b = n → f m n = d) : natOp f d a b = d := by
  cases a with
  | ofNat m => cases b with
    | ofNat n => exact h m n rfl rfl
    | negSucc n => rfl
  | negSucc m => rfl

def mod2 (k : IntKind) : Nat := IntKind.rec 256 65536 4294967296 18446744073709551616 256 65536 4294967296 18446744073709551616 k
theorem mod2_eq (k : IntKind) : mod2 k = 2 ^ k.bits := by cases k <;> decide

def intBinR (op : BinOp) (k : IntKind) (a b : Int) : Option AVal :=
  BinOp.rec (motive := fun _ => Option AVal)
    (some (.int k (wrapR k (iaddR a b)))) (some (.int k (wrapR k (isubR a b)))) (some (.int k (wrapR k (imulR a b))))
    (natOp (fun m n => bsel (Nat.beq n 0) none (some (.int k (wrapR k (Int.ofNat (Nat.div m n)))))) (intBin .quo k a b) a b)
    (natOp (fun m n => bsel (Nat.beq n 0) none (some (.int k (Int.ofNat (Nat.mod m n))))) (intBin .rem k a b) a b)
    (natOp (fun m n => some (.int k (wrapR k (Int.ofNat (Nat.land (Nat.mod m (mod2 k)) (Nat.mod n (mod2 k))))))) (intBin .and k a b) a b)
    (natOp (fun m n => some (.int k (wrapR k (Int.ofNat (Nat.lor (Nat.mod m (mod2 k)) (Nat.mod n (mod2 k))))))) (intBin .or k a b) a b)
    (natOp (fun m n => some (.int k (wrapR k (Int.ofNat (Nat.xor (Nat.mod m (mod2 k)) (Nat.mod n (mod2 k))))))) (intBin .xor k a b) a b)
    none none (intBin .andNot k a b)
    (some (.bool (ieqR a b))) (some (.bool (bsel (ieqR a b) false true))) (some (.bool (iltR a b))) (some (.bool (ileR a b))) (some (.bool (iltR b a))) (some (.bool (ileR b a))) op

theorem ofInt_nat (k : IntKind) (m : Nat) : (BitVec.ofInt k.bits (m : Int)).toNat = m % mod2 k := by
  rw [mod2_eq]
  simp

theorem intBinR_eq (op : BinOp) (k : IntKind) (a b : Int) : intBinR op k a b = intBin op k a b := by
  cases op with
  | add => show some (AVal.int k (wrapR k (iaddR a b))) = _; rw [wrapR_eq, iaddR_eq]; rfl
  | sub => show some (AVal.int k (wrapR k (isubR a b))) = _; rw [wrapR_eq, isubR_eq]; rfl
  | mul => show some (AVal.int k (wrapR k (imulR a b))) = _; rw [wrapR_eq, imulR_eq]; rfl
  | quo =>
    refine natOp_eq fun m n ha hb => ?_
    subst ha hb
    rw [bsel_eq]
    by_cases hn : n = 0
    · subst hn; rfl
    · rw [if_neg (by rw [Nat.beq_eq]; exact hn), wrapR_eq]
      simp only [intBin]
      rw [if_neg (by omega)]
      rfl
  | rem =>
    refine natOp_eq fun m n ha hb => ?_
    subst ha hb
    rw [bsel_eq]
    by_cases hn : n = 0
    · subst hn; rfl
    · rw [if_neg (by rw [Nat.beq_eq]; exact hn)]
      simp only [intBin]
      rw [if_neg (by omega)]
      rfl
  | and =>
    refine natOp_eq fun m n ha hb => ?_
    subst ha hb
    rw [wrapR_eq]
    simp only [intBin, BitVec.toNat_and, ofInt_nat]
    rfl
  | or =>
    refine natOp_eq fun m n ha hb => ?_
    subst ha hb
    rw [wrapR_eq]
    simp only [intBin, BitVec.toNat_or, ofInt_nat]
    rfl
  | xor =>
    refine natOp_eq fun m n ha hb => ?_
    subst ha hb
    rw [wrapR_eq]
    simp only [intBin, BitVec.toNat_xor, ofInt_nat]
    rfl
  | shl => rfl
  | shr => rfl
  | andNot => rfl
  | eql => show some (AVal.bool (ieqR a b)) = _; rw [ieqR_eq]; rfl
  | neq =>
    show some (AVal.bool (bsel (ieqR a b) false true)) = _
    rw [ieqR_eq]
    simp only [intBin]
    congr 2
    rw [bsel_eq]
    cases h : (a == b) <;> simp [bne, h]
  | lss => show some (AVal.bool (iltR a b)) = _; rw [iltR_eq]; rfl
  | leq => show some (AVal.bool (ileR a b)) = _; rw [ileR_eq]; rfl
  | gtr => show some (AVal.bool (iltR b a)) = _; rw [iltR_eq]; rfl
  | geq => show some (AVal.bool (ileR b a)) = _; rw [ileR_eq]; rfl

def bitsR (k : IntKind) : Nat := IntKind.rec 8 16 32 64 8 16 32 64 k

def intOpR (op : BinOp) (k : IntKind) (a : Int) (k' : IntKind) (b : Int) : Option AVal :=
  BinOp.rec (motive := fun _ => Option AVal)
    (bsel (kindR k k') (intBinR .add k a b) none) (bsel (kindR k k') (intBinR .sub k a b) none) (bsel (kindR k k') (intBinR .mul k a b) none) (bsel (kindR k k') (intBinR .quo k a b) none) (bsel (kindR k k') (intBinR .rem k a b) none)
    (bsel (kindR k k') (intBinR .and k a b) none) (bsel (kindR k k') (intBinR .or k a b) none) (bsel (kindR k k') (intBinR .xor k a b) none)
    (natOp (fun m n => some (.int k (wrapR k (Int.ofNat (Nat.mul m (Nat.pow 2 (bsel (Nat.ble n (bitsR k)) n (bitsR k)))))))) (abin .shl (.int k a) (.int k' b)) a b)
    (natOp (fun m n => some (.int k (Int.ofNat (Nat.div m (Nat.pow 2 (bsel (Nat.ble n (bitsR k)) n (bitsR k))))))) (abin .shr (.int k a) (.int k' b)) a b)
    (bsel (kindR k k') (intBinR .andNot k a b) none) (bsel (kindR k k') (intBinR .eql k a b) none) (bsel (kindR k k') (intBinR .neq k a b) none) (bsel (kindR k k') (intBinR .lss k a b) none)
    (bsel (kindR k k') (intBinR .leq k a b) none) (bsel (kindR k k') (intBinR .gtr k a b) none) (bsel (kindR k k') (intBinR .geq k a b) none) op

theorem minR_eq (k : IntKind) (n : Nat) : (bsel (Nat.ble n (bitsR k)) n (bitsR k)) = min ((n : Int).toNat) k.bits := by
  have : bitsR k = k.bits := by cases k <;> rfl
  rw [this, bsel_eq, Int.toNat_natCast, Nat.min_def]
  simp only [ble_iff]

theorem kind_same (op : BinOp) (k k' : IntKind) (a b : Int) (h1 : op ≠ .shl) (h2 : op ≠ .shr) : bsel (kindR k k') (intBinR op k a b) none = abin op (.int k a) (.int k' b) := by
  rw [bsel_eq, intBinR_eq]
  by_cases hk : k = k'
  · rw [if_pos ((kindR_eq k k').2 hk)]
    cases op <;> first
      | exact absurd rfl h1
      | exact absurd rfl h2
      | (simp only [abin]; rw [if_pos hk])
  · rw [if_neg fun h => hk ((kindR_eq k k').1 h)]
    cases op <;> first
      | exact absurd rfl h1
      | exact absurd rfl h2
      | (simp only [abin]; rw [if_neg hk])

theorem intOpR_eq (op : BinOp) (k : IntKind) (a : Int) (k' : IntKind) (b : Int) : intOpR op k a k' b = abin op (.int k a) (.int k' b) := by
  cases op with
  | shl =>
    refine natOp_eq fun m n ha hb => ?_
    subst ha hb
    rw [wrapR_eq, minR_eq]
    simp only [abin]
    rw [if_neg (by omega)]
    congr 3
  | shr =>
    refine natOp_eq fun m n ha hb => ?_
    subst ha hb
    rw [minR_eq]
    simp only [abin]
    rw [if_neg (by omega)]
    congr 2
    show ((m / 2 ^ _ : Nat) : Int) = _
    rw [Int.fdiv_eq_ediv_of_nonneg _ (by exact Int.le_of_lt (Int.pow_pos (by decide)))]
    rw [Int.natCast_ediv, Int.natCast_pow]
    rfl
  | _ => exact kind_same _ k k' a b (by simp) (by simp)

def abinR (op : BinOp) (x y : AVal) : Option AVal := intC x (fun k a => intC y (fun k' b => intOpR op k a k' b) (abin op x y)) (abin op x y)
theorem abinR_eq (op : BinOp) (x y : AVal) : abinR op x y = abin op x y := by
  cases x <;> first
    | rfl
    | (cases y <;> first
        | rfl
        | exact intOpR_eq ..)

end
end Ab
