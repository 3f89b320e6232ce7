/- Memory and the other hot operations, by raw recursors; operations with their values laid in. -/
import Derived.Test.YtdjhhdppeicpbaaAbFast2
import Derived.Test.YtdjhhdppeicpbaaAbDraw5
namespace Ab
open Go
noncomputable section

theorem beq_true {m n : Nat} (h : m = n) : Nat.beq m n = true := by rw [Nat.beq_eq]; exact h
theorem beq_of {m n : Nat} (h : Nat.beq m n = true) : m = n := Nat.eq_of_beq_eq_true h

def nthR (l : List AVal) (i : Nat) : Option AVal := Nat.rec (motive := fun _ => List AVal → Option AVal) (fun l => List.rec none (fun x _ _ => some x) l) (fun _ ih l => List.rec none (fun _ xs _ => ih xs) l) i l
theorem nthR_eq : ∀ (l : List AVal) (i : Nat), nthR l i = l[i]?
  | [], 0 => rfl
  | [], _ + 1 => rfl
  | _ :: _, 0 => rfl
  | x :: l, i + 1 => by
    show nthR l i = _
    rw [nthR_eq l i]; simp

def lsetR (l : List AVal) (i : Nat) (v : AVal) : Option (List AVal) := Nat.rec (motive := fun _ => List AVal → Option (List AVal)) (fun l => List.rec none (fun _ xs _ => some (v :: xs)) l) (fun _ ih l => List.rec none (fun x xs _ => Option.rec none (fun ys => some (x :: ys)) (ih xs)) l) i l
theorem lsetR_eq (v : AVal) : ∀ (l : List AVal) (i : Nat), lsetR l i v = if i < l.length then some (l.set i v) else none
  | [], 0 => rfl
  | [], i + 1 => by
    show none = _
    simp
  | x :: l, 0 => by simp only [List.length_cons, Nat.zero_lt_succ, if_true, List.set_cons_zero]; rfl
  | x :: l, i + 1 => by
    show (Option.rec none (fun ys => some (x :: ys)) (lsetR l i v) : Option (List AVal)) = _
    rw [lsetR_eq v l i]
    by_cases h : i < l.length
    · rw [if_pos h, if_pos (by simpa using h)]; rfl
    · rw [if_neg h, if_neg (by simpa using h)]

def getR (t : Tr ABlk) (k : Nat) : Option ABlk := Tr.rec (motive := fun _ => Nat → Option ABlk) (fun _ => none) (fun v _ _ ihl ihr k => Bool.rec (Bool.rec (ihr (Nat.sub (Nat.div k (nat_lit 2)) (nat_lit 1))) (ihl (Nat.div k (nat_lit 2))) (Nat.beq (Nat.mod k (nat_lit 2)) (nat_lit 1))) v (Nat.beq k (nat_lit 0))) t k
theorem getR_eq : ∀ (t : Tr ABlk) (k : Nat), getR t k = t.get k
  | .e, _ => rfl
  | .n v l r, k => by
    show (Bool.rec (Bool.rec (getR r (Nat.div k 2 - 1)) (getR l (Nat.div k 2)) (Nat.beq (Nat.mod k 2) 1)) v (Nat.beq k 0) : Option ABlk) = _
    rw [getR_eq l, getR_eq r]
    simp only [Tr.get]
    by_cases h : k = 0
    · rw [if_pos h, beq_true h]
    · have h0 : Nat.beq k 0 = false := by
        cases hb : Nat.beq k 0 with
        | false => rfl
        | true => exact absurd (beq_of hb) h
      rw [if_neg h, h0]
      by_cases h1 : k % 2 = 1
      · have h2 : Nat.beq (Nat.mod k 2) 1 = true := beq_true h1
        rw [if_pos h1, h2]; rfl
      · have h2 : Nat.beq (Nat.mod k 2) 1 = false := by
          cases hb : Nat.beq (Nat.mod k 2) 1 with
          | false => rfl
          | true => exact absurd (beq_of hb) h1
        rw [if_neg h1, h2]; rfl

def setFR (f : Nat) (t : Tr ABlk) (k : Nat) (v : Option ABlk) : Tr ABlk := Nat.rec (motive := fun _ => Tr ABlk → Nat → Tr ABlk) (fun t _ => t)
  (fun _ ih t k => Tr.rec (motive := fun _ => Tr ABlk)
    (Bool.rec (Bool.rec (.n none .e (ih .e (Nat.sub (Nat.div k (nat_lit 2)) (nat_lit 1)))) (.n none (ih .e (Nat.div k (nat_lit 2))) .e) (Nat.beq (Nat.mod k (nat_lit 2)) (nat_lit 1))) (.n v .e .e) (Nat.beq k (nat_lit 0)))
    (fun u l r _ _ => Bool.rec (Bool.rec (.n u l (ih r (Nat.sub (Nat.div k (nat_lit 2)) (nat_lit 1)))) (.n u (ih l (Nat.div k (nat_lit 2))) r) (Nat.beq (Nat.mod k (nat_lit 2)) (nat_lit 1))) (.n v l r) (Nat.beq k (nat_lit 0))) t) f t k

theorem beq_false {m n : Nat} (h : m ≠ n) : Nat.beq m n = false := by
  cases hb : Nat.beq m n with
  | false => rfl
  | true => exact absurd (beq_of hb) h

theorem setFR_eq (v : Option ABlk) : ∀ (f : Nat) (t : Tr ABlk) (k : Nat), setFR f t k v = Tr.setF f t k v
  | 0, t, k => by cases t <;> rfl
  | f + 1, .e, k => by
    show (Bool.rec (Bool.rec (.n none .e (setFR f .e (Nat.div k 2 - 1) v)) (.n none (setFR f .e (Nat.div k 2) v) .e) (Nat.beq (Nat.mod k 2) 1)) (.n v .e .e) (Nat.beq k 0) : Tr ABlk) = _
    rw [setFR_eq v f, setFR_eq v f]
    simp only [Tr.setF]
    by_cases h : k = 0
    · rw [if_pos h, beq_true h]
    · rw [if_neg h, beq_false h]
      by_cases h1 : k % 2 = 1
      · rw [if_pos h1, beq_true (show Nat.mod k 2 = 1 from h1)]; rfl
      · rw [if_neg h1, beq_false (show Nat.mod k 2 ≠ 1 from h1)]; rfl
  | f + 1, .n u l r, k => by
    show (Bool.rec (Bool.rec (.n u l (setFR f r (Nat.div k 2 - 1) v)) (.n u (setFR f l (Nat.div k 2) v) r) (Nat.beq (Nat.mod k 2) 1)) (.n v l r) (Nat.beq k 0) : Tr ABlk) = _
    rw [setFR_eq v f, setFR_eq v f]
    simp only [Tr.setF]
    by_cases h : k = 0
    · rw [if_pos h, beq_true h]
    · rw [if_neg h, beq_false h]
      by_cases h1 : k % 2 = 1
      · rw [if_pos h1, beq_true (show Nat.mod k 2 = 1 from h1)]; rfl
      · rw [if_neg h1, beq_false (show Nat.mod k 2 ≠ 1 from h1)]; rfl

def newR (A : AH) (x : ABlk) : AH := AH.mk (Nat.succ A.next) (setFR (Nat.succ A.next) A.t A.next (some x))
theorem newR_eq (A : AH) (x : ABlk) : newR A x = A.new x := by
  unfold newR AH.new Tr.set
  rw [setFR_eq]
def setR (A : AH) (b : Nat) (x : ABlk) : AH := AH.mk A.next (setFR (Nat.succ b) A.t b (some x))
theorem setR_eq (A : AH) (b : Nat) (x : ABlk) : setR A b x = A.set b x := by
  unfold setR AH.set Tr.set
  rw [setFR_eq]

def rd1R (A : AH) (b o : Nat) : Option AVal := optC (getR A.t b) (fun blk => ABlk.casesOn blk (fun _ cs => nthR cs o) (fun _ _ => none)) none
theorem rd1R_eq (A : AH) (b o : Nat) : rd1R A b o = A.rd1 b o := by
  unfold rd1R AH.rd1 AH.get
  rw [getR_eq]
  cases h : A.t.get b with
  | none => rfl
  | some x => cases x with
    | cells ro cs => exact nthR_eq cs o
    | map es c => rfl

def wr1R (A : AH) (b o : Nat) (v : AVal) : Option AH :=
  optC (getR A.t b) (fun blk => ABlk.casesOn blk (fun ro cs => Bool.rec (Bool.rec none (optC (lsetR cs o v) (fun cs' => some (setR A b (.cells false cs'))) none) (oneR v)) none ro) (fun _ _ => none)) none
theorem wr1R_eq (A : AH) (b o : Nat) (v : AVal) : wr1R A b o v = A.wr1 b o v := by
  unfold wr1R AH.wr1 AH.get
  rw [getR_eq]
  cases h : A.t.get b with
  | none => rfl
  | some x => cases x with
    | cells ro cs => cases ro with
      | true => rfl
      | false =>
        show (Bool.rec none (optC (lsetR cs o v) (fun cs' => some (setR A b (.cells false cs'))) none) (oneR v) : Option AH) = _
        rw [lsetR_eq, oneR_eq]
        cases ho : v.one with
        | false => simp
        | true =>
          by_cases hl : o < cs.length
          · simp only [hl, if_true, decide_true, Bool.and_self]
            show some (setR A b _) = _
            rw [setR_eq]
          · simp only [hl, if_false, decide_false, Bool.false_and, Bool.false_eq_true]
            rfl
    | map es c => rfl

def idxsR (esz : Nat) (x i : AVal) : Option AVal := sliceC x (fun b o len _ _ => intC i (fun _ n => Int.rec (fun m => bsel (Nat.ble (Nat.succ m) len) (some (.ptr b (Nat.add o (Nat.mul m esz)))) none) (fun _ => none) n) none) none
theorem idxsR_eq (esz : Nat) (x i : AVal) : idxsR esz x i = apure [] (.idxs esz (.c x) (.c i)) := by
  cases x <;> first
    | rfl
    | (cases i <;> first
        | rfl
        | (rename_i b o len cap lx k n
           cases n with
           | ofNat m =>
             show bsel _ _ _ = _
             rw [bsel_eq]
             simp only [apure, ev, ble_iff]
             by_cases h : m + 1 ≤ len
             · rw [if_pos h, if_pos ⟨by simp, by simp; omega⟩]; rfl
             · rw [if_neg h, if_neg (by simp; omega)]
           | negSucc m =>
             show none = _
             simp only [apure, ev]
             rw [if_neg (by omega)]))

def idxaR (n esz : Nat) (x i : AVal) : Option AVal := ptrC x (fun b o => intC i (fun _ k => Int.rec (fun m => bsel (Nat.ble (Nat.succ m) n) (some (.ptr b (Nat.add o (Nat.mul m esz)))) none) (fun _ => none) k) none) none
theorem idxaR_eq (n esz : Nat) (x i : AVal) : idxaR n esz x i = apure [] (.idxa n esz (.c x) (.c i)) := by
  cases x <;> first
    | rfl
    | (cases i <;> first
        | rfl
        | (rename_i b o k j
           cases j with
           | ofNat m =>
             show bsel _ _ _ = _
             rw [bsel_eq]
             simp only [apure, ev, ble_iff]
             by_cases h : m + 1 ≤ n
             · rw [if_pos h, if_pos ⟨by simp, by simp; omega⟩]; rfl
             · rw [if_neg h, if_neg (by simp; omega)]
           | negSucc m =>
             show none = _
             simp only [apure, ev]
             rw [if_neg (by omega)]))

def fadrR (off : Nat) (x : AVal) : Option AVal := ptrC x (fun b o => some (.ptr b (Nat.add o off))) none
theorem fadrR_eq (off : Nat) (x : AVal) : fadrR off x = apure [] (.fadr off (.c x)) := by cases x <;> rfl
def cviR (k : IntKind) (x : AVal) : Option AVal := intC x (fun _ n => some (.int k (wrapR k n))) none
theorem cviR_eq (k : IntKind) (x : AVal) : cviR k x = apure [] (.cvi k (.c x)) := by
  cases x <;> first
    | rfl
    | (show some (AVal.int k (wrapR k _)) = _; rw [wrapR_eq]; rfl)
def blenR (x : AVal) : Option AVal := sliceC x (fun _ _ len _ _ => some (.int .i64 (Int.ofNat len))) (apure [] (.blen (.c x)))
theorem blenR_eq (x : AVal) : blenR x = apure [] (.blen (.c x)) := by cases x <;> rfl
def load1R (A : AH) (x : AVal) : Option AVal := ptrC x (fun b o => rd1R A b o) none
theorem load1R_eq (A : AH) (x : AVal) : load1R A x = aread [] A (.load1 (.c x)) := by
  cases x <;> first
    | rfl
    | exact rd1R_eq ..
def store1R (A : AH) (x v : AVal) : Option (AVal × AH) := ptrC x (fun b o => optC (wr1R A b o v) (fun A' => some (.tuple [], A')) none) none
theorem store1R_eq (A : AH) (x v : AVal) : store1R A x v = achain [] A (.store1 (.c x) (.c v)) := by
  cases x <;> first
    | rfl
    | (rename_i b o
       show optC (wr1R A b o v) _ _ = _
       rw [wr1R_eq]
       simp only [achain, ev]
       cases A.wr1 b o v <;> rfl)

def aggC {β : Type} (v : AVal) (f : List AVal → β) (d : β) : β := AVal.casesOn v d (fun _ => d) (fun _ _ => d) (fun _ _ => d) (fun _ => d) (fun _ => d) d (fun _ _ => d) d (fun _ _ _ _ _ => d) d (fun _ => d) (fun _ _ => d) d (fun _ _ => d) d f (fun _ => d)
def tupC {β : Type} (v : AVal) (f : List AVal → β) (d : β) : β := AVal.casesOn v d (fun _ => d) (fun _ _ => d) (fun _ _ => d) (fun _ => d) (fun _ => d) d (fun _ _ => d) d (fun _ _ _ _ _ => d) d (fun _ => d) (fun _ _ => d) d (fun _ _ => d) d (fun _ => d) f
def idxR (n esz : Nat) (ag : Bool) (x i : AVal) : Option AVal := aggC x (fun cs => intC i (fun _ k => Int.rec (fun m => bsel (Nat.ble (Nat.succ m) n) (bsel ag (apart (Nat.mul m esz) esz true cs) (nthR cs (Nat.mul m esz))) none) (fun _ => none) k) none) none
theorem idxR_eq (n esz : Nat) (ag : Bool) (x i : AVal) : idxR n esz ag x i = apure [] (.idx n esz ag (.c x) (.c i)) := by
  cases x <;> first
    | rfl
    | (cases i <;> first
        | rfl
        | (rename_i cs k j
           cases j with
           | ofNat m =>
             show bsel _ _ _ = _
             rw [bsel_eq]
             simp only [apure, ev, ble_iff]
             by_cases h : m + 1 ≤ n
             · rw [if_pos h, if_pos ⟨by simp, by simp; omega⟩]
               cases ag with
               | true => rfl
               | false => exact nthR_eq cs (m * esz)
             · rw [if_neg h, if_neg (by simp; omega)]
           | negSucc m =>
             show none = _
             simp only [apure, ev]
             rw [if_neg (by omega)]))
def pickR (c a b : AVal) : Option AVal := boolC c (fun t => some (bsel t a b)) none
theorem pickR_eq (c a b : AVal) : pickR c a b = apure [] (.pick (.c c) (.c a) (.c b)) := by
  cases c <;> first
    | rfl
    | (rename_i t; cases t <;> rfl)
def extR (i : Nat) (x : AVal) : Option AVal := tupC x (fun vs => nthR vs i) none
theorem extR_eq (i : Nat) (x : AVal) : extR i x = apure [] (.ext i (.c x)) := by
  cases x <;> first
    | rfl
    | exact nthR_eq ..
def notR (x : AVal) : Option AVal := boolC x (fun b => some (.bool (bsel b false true))) (aun .not x)
theorem notR_eq (x : AVal) : notR x = apure [] (.un .not (.c x)) := by
  cases x <;> first
    | rfl
    | (rename_i t; cases t <;> rfl)
def nilcR (x : AVal) : Option AVal := ptrC x (fun _ _ => some x) (apure [] (.nilc (.c x)))
theorem nilcR_eq (x : AVal) : nilcR x = apure [] (.nilc (.c x)) := by cases x <;> rfl

def takeR (n : Nat) (l : List AVal) : Option (List AVal) := Nat.rec (motive := fun _ => List AVal → Option (List AVal)) (fun _ => some []) (fun _ ih l => List.casesOn l none fun x xs => optC (ih xs) (fun ys => some (x :: ys)) none) n l
theorem takeR_eq : ∀ (n : Nat) (l : List AVal), takeR n l = if n ≤ l.length then some (l.take n) else none
  | 0, l => by
    show some [] = _
    simp
  | n + 1, [] => by
    show none = _
    simp
  | n + 1, x :: xs => by
    show optC (takeR n xs) _ _ = _
    rw [takeR_eq n xs]
    by_cases h : n ≤ xs.length
    · rw [if_pos h, if_pos (by simpa using h)]; rfl
    · rw [if_neg h, if_neg (by simpa using h)]; rfl
def dropR (n : Nat) (l : List AVal) : List AVal := Nat.rec (motive := fun _ => List AVal → List AVal) (fun l => l) (fun _ ih l => List.casesOn l [] fun _ xs => ih xs) n l
theorem dropR_eq : ∀ (n : Nat) (l : List AVal), dropR n l = l.drop n
  | 0, _ => rfl
  | _ + 1, [] => rfl
  | n + 1, _ :: xs => dropR_eq n xs
def rdR (A : AH) (b o n : Nat) : Option (List AVal) := optC (getR A.t b) (fun blk => ABlk.casesOn blk (fun _ cs => bsel (Nat.beq n 0) (A.rd b o n) (takeR n (dropR o cs))) (fun _ _ => none)) none
theorem rdR_eq (A : AH) (b o n : Nat) : rdR A b o n = A.rd b o n := by
  unfold rdR
  rw [getR_eq]
  cases h : A.t.get b with
  | none => unfold AH.rd AH.get; rw [h]; rfl
  | some x => cases x with
    | cells ro cs =>
      show bsel (Nat.beq n 0) (A.rd b o n) (takeR n (dropR o cs)) = _
      rw [bsel_eq]
      by_cases hn : n = 0
      · rw [if_pos (beq_true hn)]
      · rw [if_neg (by rw [beq_false hn]; simp), takeR_eq, dropR_eq]
        unfold AH.rd AH.get
        rw [h]
        simp only [List.length_drop]
        by_cases hl : o + n ≤ cs.length
        · rw [if_pos hl, if_pos (by omega)]
        · rw [if_neg hl, if_neg (by omega)]
    | map es c => unfold AH.rd AH.get; rw [h]; rfl
def loadNR (n : Nat) (A : AH) (x : AVal) : Option AVal := ptrC x (fun b o => optC (rdR A b o n) (fun cs => some (.agg cs)) none) none
theorem loadNR_eq (n : Nat) (A : AH) (x : AVal) : loadNR n A x = aread [] A (.loadN n (.c x)) := by
  cases x <;> first
    | rfl
    | (rename_i b o
       show optC (rdR A b o n) _ _ = _
       rw [rdR_eq]
       simp only [aread, ev]
       cases A.rd b o n <;> rfl)
def overR (vs cs : List AVal) : Option (List AVal) := List.rec (motive := fun _ => List AVal → Option (List AVal)) (fun cs => some cs) (fun v _ ih cs => List.casesOn cs none fun _ cs => Bool.rec none (optC (ih cs) (fun ys => some (v :: ys)) none) (oneR v)) vs cs
def patchR (o : Nat) (vs cs : List AVal) : Option (List AVal) := Nat.rec (motive := fun _ => List AVal → Option (List AVal)) (fun cs => overR vs cs) (fun _ ih cs => List.casesOn cs none fun c cs => optC (ih cs) (fun ys => some (c :: ys)) none) o cs
theorem overR_eq : ∀ (vs cs : List AVal), overR vs cs = if vs.length ≤ cs.length ∧ vs.all AVal.one = true then some (vs ++ cs.drop vs.length) else none
  | [], cs => by simp [overR]
  | v :: vs, [] => by
    show none = _
    simp
  | v :: vs, c :: cs => by
    show (Bool.rec none (optC (overR vs cs) (fun ys => some (v :: ys)) none) (oneR v) : Option (List AVal)) = _
    rw [oneR_eq, overR_eq vs cs]
    cases ho : v.one with
    | false => simp [ho]
    | true =>
      by_cases h : vs.length ≤ cs.length ∧ vs.all AVal.one = true
      · rw [if_pos h, if_pos ⟨by simpa using h.1, by simp only [List.all_cons, ho, h.2, Bool.and_self]⟩]
        rfl
      · rw [if_neg h, if_neg (by rintro ⟨h1, h2⟩; simp only [List.all_cons, ho, Bool.true_and] at h2; exact h ⟨by simpa using h1, h2⟩)]
        rfl
theorem patchR_eq (vs : List AVal) : ∀ (o : Nat) (cs : List AVal), patchR o vs cs = if o + vs.length ≤ cs.length ∧ vs.all AVal.one = true then some (patch cs o vs) else none
  | 0, cs => by
    show overR vs cs = _
    rw [overR_eq]
    simp [patch]
  | o + 1, [] => by
    show none = _
    rw [if_neg (by simp)]
  | o + 1, c :: cs => by
    show optC (patchR o vs cs) _ _ = _
    rw [patchR_eq vs o cs]
    by_cases h : o + vs.length ≤ cs.length ∧ vs.all AVal.one = true
    · rw [if_pos h, if_pos ⟨by simp only [List.length_cons]; omega, h.2⟩]
      simp only [patch, List.take_succ_cons, show o + 1 + vs.length = (o + vs.length) + 1 by omega, List.drop_succ_cons, List.cons_append]
      rfl
    · rw [if_neg h, if_neg (by rintro ⟨h1, h2⟩; exact h ⟨by simp only [List.length_cons] at h1; omega, h2⟩)]
      rfl
def wrR (A : AH) (b o : Nat) (vs : List AVal) : Option AH := optC (getR A.t b) (fun blk => ABlk.casesOn blk (fun ro cs => Bool.rec (optC (patchR o vs cs) (fun cs' => some (setR A b (.cells false cs'))) none) none ro) (fun _ _ => none)) none
theorem wrR_eq (A : AH) (b o : Nat) (vs : List AVal) : wrR A b o vs = A.wr b o vs := by
  unfold wrR AH.wr AH.get
  rw [getR_eq]
  cases h : A.t.get b with
  | none => rfl
  | some x => cases x with
    | cells ro cs => cases ro with
      | true => rfl
      | false =>
        show optC (patchR o vs cs) _ _ = _
        rw [patchR_eq]
        by_cases hh : o + vs.length ≤ cs.length ∧ vs.all AVal.one = true
        · rw [if_pos hh]
          simp only [hh.1, hh.2, decide_true, Bool.and_self, if_true]
          show some (setR A b _) = _
          rw [setR_eq]
        · rw [if_neg hh]
          simp only [Bool.and_eq_true, decide_eq_true_eq]
          rw [if_neg hh]; rfl
    | map es c => rfl
def lenR (cs : List AVal) : Nat := List.rec 0 (fun _ _ ih => Nat.succ ih) cs
theorem lenR_eq : ∀ cs : List AVal, lenR cs = cs.length
  | [] => rfl
  | _ :: cs => congrArg Nat.succ (lenR_eq cs)
def storeNR (n : Nat) (A : AH) (x v : AVal) : Option (AVal × AH) := ptrC x (fun b o => aggC v (fun cs => bsel (Nat.beq (lenR cs) n) (optC (wrR A b o cs) (fun A' => some (.tuple [], A')) none) none) none) none
theorem storeNR_eq (n : Nat) (A : AH) (x v : AVal) : storeNR n A x v = achain [] A (.storeN n (.c x) (.c v)) := by
  cases x <;> first
    | rfl
    | (cases v <;> first
        | rfl
        | (rename_i b o cs
           show bsel (Nat.beq (lenR cs) n) (optC (wrR A b o cs) _ _) none = _
           rw [bsel_eq, lenR_eq, wrR_eq]
           simp only [achain, ev]
           by_cases h : cs.length = n
           · rw [if_pos (beq_true h), if_pos h]
             cases A.wr b o cs <;> rfl
           · rw [if_neg (by rw [beq_false h]; simp), if_neg h]))

/-- Two integers of one kind. -/
def bin2 (f : IntKind → Int → Int → Option AVal) (d : Option AVal) (x y : AVal) : Option AVal := intC x (fun k a => intC y (fun k' b => bsel (kindR k k') (f k a b) none) d) d
theorem bin2_eq {f : IntKind → Int → Int → Option AVal} {op : BinOp} (h1 : op ≠ .shl) (h2 : op ≠ .shr) (hf : ∀ k a b, f k a b = intBin op k a b) (x y : AVal) : bin2 f (abin op x y) x y = abin op x y := by
  cases x <;> first
    | rfl
    | (cases y <;> first
        | rfl
        | (rename_i k a k' b
           show bsel (kindR k k') (f k a b) none = _
           rw [hf, ← kind_same op k k' a b h1 h2, intBinR_eq]))
def addR (x y : AVal) : Option AVal := bin2 (fun k a b => some (.int k (wrapR k (iaddR a b)))) (abin .add x y) x y
theorem addR_eq (x y : AVal) : addR x y = apure [] (.bin .add (.c x) (.c y)) := bin2_eq (by simp) (by simp) (fun k a b => (intBinR_eq .add k a b) ▸ rfl) x y
def subR (x y : AVal) : Option AVal := bin2 (fun k a b => some (.int k (wrapR k (isubR a b)))) (abin .sub x y) x y
theorem subR_eq (x y : AVal) : subR x y = apure [] (.bin .sub (.c x) (.c y)) := bin2_eq (by simp) (by simp) (fun k a b => (intBinR_eq .sub k a b) ▸ rfl) x y
def mulR (x y : AVal) : Option AVal := bin2 (fun k a b => some (.int k (wrapR k (imulR a b)))) (abin .mul x y) x y
theorem mulR_eq (x y : AVal) : mulR x y = apure [] (.bin .mul (.c x) (.c y)) := bin2_eq (by simp) (by simp) (fun k a b => (intBinR_eq .mul k a b) ▸ rfl) x y
def eqlR (x y : AVal) : Option AVal := bin2 (fun _ a b => some (.bool (ieqR a b))) (abin .eql x y) x y
theorem eqlR_eq (x y : AVal) : eqlR x y = apure [] (.bin .eql (.c x) (.c y)) := bin2_eq (by simp) (by simp) (fun k a b => (intBinR_eq .eql k a b) ▸ rfl) x y
def neqR (x y : AVal) : Option AVal := bin2 (fun _ a b => some (.bool (bsel (ieqR a b) false true))) (abin .neq x y) x y
theorem neqR_eq (x y : AVal) : neqR x y = apure [] (.bin .neq (.c x) (.c y)) := bin2_eq (by simp) (by simp) (fun k a b => (intBinR_eq .neq k a b) ▸ rfl) x y
def lssR (x y : AVal) : Option AVal := bin2 (fun _ a b => some (.bool (iltR a b))) (abin .lss x y) x y
theorem lssR_eq (x y : AVal) : lssR x y = apure [] (.bin .lss (.c x) (.c y)) := bin2_eq (by simp) (by simp) (fun k a b => (intBinR_eq .lss k a b) ▸ rfl) x y
def leqR (x y : AVal) : Option AVal := bin2 (fun _ a b => some (.bool (ileR a b))) (abin .leq x y) x y
theorem leqR_eq (x y : AVal) : leqR x y = apure [] (.bin .leq (.c x) (.c y)) := bin2_eq (by simp) (by simp) (fun k a b => (intBinR_eq .leq k a b) ▸ rfl) x y
def gtrR (x y : AVal) : Option AVal := bin2 (fun _ a b => some (.bool (iltR b a))) (abin .gtr x y) x y
theorem gtrR_eq (x y : AVal) : gtrR x y = apure [] (.bin .gtr (.c x) (.c y)) := bin2_eq (by simp) (by simp) (fun k a b => (intBinR_eq .gtr k a b) ▸ rfl) x y
def geqR (x y : AVal) : Option AVal := bin2 (fun _ a b => some (.bool (ileR b a))) (abin .geq x y) x y
theorem geqR_eq (x y : AVal) : geqR x y = apure [] (.bin .geq (.c x) (.c y)) := bin2_eq (by simp) (by simp) (fun k a b => (intBinR_eq .geq k a b) ▸ rfl) x y
/-- Operations whose operands are all values. -/
def pureR (op : XOp) : Option AVal :=
  match op with
  | .mov (.c x) => some x
  | .bin .add (.c x) (.c y) => addR x y
  | .bin .sub (.c x) (.c y) => subR x y
  | .bin .mul (.c x) (.c y) => mulR x y
  | .bin .eql (.c x) (.c y) => eqlR x y
  | .bin .neq (.c x) (.c y) => neqR x y
  | .bin .lss (.c x) (.c y) => lssR x y
  | .bin .leq (.c x) (.c y) => leqR x y
  | .bin .gtr (.c x) (.c y) => gtrR x y
  | .bin .geq (.c x) (.c y) => geqR x y
  | .bin o (.c x) (.c y) => abinR o x y
  | .idxs esz (.c x) (.c i) => idxsR esz x i
  | .idxa n esz (.c x) (.c i) => idxaR n esz x i
  | .fadr off (.c x) => fadrR off x
  | .cvi k (.c x) => cviR k x
  | .blen (.c x) => blenR x
  | .idx n esz ag (.c x) (.c i) => idxR n esz ag x i
  | .pick (.c c) (.c a) (.c b) => pickR c a b
  | .ext i (.c x) => extR i x
  | .un .not (.c x) => notR x
  | .nilc (.c x) => nilcR x
  | op => apure [] op
theorem pureR_eq (op : XOp) : pureR op = apure [] op := by
  unfold pureR
  split
  · rfl
  · exact addR_eq ..
  · exact subR_eq ..
  · exact mulR_eq ..
  · exact eqlR_eq ..
  · exact neqR_eq ..
  · exact lssR_eq ..
  · exact leqR_eq ..
  · exact gtrR_eq ..
  · exact geqR_eq ..
  · exact abinR_eq ..
  · exact idxsR_eq ..
  · exact idxaR_eq ..
  · exact fadrR_eq ..
  · exact cviR_eq ..
  · exact blenR_eq ..
  · exact idxR_eq ..
  · exact pickR_eq ..
  · exact extR_eq ..
  · exact notR_eq ..
  · exact nilcR_eq ..
  · rfl
def readR (A : AH) (op : XOp) : Option AVal :=
  match op with
  | .load1 (.c x) => load1R A x
  | .loadN n (.c x) => loadNR n A x
  | op => aread [] A op
theorem readR_eq (A : AH) (op : XOp) : readR A op = aread [] A op := by
  unfold readR
  split
  · exact load1R_eq ..
  · exact loadNR_eq ..
  · rfl
def chainR (A : AH) (op : XOp) : Option (AVal × AH) :=
  match op with
  | .store1 (.c x) (.c v) => store1R A x v
  | .storeN n (.c x) (.c v) => storeNR n A x v
  | op => achain [] A op
theorem chainR_eq (A : AH) (op : XOp) : chainR A op = achain [] A op := by
  unfold chainR
  split
  · exact store1R_eq ..
  · exact storeNR_eq ..
  · rfl

end
end Ab
