/- The second executor: continuations, slots as a short list of what lives. One operation, and regions. -/
import Derived.Test.YtdjhhdppeicpbaaAbFast4
namespace Ab
open Go
noncomputable section

abbrev Env := List (Nat × AVal)
def lookE (env : Env) (i : Nat) : Option AVal := List.rec none (fun p _ ih => Bool.rec ih (some p.2) (Nat.beq p.1 i)) env
def hasE (env : Env) (is : List Nat) : Bool := List.rec true (fun i _ ih => optC (lookE env i) (fun _ => ih) false) is
def sOf (env : Env) (i : Nat) : AVal := optC (lookE env i) (fun v => v) .junk
def putE (d : Option Nat) (v : AVal) (env : Env) : Env := optC d (fun d => (d, v) :: env) env
def putK (d : Option Nat) (v : AVal) (env : Env) (k : Env → Res) : Res := optC d (fun d => k ((d, v) :: env)) (k env)
theorem putK_eq (d : Option Nat) (v : AVal) (env : Env) (k : Env → Res) : putK d v env k = k (putE d v env) := by cases d <;> rfl
/-- The list, laid out. -/
def forceE (env : Env) (k : Env → Res) : Res := List.rec (motive := fun _ => (Env → Res) → Res) (fun k => k []) (fun p _ ih k => ih fun e => k (p :: e)) env k
theorem forceE_eq : ∀ (env : Env) (k : Env → Res), forceE env k = k env
  | [], _ => rfl
  | p :: env, k => forceE_eq env fun e => k (p :: e)
def okDst (N : Nat) (d : Option Nat) : Bool := optC d (fun d => Nat.ble (Nat.succ d) N) true

/-- Values, worked out ahead of what follows. -/
def forceN (n : Nat) (k : Nat → Res) : Res := Nat.casesOn n (k 0) fun m => k (Nat.succ m)
def forceI (a : Int) (k : Int → Res) : Res := Int.casesOn a (fun m => forceN m fun m => k (Int.ofNat m)) (fun m => forceN m fun m => k (Int.negSucc m))
def forceV (v : AVal) (k : AVal → Res) : Res := AVal.casesOn v (k .junk) (fun b => Bool.casesOn b (k (.bool false)) (k (.bool true))) (fun kd a => forceI a fun a => k (.int kd a)) (fun kd b => k (.float kd b)) (fun kd => k (.nan kd)) (fun s => k (.str s)) (k .nilptr)
  (fun b o => forceN b fun b => forceN o fun o => k (.ptr b o)) (k .nilslice) (fun b o l c x => forceN b fun b => forceN o fun o => forceN l fun l => forceN c fun c => k (.slice b o l c x)) (k .nilmap) (fun b => forceN b fun b => k (.map b)) (fun f cs => k (.func f cs)) (k .nilFunc) (fun t v => k (.iface t v)) (k .nilIface) (fun cs => k (.agg cs)) (fun cs => k (.tuple cs))
theorem forceN_eq (n : Nat) (k : Nat → Res) : forceN n k = k n := by cases n <;> rfl
theorem forceI_eq (a : Int) (k : Int → Res) : forceI a k = k a := by
  cases a with
  | ofNat m => exact forceN_eq m fun m => k (Int.ofNat m)
  | negSucc m => exact forceN_eq m fun m => k (Int.negSucc m)
theorem forceV_eq (v : AVal) (k : AVal → Res) : forceV v k = k v := by
  cases v with
  | bool b => cases b <;> rfl
  | int kd a => exact forceI_eq a fun a => k (.int kd a)
  | ptr b o => show forceN b (fun b => forceN o fun o => k (.ptr b o)) = _; rw [forceN_eq, forceN_eq]
  | slice b o l c x => show forceN b (fun b => forceN o fun o => forceN l fun l => forceN c fun c => k (.slice b o l c x)) = _; rw [forceN_eq, forceN_eq, forceN_eq, forceN_eq]
  | map b => exact forceN_eq b fun b => k (.map b)
  | _ => rfl
def bindO (x : Option AVal) (k : AVal → Res) : Res := Option.rec .stuck (fun v => forceV v k) x
theorem bindO_val (v : AVal) (k : AVal → Res) : bindO (some v) k = k v := forceV_eq v k
def bindF (x : Option (ABlk × (Nat → AVal))) (k : ABlk → (Nat → AVal) → Res) : Res := Option.rec .stuck (fun p => k p.1 p.2) x
def bindC (x : Option (FuncId × List AVal)) (k : FuncId → List AVal → Res) : Res := Option.rec .stuck (fun p => k p.1 p.2) x
def bindP (x : Option (AVal × AH)) (k : AVal → AH → Res) : Res := Option.rec .stuck (fun p => k p.1 p.2) x
def bindR (r : Res) (k kp : AVal → AH → Res) : Res := Res.rec .stuck k kp r
def HT : Nat → Type
  | 0 => Res
  | m + 1 => AH → HT m
/-- Functions of n values and m memories. -/
def JT (m : Nat) : Nat → Type
  | 0 => HT m
  | n + 1 => AVal → JT m n
def joinV {β : Type} (f : β) (g : β → Res) : Res := g f
def wantK (gv : AVal) (b : Bool) (x y : Res) : Res :=
  match gv with
  | .bool c => bsel (c == b) x y
  | .tuple [] => y
  | _ => .stuck
def panK (pv : AVal) (A : AH) : Res :=
  match pv with
  | .iface t v => .pan (.iface t v) A
  | _ => .stuck
def tailK (A : AH) (op : XOp) (kc : AVal → AH → Res) (kt : AVal → Res) : Res :=
  match op with
  | .defer _ _ => .stuck
  | .panic (.c pv) => kt pv
  | .panic (.t _) => .stuck
  | op => bindP (chainR A op) kc

/-- What only needs its operands. -/
def pureK (op : XOp) (kv : AVal → Res) : Res :=
  match op with
  | .mov (.c x) => kv x
  | op => bindO (pureR op) kv
theorem pureK_eq (op : XOp) (kv : AVal → Res) : pureK op kv = bindO (pureR op) kv := by
  unfold pureK
  split
  · exact (bindO_val _ kv).symm
  · rfl

def runG (call : FuncId → List AVal → AH → Res) (op : XOp) (A : AH) (kv : AVal → Res) (kf : ABlk → (Nat → AVal) → Res) (kc kp : AVal → AH → Res) (kt : AVal → Res) : Res :=
  bsel (isPure op) (pureK op kv) (bsel (isRead op) (bindO (readR A op) kv) (bsel (isFree op) (bindF (afree [] op) kf) (bsel (isCall op) (bindC (acallee [] A op) fun f args => bindR (call f args A) kc kp) (tailK A op kc kt))))

theorem tailK_other {A : AH} {op : XOp} {kc : AVal → AH → Res} {kt : AVal → Res} (h1 : ∀ x as, op ≠ .defer x as) (h2 : ∀ x, op ≠ .panic x) : tailK A op kc kt = bindP (chainR A op) kc := by
  unfold tailK
  split
  · exact absurd rfl (h1 _ _)
  · exact absurd rfl (h2 _)
  · exact absurd rfl (h2 _)
  · rfl

/-- Where one answers at all, the other answers so too. -/
def Le0 (call cal0 : FuncId → List AVal → AH → Res) : Prop := ∀ f as A, call f as A ≠ .stuck → cal0 f as A = call f as A

structure EnvRel (N : Nat) (env : Env) (T : List AVal) : Prop where
  look : ∀ i v, lookE env i = some v → T.getD i .junk = v
  len : N ≤ T.length

theorem hasE_sOf {N : Nat} {env : Env} {T : List AVal} (h : EnvRel N env T) : ∀ {is : List Nat}, hasE env is = true → ∀ i, i ∈ is → lookE env i = some (T.getD i .junk)
  | [], _, i, hi => by cases hi
  | j :: is, hh, i, hi => by
    have hh' : optC (lookE env j) (fun _ => hasE env is) false = true := hh
    cases hj : lookE env j with
    | none => rw [hj] at hh'; cases hh'
    | some v =>
      rw [hj] at hh'
      rcases List.mem_cons.1 hi with rfl | hi
      · rw [hj, h.look i v hj]
      · exact hasE_sOf h hh' i hi

theorem agrees_of {N : Nat} {env : Env} {T : List AVal} (h : EnvRel N env T) {is : List Nat} (hh : hasE env is = true) : Agrees (sOf env) T is := by
  intro i hi
  have := hasE_sOf h hh i hi
  unfold sOf
  rw [this]; rfl

theorem EnvRel.put {N : Nat} {env : Env} {T : List AVal} (h : EnvRel N env T) {d : Option Nat} (hd : okDst N d = true) (v : AVal) : EnvRel N (putE d v env) (put T d v) := by
  refine ⟨fun i u hu => ?_, by rw [put_length]; exact h.len⟩
  rw [put_getD]
  cases d with
  | none => simp only [false_and, if_false, reduceCtorEq]; exact h.look i u hu
  | some d =>
    have hd' : Nat.ble (Nat.succ d) N = true := hd
    rw [ble_iff] at hd'
    have hl := h.len
    have hu' : (Bool.rec (lookE env i) (some v) (Nat.beq d i) : Option AVal) = some u := hu
    by_cases hdi : d = i
    · subst hdi
      rw [beq_true rfl] at hu'
      have : some v = some u := hu'
      cases this
      rw [if_pos ⟨rfl, by omega⟩]
    · rw [beq_false hdi] at hu'
      rw [if_neg (by rintro ⟨h1, _⟩; cases h1; exact hdi rfl)]
      exact h.look i u hu'

section
variable {call cal0 : FuncId → List AVal → AH → Res} {N : Nat} {env : Env} {T : List AVal} {A : AH} {o : XOper} 

theorem wants_of (h : EnvRel N env T) {o : XOper} (hh : hasE env (operReads o) = true) {g : Nat} {b : Bool} (hg : o.guard = some (g, b)) {x y : Res} (hne : wantK (sOf env g) b x y ≠ .stuck) :
    (wants T o.guard = some true ∧ wantK (sOf env g) b x y = x) ∨ (wants T o.guard = some false ∧ wantK (sOf env g) b x y = y) := by
  have hs : sOf env g = T.getD g .junk := agrees_of h hh g (by simp [operReads, hg])
  rw [hg]
  simp only [wants]
  rw [hs] at hne ⊢
  unfold wantK at hne ⊢
  split at hne
  · rename_i c hc
    rw [hc, bsel_eq]
    by_cases hcb : (c == b) = true
    · left; rw [if_pos hcb]; exact ⟨by simp [hcb], rfl⟩
    · right; rw [if_neg hcb]; exact ⟨by simpa using hcb, rfl⟩
  · rename_i hc
    rw [hc]
    exact .inr ⟨rfl, rfl⟩
  · exact absurd rfl hne

theorem bsel_stuck {b : Bool} {x : Res} (h : bsel b x .stuck ≠ .stuck) : b = true := by
  cases b with
  | true => rfl
  | false => exact absurd rfl h

/-- A run of an operation that is wanted, as 'xops' has it. -/
theorem runG_ok (hle : Le0 call cal0) (h : EnvRel N env T) (hh : hasE env (operReads o) = true) {kv : AVal → Res} {kf : ABlk → (Nat → AVal) → Res} {kc : AVal → AH → Res} {kp : AVal → AH → Res} {kt : AVal → Res}
    (hne : runG call (o.op.sub (sOf env)) A kv kf kc kp kt ≠ .stuck) :
    (∃ v, runG call (o.op.sub (sOf env)) A kv kf kc kp kt = kv v ∧ ((isPure o.op = true ∧ apure T o.op = some v) ∨ (isPure o.op = false ∧ isRead o.op = true ∧ aread T A o.op = some v))) ∨
    (∃ x f, runG call (o.op.sub (sOf env)) A kv kf kc kp kt = kf x f ∧ isPure o.op = false ∧ isRead o.op = false ∧ isFree o.op = true ∧ afree T o.op = some (x, f)) ∨
    (isPure o.op = false ∧ isRead o.op = false ∧ isFree o.op = false ∧
      ((isCall o.op = true ∧ ∃ f args, acallee T A o.op = some (f, args) ∧ ((∃ v A', cal0 f args A = .ret v A' ∧ runG call (o.op.sub (sOf env)) A kv kf kc kp kt = kc v A') ∨ (∃ v A', cal0 f args A = .pan v A' ∧ runG call (o.op.sub (sOf env)) A kv kf kc kp kt = kp v A'))) ∨
       (isCall o.op = false ∧ ((∃ x, o.op = .panic x ∧ runG call (o.op.sub (sOf env)) A kv kf kc kp kt = kt (ev T x)) ∨ ((∀ x, o.op ≠ .panic x) ∧ (∀ x as, o.op ≠ .defer x as) ∧ ∃ v A', achain T A o.op = some (v, A') ∧ runG call (o.op.sub (sOf env)) A kv kf kc kp kt = kc v A'))))) := by
  have ha : Agrees (sOf env) T (opReads o.op) := (agrees_of h hh).left
  unfold runG at hne ⊢
  rw [pureK_eq, isPure_sub, isRead_sub, isFree_sub, isCall_sub, pureR_eq, readR_eq, apure_sub ha, aread_sub ha, afree_sub ha, acallee_sub ha] at hne ⊢
  cases hp : isPure o.op with
  | true =>
    simp only [hp] at hne ⊢
    left
    cases hv : apure T o.op with
    | none => rw [hv] at hne; exact absurd rfl hne
    | some v => exact ⟨v, bindO_val v kv, .inl ⟨by trivial, by trivial⟩⟩
  | false =>
    simp only [hp] at hne ⊢
    cases hr : isRead o.op with
    | true =>
      simp only [hr] at hne ⊢
      left
      cases hv : aread T A o.op with
      | none => rw [hv] at hne; exact absurd rfl hne
      | some v => exact ⟨v, bindO_val v kv, .inr ⟨by trivial, by trivial, by trivial⟩⟩
    | false =>
      simp only [hr] at hne ⊢
      right
      cases hf : isFree o.op with
      | true =>
        simp only [hf] at hne ⊢
        left
        cases hv : afree T o.op with
        | none => rw [hv] at hne; exact absurd rfl hne
        | some p => exact ⟨p.1, p.2, rfl, by trivial, by trivial, by trivial, by trivial⟩
      | false =>
        simp only [hf] at hne ⊢
        right
        refine ⟨by trivial, by trivial, by trivial, ?_⟩
        cases hc : isCall o.op with
        | true =>
          simp only [hc] at hne ⊢
          left
          refine ⟨by trivial, ?_⟩
          cases hv : acallee T A o.op with
          | none => rw [hv] at hne; exact absurd rfl hne
          | some p =>
            rw [hv] at hne
            refine ⟨p.1, p.2, rfl, ?_⟩
            have hne' : bindR (call p.1 p.2 A) kc kp ≠ .stuck := hne
            show (∃ v A', cal0 p.1 p.2 A = .ret v A' ∧ bindR (call p.1 p.2 A) kc kp = kc v A') ∨ ∃ v A', cal0 p.1 p.2 A = .pan v A' ∧ bindR (call p.1 p.2 A) kc kp = kp v A'
            cases hres : call p.1 p.2 A with
            | stuck => rw [hres] at hne'; exact absurd rfl hne'
            | ret v A' => exact .inl ⟨v, A', (hle _ _ _ (by rw [hres]; simp)).trans hres, rfl⟩
            | pan v A' => exact .inr ⟨v, A', (hle _ _ _ (by rw [hres]; simp)).trans hres, rfl⟩
        | false =>
          simp only [hc] at hne ⊢
          right
          refine ⟨by trivial, ?_⟩
          have hne' : tailK A (o.op.sub (sOf env)) kc kt ≠ .stuck := hne
          show (∃ x, o.op = .panic x ∧ tailK A (o.op.sub (sOf env)) kc kt = kt (ev T x)) ∨ ((∀ x, o.op ≠ .panic x) ∧ (∀ x as, o.op ≠ .defer x as) ∧ ∃ v A', achain T A o.op = some (v, A') ∧ tailK A (o.op.sub (sOf env)) kc kt = kc v A')
          cases hop : o.op with
          | panic x =>
            left
            refine ⟨x, rfl, ?_⟩
            rw [hop] at ha
            have := ev_sub (x := x) ha
            cases x with
            | t i => show kt (sOf env i) = _; rw [← this]; rfl
            | c v => show kt v = _; rw [← this]; rfl
          | defer x as => rw [hop] at hne'; exact absurd rfl hne'
          | _ =>
            right
            refine ⟨fun x => by simp, fun x as => by simp, ?_⟩
            rw [hop] at hne' ha
            rw [tailK_other (by simp [XOp.sub]) (by simp [XOp.sub]), chainR_eq, achain_sub ha] at hne' ⊢
            generalize hv : achain T A _ = pv at hne' ⊢
            cases pv with
            | none => exact absurd rfl hne'
            | some p => exact ⟨p.1, p.2, rfl, rfl⟩

end
end
end Ab
