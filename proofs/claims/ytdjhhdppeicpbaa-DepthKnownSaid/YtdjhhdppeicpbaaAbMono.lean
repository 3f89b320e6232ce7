/- The executor is monotone in what it calls; functions with deferred calls in the table. -/
import Derived.Test.YtdjhhdppeicpbaaAbFast9
namespace Ab
open Go

section
variable {call cal0 : FuncId → List AVal → AH → Res}

theorem xops_mono (hle : Le0 call cal0) (all : List XOper) : ∀ (ops : List XOper) (T : List AVal) (D : List ADef) (A : AH), xops call all ops T D A ≠ .stuck → xops cal0 all ops T D A = xops call all ops T D A := by
  intro ops
  induction ops with
  | nil => intro T D A _; simp only [xops]
  | cons o rest ih =>
    intro T D A hne
    unfold xops at hne ⊢
    split
    · rfl
    · rename_i hw
      simp only [hw] at hne
      exact ih _ _ _ hne
    · rename_i hw
      simp only [hw] at hne
      by_cases h1 : isPure o.op = true
      · simp only [h1, if_true] at hne ⊢
        split
        · rename_i v hv; simp only [hv] at hne; exact ih _ _ _ hne
        · rfl
      · simp only [h1, if_false, Bool.false_eq_true] at hne ⊢
        by_cases h2 : isRead o.op = true
        · simp only [h2, if_true] at hne ⊢
          split
          · rename_i v hv; simp only [hv] at hne; exact ih _ _ _ hne
          · rfl
        · simp only [h2, if_false, Bool.false_eq_true] at hne ⊢
          by_cases h3 : isFree o.op = true
          · simp only [h3, if_true] at hne ⊢
            split
            · rename_i x k hv; simp only [hv] at hne; exact ih _ _ _ hne
            · rfl
          · simp only [h3, if_false, Bool.false_eq_true] at hne ⊢
            by_cases h4 : isCall o.op = true
            · simp only [h4, if_true] at hne ⊢
              split
              · rfl
              · rename_i f args hv
                simp only [hv] at hne
                cases hr : call f args A with
                | stuck => rw [hr] at hne; exact absurd rfl hne
                | ret v A' =>
                  rw [hle f args A (by rw [hr]; simp), hr]
                  rw [hr] at hne
                  exact ih _ _ _ hne
                | pan v A' => rw [hle f args A (by rw [hr]; simp), hr]
            · simp only [h4, if_false, Bool.false_eq_true] at hne ⊢
              cases hop : o.op with
              | defer x as =>
                simp only [hop] at hne ⊢
                split
                · rename_i f caps hj
                  simp only [hj] at hne
                  exact ih _ _ _ hne
                · rfl
              | panic x => rfl
              | _ =>
                simp only [hop] at hne ⊢
                split
                · rename_i v A' hv
                  simp only [hv] at hne
                  exact ih _ _ _ hne
                · rfl

theorem dstep_mono (hle : Le0 call cal0) {id : Nat} {o : XOper} {s : DSt} (hne : dstep call id o s ≠ .stuck) : dstep cal0 id o s = dstep call id o s := by
  unfold dstep at hne ⊢
  cases hw : wants s.T o.guard with
  | none => rfl
  | some b =>
    cases b with
    | false => rfl
    | true =>
      simp only [hw] at hne ⊢
      by_cases h1 : isPure o.op = true
      · simp only [h1, if_true]
      · simp only [h1, if_false, Bool.false_eq_true] at hne ⊢
        by_cases h2 : isRead o.op = true
        · simp only [h2, if_true]
        · simp only [h2, if_false, Bool.false_eq_true] at hne ⊢
          by_cases h3 : isFree o.op = true
          · simp only [h3, if_true]
          · simp only [h3, if_false, Bool.false_eq_true] at hne ⊢
            by_cases h4 : isCall o.op = true
            · simp only [h4, if_true] at hne ⊢
              cases hv : acallee s.T s.A o.op with
              | none => rfl
              | some p =>
                obtain ⟨f, args⟩ := p
                simp only [hv] at hne ⊢
                cases hr : call f args s.A with
                | stuck => rw [hr] at hne; exact absurd rfl hne
                | ret v A' => rw [hle f args s.A (by rw [hr]; simp), hr]
                | pan v A' => rw [hle f args s.A (by rw [hr]; simp), hr]
            · simp only [h4, if_false, Bool.false_eq_true]

theorem drun_mono (hle : Le0 call cal0) (base : Nat) : ∀ (ops : List XOper) (i : Nat) (s : DSt), drun call base i ops s ≠ .stuck → drun cal0 base i ops s = drun call base i ops s := by
  intro ops
  induction ops with
  | nil => intro i s _; simp only [drun]
  | cons o rest ih =>
    intro i s hne
    simp only [drun] at hne ⊢
    cases hd : dstep call (base + i) o s with
    | stuck => rw [hd] at hne; exact absurd rfl hne
    | ok s' =>
      rw [dstep_mono hle (by rw [hd]; simp), hd]
      rw [hd] at hne
      exact ih _ _ hne
    | pan v s' A' => rw [dstep_mono hle (by rw [hd]; simp), hd]

theorem xdraw_mono (hle : Le0 call cal0) {ops : List XOper} {chk : List (Nat × Nat × Nat)} {np : List Nat} {T : List AVal} {D : List ADef} {A : AH} (hne : xdraw call ops chk np T D A ≠ .stuck) : xdraw cal0 ops chk np T D A = xdraw call ops chk np T D A := by
  unfold xdraw at hne ⊢
  rw [drun_mono hle]
  intro h
  rw [h] at hne
  exact absurd rfl hne

theorem xcode_mono (hle : Le0 call cal0) (lp : Nat) : ∀ (x : XCode) (T : List AVal) (D : List ADef) (A : AH), xcode call lp x T D A ≠ .stuck → xcode cal0 lp x T D A = xcode call lp x T D A := by
  intro x
  induction x with
  | skip => intro T D A _; rfl
  | region ops => intro T D A hne; simp only [xcode] at hne ⊢; exact xops_mono hle ops ops T D A hne
  | draw ops chk np => intro T D A hne; simp only [xcode] at hne ⊢; exact xdraw_mono hle hne
  | seq a b iha ihb =>
    intro T D A hne
    simp only [xcode] at hne ⊢
    cases ho : xcode call lp a T D A with
    | stuck => rw [ho] at hne; exact absurd rfl hne
    | norm T' D' A' =>
      rw [iha T D A (by rw [ho]; simp), ho]
      rw [ho] at hne
      exact ihb _ _ _ hne
    | exit id T' D' A' => rw [iha T D A (by rw [ho]; simp), ho]
    | ret T' D' A' => rw [iha T D A (by rw [ho]; simp), ho]
    | pan v T' D' A' => rw [iha T D A (by rw [ho]; simp), ho]
  | cond c a b iha ihb =>
    intro T D A hne
    simp only [xcode] at hne ⊢
    split
    · rename_i h; simp only [h] at hne; exact iha _ _ _ hne
    · rename_i h; simp only [h] at hne; exact ihb _ _ _ hne
    · rfl
  | block id a iha =>
    intro T D A hne
    simp only [xcode] at hne ⊢
    rw [iha T D A]
    intro h
    rw [h] at hne
    exact absurd rfl hne
  | loop a iha =>
    intro T D A hne
    simp only [xcode] at hne ⊢
    have key : ∀ n T D A, xloop (xcode call lp a) n T D A ≠ .stuck → xloop (xcode cal0 lp a) n T D A = xloop (xcode call lp a) n T D A := by
      intro n
      induction n with
      | zero => intro T D A hne; exact absurd rfl hne
      | succ n ih =>
        intro T D A hne
        unfold xloop at hne ⊢
        cases ho : xcode call lp a T D A with
        | stuck => rw [ho] at hne; exact absurd rfl hne
        | norm T' D' A' =>
          rw [iha T D A (by rw [ho]; simp), ho]
          rw [ho] at hne
          exact ih _ _ _ hne
        | exit id T' D' A' => rw [iha T D A (by rw [ho]; simp), ho]
        | ret T' D' A' => rw [iha T D A (by rw [ho]; simp), ho]
        | pan v T' D' A' => rw [iha T D A (by rw [ho]; simp), ho]
    exact key lp T D A hne
  | exit id => intro T D A _; rfl
  | ret => intro T D A _; rfl

theorem xcodeS_mono (hle : Le0 call cal0) (lp : Nat) : ∀ (x : XCode) (T : List AVal) (m : Option AVal) (r : Bool) (A : AH), xcodeS call lp x T m r A ≠ .stuck → xcodeS cal0 lp x T m r A = xcodeS call lp x T m r A := by
  intro x
  have plain : ∀ (x : XCode) (T : List AVal) (r : Bool) (A : AH), (match xcode call lp x T [] A with
      | .norm T [] A => OutS.norm T r A
      | .ret T [] A => OutS.ret T r A
      | _ => OutS.stuck) ≠ .stuck → xcode cal0 lp x T [] A = xcode call lp x T [] A := by
    intro x T r A hne
    refine xcode_mono hle lp x T [] A fun h => ?_
    rw [h] at hne
    exact hne rfl
  induction x with
  | seq a b iha ihb =>
    intro T m r A hne
    simp only [xcodeS] at hne ⊢
    cases ho : xcodeS call lp a T m r A with
    | stuck => rw [ho] at hne; exact absurd rfl hne
    | norm T' r' A' =>
      rw [iha T m r A (by rw [ho]; simp), ho]
      rw [ho] at hne
      exact ihb _ _ _ _ hne
    | ret T' r' A' => rw [iha T m r A (by rw [ho]; simp), ho]
  | region ops =>
    intro T m r A hne
    simp only [xcodeS] at hne ⊢
    by_cases hr : hasRecover (.region ops) = true
    · simp only [hr, if_true]
    · simp only [hr, if_false, Bool.false_eq_true] at hne ⊢
      rw [plain _ T r A hne]
  | _ =>
    intro T m r A hne
    simp only [xcodeS] at hne ⊢
    rw [plain _ T r A hne]

theorem leave_mono (hle : Le0 call cal0) (E : XEnv) (lp : Nat) (xf : XFunc) (T : List AVal) : ∀ (D : List ADef) (m : Option AVal) (A : AH), leave E call lp xf T D m A ≠ .stuck → leave E cal0 lp xf T D m A = leave E call lp xf T D m A := by
  intro D
  induction D with
  | nil => intro m A _; cases m <;> rfl
  | cons d D ih =>
    intro m A hne
    simp only [leave] at hne ⊢
    have hd : dcall E cal0 lp d m A = dcall E call lp d m A := by
      unfold dcall at hne ⊢
      cases hf : E.fn d.f with
      | none => rfl
      | some xg =>
        simp only [hf] at hne ⊢
        by_cases he : xg.results.isEmpty = true
        · simp only [he, if_true] at hne ⊢
          rw [xcodeS_mono hle]
          intro h
          rw [h] at hne
          exact absurd rfl hne
        · simp only [he, if_false, Bool.false_eq_true]
    rw [hd]
    cases hc : dcall E call lp d m A with
    | none => rfl
    | some p =>
      obtain ⟨m', A'⟩ := p
      rw [hc] at hne
      exact ih _ _ hne

/-- A function of the table that is run as it stands (with deferred calls). -/
def deepK (E : XEnv) (xf : XFunc) (call : FuncId → List AVal → AH → Res) (n : Nat) (as : List AVal) (A : AH) : Res :=
  match xcode call n xf.body (slots xf as) [] A with
  | .norm T D A => leave E call n xf T D none A
  | .ret T D A => leave E call n xf T D none A
  | .pan v T D A => leave E call n xf T D (some v) A
  | _ => .stuck

theorem deepK_ok {E : XEnv} {n f : Nat} {call : FuncId → List AVal → AH → Res} (hle : Le0 call (acall E n)) {xf : XFunc} {as : List AVal} {A : AH} (hp : E.prim f = none) (hf : E.fn f = some xf) (hne : deepK E xf call n as A ≠ .stuck) :
    acall E (n + 1) f as A = deepK E xf call n as A := by
  conv => lhs; unfold acall
  simp only [hp, hf]
  unfold deepK at hne ⊢
  cases ho : xcode call n xf.body (slots xf as) [] A with
  | stuck => rw [ho] at hne; exact absurd rfl hne
  | exit id T D A' => rw [ho] at hne; exact absurd rfl hne
  | norm T D A' =>
    rw [xcode_mono hle _ _ _ _ _ (by rw [ho]; simp), ho]
    rw [ho] at hne
    exact leave_mono hle E n xf T D none A' hne
  | ret T D A' =>
    rw [xcode_mono hle _ _ _ _ _ (by rw [ho]; simp), ho]
    rw [ho] at hne
    exact leave_mono hle E n xf T D none A' hne
  | pan v T D A' =>
    rw [xcode_mono hle _ _ _ _ _ (by rw [ho]; simp), ho]
    rw [ho] at hne
    exact leave_mono hle E n xf T D (some v) A' hne

end
end Ab
