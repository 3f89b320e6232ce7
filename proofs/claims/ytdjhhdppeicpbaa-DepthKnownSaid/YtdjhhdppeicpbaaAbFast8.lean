/- The second executor: codes and functions. -/
import Derived.Test.YtdjhhdppeicpbaaAbFast7
namespace Ab
open Go

/-- Codes with the slots that live where roads meet. -/
inductive YCode where
  | skip
  | region (gs : List Grp)
  | draw (gs : List Grp) (chk : List (Nat × Nat × Nat)) (np : List Nat)
  | seq (a b : YCode)
  | cond (c : XOpd) (ls : List Nat) (a b : YCode)
  | block (id : Nat) (ls : List Nat) (a : YCode)
  | loop (ls : List Nat) (a : YCode)
  | exit (id : Nat)
  | ret
  | cut (ls : List Nat) (a : YCode)

def YCode.er : YCode → XCode
  | .skip => .skip
  | .region gs => .region (gs.flatMap Grp.ops)
  | .draw gs chk np => .draw (gs.flatMap Grp.ops) chk np
  | .seq a b => .seq a.er b.er
  | .cond c _ a b => .cond c a.er b.er
  | .block id _ a => .block id a.er
  | .loop _ a => .loop a.er
  | .exit id => .exit id
  | .ret => .ret
  | .cut _ a => a.er

noncomputable section

def opdE (env : Env) (x : XOpd) : Option AVal :=
  match x with
  | .t i => lookE env i
  | .c v => some v
def boolK (v : Option AVal) (x y : Res) : Res := optC v (fun v => boolC v (fun b => bsel b x y) .stuck) .stuck
def stuckJ (ls : List Nat) : JT 1 (lenL ls) := List.rec (motive := fun ls => JT 1 (lenL ls)) (fun (_ : AH) => Res.stuck) (fun _ _ ih => fun (_ : AVal) => ih) ls
def loopK {β : Type} (z : β) (n : Nat) (f : β → β) : β := Nat.rec z (fun _ ih => f ih) n
def upE (ex : Nat → Env → AH → Res) (id : Nat) (k : Env → AH → Res) (i : Nat) : Env → AH → Res := Bool.rec (ex i) k (Nat.beq i id)

def comp (call : FuncId → List AVal → AH → Res) (lp N : Nat) : YCode → (Nat → Env → AH → Res) → (Env → AH → Res) → (Env → AH → Res) → Env → AH → Res
  | .skip, _, _, kn, env, A => kn env A
  | .region gs, _, _, kn, env, A => opsGK call N gs kn env A
  | .draw gs chk np, _, _, kn, env, A => drawK call N gs chk np kn env A
  | .seq a b, ex, kr, kn, env, A => comp call lp N a ex kr (fun env A => comp call lp N b ex kr kn env A) env A
  | .cond c ls a b, ex, kr, kn, env, A => joinV (curV 1 ls [] kn) fun j => boolK (opdE env c) (comp call lp N a ex kr (toJ ls j) env A) (comp call lp N b ex kr (toJ ls j) env A)
  | .block id ls a, ex, kr, kn, env, A => joinV (curV 1 ls [] kn) fun j => comp call lp N a (upE ex id (toJ ls j)) kr (toJ ls j) env A
  | .loop ls a, ex, kr, _, env, A => toJ ls (loopK (stuckJ ls) lp fun next => curV 1 ls [] fun e A => comp call lp N a ex kr (toJ ls next) e A) env A
  | .exit id, ex, _, _, env, A => ex id env A
  | .ret, _, kr, _, env, A => kr env A
  | .cut ls a, ex, kr, kn, env, A => joinV (curV 1 ls [] fun e A => comp call lp N a ex kr kn e A) fun j => toJ ls j env A

section
variable {call cal0 : FuncId → List AVal → AH → Res} {lp N : Nat} {env : Env} {T : List AVal} {A : AH}

def Post (N : Nat) (out : Out) (r : Res) (ex : Nat → Env → AH → Res) (kr kn : Env → AH → Res) : Prop :=
  match out with
  | .stuck => False
  | .norm T' D' A' => D' = [] ∧ ∃ env', EnvRel N env' T' ∧ r = kn env' A'
  | .exit id T' D' A' => D' = [] ∧ ∃ env', EnvRel N env' T' ∧ r = ex id env' A'
  | .ret T' D' A' => D' = [] ∧ ∃ env', EnvRel N env' T' ∧ r = kr env' A'
  | .pan v _ D' A' => D' = [] ∧ r = .pan v A'

theorem toJ_stuck {ls : List Nat} : toJ ls (stuckJ ls) env A = .stuck := by
  have key : ∀ ls : List Nat, appV 1 ls (stuckJ ls) env (fun h => (h : AH → Res) A) = .stuck := by
    intro ls
    induction ls with
    | nil => rfl
    | cons l ls ih =>
      show optC (lookE env l) (fun v => appV 1 ls (stuckJ ls) env fun h => (h : AH → Res) A) .stuck = .stuck
      cases lookE env l with
      | none => rfl
      | some v => exact ih
  exact key ls

theorem opd_ev (h : EnvRel N env T) {c : XOpd} {v : AVal} (hv : opdE env c = some v) : ev T c = v := by
  cases c with
  | t i => exact h.look i v hv
  | c u => cases hv; rfl

theorem boolK_ok (h : EnvRel N env T) {c : XOpd} {x y : Res} (hne : boolK (opdE env c) x y ≠ .stuck) : (ev T c = .bool true ∧ boolK (opdE env c) x y = x) ∨ (ev T c = .bool false ∧ boolK (opdE env c) x y = y) := by
  cases hv : opdE env c with
  | none => rw [hv] at hne; exact absurd rfl hne
  | some v =>
    rw [hv] at hne
    rw [opd_ev h hv]
    cases v with
    | bool b => cases b with
      | true => exact .inl ⟨rfl, rfl⟩
      | false => exact .inr ⟨rfl, rfl⟩
    | _ => exact absurd rfl hne

theorem comp_ok (hle : Le0 call cal0) : ∀ (y : YCode) (ex : Nat → Env → AH → Res) (kr kn : Env → AH → Res) (env : Env) (T : List AVal) (A : AH), EnvRel N env T → comp call lp N y ex kr kn env A ≠ .stuck →
    Post N (xcode cal0 lp y.er T [] A) (comp call lp N y ex kr kn env A) ex kr kn := by
  intro y
  induction y with
  | skip => intro ex kr kn env T A h hne; exact ⟨rfl, env, h, rfl⟩
  | region gs =>
    intro ex kr kn env T A h hne
    simp only [comp] at hne ⊢
    simp only [YCode.er, xcode]
    rcases opsGK_ok hle gs env T A h hne with ⟨env', T', A', h1, e, h2⟩ | ⟨v, A', e, h2⟩
    · rw [h2]; exact ⟨rfl, env', h1, e⟩
    · obtain ⟨T', h3⟩ := h2 (gs.flatMap Grp.ops)
      rw [h3]; exact ⟨rfl, e⟩
  | draw gs chk np =>
    intro ex kr kn env T A h hne
    simp only [comp] at hne ⊢
    simp only [YCode.er, xcode]
    rcases drawK_ok hle h hne with ⟨env', T', A', h1, e, h2⟩ | ⟨v, A', e, T', h2⟩
    · rw [h2]; exact ⟨rfl, env', h1, e⟩
    · rw [h2]; exact ⟨rfl, e⟩
  | seq a b iha ihb =>
    intro ex kr kn env T A h hne
    simp only [comp] at hne ⊢
    simp only [YCode.er, xcode]
    have h1 := iha ex kr (fun env A => comp call lp N b ex kr kn env A) env T A h hne
    generalize xcode cal0 lp a.er T [] A = out at h1 ⊢
    cases out with
    | stuck => exact h1.elim
    | norm T' D' A' =>
      obtain ⟨rfl, env', h2, e⟩ := h1
      rw [e] at hne ⊢
      exact ihb ex kr kn env' T' A' h2 hne
    | exit id T' D' A' => exact h1
    | ret T' D' A' => exact h1
    | pan v T' D' A' => exact h1
  | cond c ls a b iha ihb =>
    intro ex kr kn env T A h hne
    simp only [comp, joinV] at hne ⊢
    simp only [YCode.er, xcode]
    have join : ∀ (y : YCode), (∀ (ex : Nat → Env → AH → Res) (kr kn : Env → AH → Res) (env : Env) (T : List AVal) (A : AH), EnvRel N env T → comp call lp N y ex kr kn env A ≠ .stuck → Post N (xcode cal0 lp y.er T [] A) (comp call lp N y ex kr kn env A) ex kr kn) →
        comp call lp N y ex kr (toJ ls (curV 1 ls [] kn)) env A ≠ .stuck → Post N (xcode cal0 lp y.er T [] A) (comp call lp N y ex kr (toJ ls (curV 1 ls [] kn)) env A) ex kr kn := by
      intro y ih hne
      have h1 := ih ex kr (toJ ls (curV 1 ls [] kn)) env T A h hne
      generalize xcode cal0 lp y.er T [] A = out at h1 ⊢
      cases out with
      | norm T' D' A' =>
        obtain ⟨rfl, env', h2, e⟩ := h1
        rw [e] at hne ⊢
        exact ⟨rfl, _, EnvRel.rev h2.len ls, toJ_ok h2 hne⟩
      | stuck => exact h1
      | exit id T' D' A' => exact h1
      | ret T' D' A' => exact h1
      | pan v T' D' A' => exact h1
    rcases boolK_ok h hne with ⟨h1, e⟩ | ⟨h1, e⟩
    · rw [e] at hne ⊢
      rw [h1]
      exact join a iha hne
    · rw [e] at hne ⊢
      rw [h1]
      exact join b ihb hne
  | block id ls a iha =>
    intro ex kr kn env T A h hne
    simp only [comp, joinV] at hne ⊢
    simp only [YCode.er, xcode]
    have h1 := iha _ kr _ env T A h hne
    generalize xcode cal0 lp a.er T [] A = out at h1 ⊢
    cases out with
    | norm T' D' A' =>
      obtain ⟨rfl, env', h2, e⟩ := h1
      rw [e] at hne ⊢
      exact ⟨rfl, _, EnvRel.rev h2.len ls, toJ_ok h2 hne⟩
    | stuck => exact h1
    | exit id' T' D' A' =>
      obtain ⟨rfl, env', h2, e⟩ := h1
      simp only
      by_cases hid : id' = id
      · rw [if_pos hid]
        subst hid
        have e2 : upE ex id' (toJ ls (curV 1 ls [] kn)) id' = toJ ls (curV 1 ls [] kn) := by unfold upE; rw [beq_true rfl]
        rw [e2] at e
        rw [e] at hne ⊢
        exact ⟨rfl, _, EnvRel.rev h2.len ls, toJ_ok h2 hne⟩
      · rw [if_neg hid]
        have e2 : upE ex id (toJ ls (curV 1 ls [] kn)) id' = ex id' := by unfold upE; rw [beq_false hid]
        rw [e2] at e
        exact ⟨rfl, env', h2, e⟩
    | ret T' D' A' => exact h1
    | pan v T' D' A' => exact h1
  | loop ls a iha =>
    intro ex kr kn env T A h hne
    simp only [comp] at hne ⊢
    simp only [YCode.er, xcode]
    have key : ∀ (n : Nat) (env : Env) (T : List AVal) (A : AH), EnvRel N env T → toJ ls (loopK (stuckJ ls) n fun next => curV 1 ls [] fun e A => comp call lp N a ex kr (toJ ls next) e A) env A ≠ .stuck →
        Post N (xloop (xcode cal0 lp a.er) n T [] A) (toJ ls (loopK (stuckJ ls) n fun next => curV 1 ls [] fun e A => comp call lp N a ex kr (toJ ls next) e A) env A) ex kr kn := by
      intro n
      induction n with
      | zero => intro env T A h hne; exact absurd toJ_stuck hne
      | succ n ihn =>
        intro env T A h hne
        have e0 : toJ ls (loopK (stuckJ ls) (n + 1) fun next => curV 1 ls [] fun e A => comp call lp N a ex kr (toJ ls next) e A) env A = comp call lp N a ex kr (toJ ls (loopK (stuckJ ls) n fun next => curV 1 ls [] fun e A => comp call lp N a ex kr (toJ ls next) e A)) (revE T ls []) A := toJ_ok h hne
        rw [e0] at hne ⊢
        have h1 := iha ex kr _ (revE T ls []) T A (EnvRel.rev h.len ls) hne
        unfold xloop
        generalize xcode cal0 lp a.er T [] A = out at h1 ⊢
        cases out with
        | norm T' D' A' =>
          obtain ⟨rfl, env', h2, e⟩ := h1
          rw [e] at hne ⊢
          exact ihn env' T' A' h2 hne
        | stuck => exact h1
        | exit id T' D' A' => exact h1
        | ret T' D' A' => exact h1
        | pan v T' D' A' => exact h1
    exact key lp env T A h hne
  | exit id => intro ex kr kn env T A h hne; exact ⟨rfl, env, h, rfl⟩
  | ret => intro ex kr kn env T A h hne; exact ⟨rfl, env, h, rfl⟩
  | cut ls a iha =>
    intro ex kr kn env T A h hne
    simp only [comp, joinV] at hne ⊢
    simp only [YCode.er]
    have h3 := toJ_ok h hne
    rw [h3] at hne ⊢
    exact iha ex kr kn (revE T ls []) T A (EnvRel.rev h.len ls) hne

end
end
end Ab
