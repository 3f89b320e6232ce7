/- The second executor: functions, and a table of them. -/
import Derived.Test.YtdjhhdppeicpbaaAbFast8
namespace Ab
open Go
noncomputable section

def res1E (env : Env) (A : AH) (r : XRes) : Option AVal :=
  match r with
  | .tmp t => lookE env t
  | .cell1 t => optC (lookE env t) (fun p => load1R A p) none
  | .cellN t n => optC (lookE env t) (fun p => aread [] A (.loadN n (.c p))) none
def resE (env : Env) (A : AH) (rs : List XRes) : Option (List AVal) := List.rec (some []) (fun r _ ih => optC (res1E env A r) (fun v => optC ih (fun vs => some (v :: vs)) none) none) rs
def packR (vs : List AVal) : AVal :=
  match vs with
  | [v] => v
  | vs => .tuple vs
def retK (rs : List XRes) (env : Env) (A : AH) : Res := optC (resE env A rs) (fun vs => .ret (packR vs) A) .stuck
/-- A function of n values and a memory, at a list of values. -/
def apL (n : Nat) (j : JT 1 n) (as : List AVal) (A : AH) : Res := Nat.rec (motive := fun n => JT 1 n → List AVal → Res) (fun j as => List.casesOn as ((j : AH → Res) A) fun _ _ => .stuck) (fun _ ih j as => List.casesOn as .stuck fun a as => ih ((j : AVal → _) a) as) n j as
def fnK (call : FuncId → List AVal → AH → Res) (lp N : Nat) (rs : List XRes) (y : YCode) (p : Nat) (as : List AVal) (A : AH) : Res :=
  apL (lenL (List.range p)) (curV 1 (List.range p) [] (comp call lp N y (fun _ _ _ => .stuck) (retK rs) (retK rs))) as A

section
variable {N : Nat} {env : Env} {T : List AVal} {A : AH}

theorem resE_ok (h : EnvRel N env T) : ∀ {rs : List XRes} {vs : List AVal}, resE env A rs = some vs → aresAll T A rs = some vs
  | [], vs, hv => by cases hv; rfl
  | r :: rs, vs, hv => by
    have hv' : optC (res1E env A r) (fun v => optC (resE env A rs) (fun vs => some (v :: vs)) none) none = some vs := hv
    have key : ∀ v, res1E env A r = some v → ares1 T A r = some v := by
      intro v hr
      cases r with
      | tmp t =>
        have hr' : lookE env t = some v := hr
        simp only [ares1]
        rw [h.look t v hr']
      | cell1 t =>
        have hr' : optC (lookE env t) (fun p => load1R A p) none = some v := hr
        cases ht : lookE env t with
        | none => rw [ht] at hr'; cases hr'
        | some p =>
          rw [ht] at hr'
          have hr2 : load1R A p = some v := hr'
          rw [load1R_eq] at hr2
          simp only [ares1, h.look t p ht]
          cases p <;> exact hr2
      | cellN t n =>
        have hr' : optC (lookE env t) (fun p => aread [] A (.loadN n (.c p))) none = some v := hr
        cases ht : lookE env t with
        | none => rw [ht] at hr'; cases hr'
        | some p =>
          rw [ht] at hr'
          have hr2 : aread [] A (.loadN n (.c p)) = some v := hr'
          simp only [ares1, h.look t p ht]
          cases p <;> exact hr2
    cases hr : res1E env A r with
    | none => rw [hr] at hv'; cases hv'
    | some v =>
      rw [hr] at hv'
      cases hrs : resE env A rs with
      | none =>
        rw [hrs] at hv'
        have : (none : Option (List AVal)) = some vs := hv'
        cases this
      | some us =>
        rw [hrs] at hv'
        have : some (v :: us) = some vs := hv'
        cases this
        simp only [aresAll, key v hr, resE_ok h hrs]

theorem retK_ok (h : EnvRel N env T) {xf : XFunc} (hne : retK xf.results env A ≠ .stuck) : ∃ v, ares xf T A = some v ∧ retK xf.results env A = .ret v A := by
  unfold retK at hne ⊢
  cases hr : resE env A xf.results with
  | none => rw [hr] at hne; exact absurd rfl hne
  | some vs =>
    refine ⟨packR vs, ?_, rfl⟩
    unfold ares
    rw [resE_ok h hr]
    unfold packR
    split <;> simp_all

theorem apL_ok {k : Env → AH → Res} {A : AH} : ∀ (ls : List Nat) (acc : Env) (as : List AVal) (T : List AVal), (∀ (i l : Nat), ls[i]? = some l → ∀ a, as[i]? = some a → T.getD l .junk = a) → apL (lenL ls) (curV 1 ls acc k) as A ≠ .stuck → apL (lenL ls) (curV 1 ls acc k) as A = k (revE T ls acc) A ∧ as.length = ls.length
  | [], acc, as, T, _, hne => by
    cases as with
    | nil => exact ⟨rfl, rfl⟩
    | cons a as => exact absurd rfl hne
  | l :: ls, acc, as, T, h, hne => by
    cases as with
    | nil => exact absurd rfl hne
    | cons a as =>
      have hne' : apL (lenL ls) (curV 1 ls ((l, a) :: acc) k) as A ≠ .stuck := hne
      obtain ⟨h1, h2⟩ := apL_ok ls ((l, a) :: acc) as T (fun i l hl a ha => h (i + 1) l (by simpa using hl) a (by simpa using ha)) hne'
      refine ⟨?_, by simp [h2]⟩
      show apL (lenL ls) (curV 1 ls ((l, a) :: acc) k) as A = k (revE T ls ((l, T.getD l .junk) :: acc)) A
      rw [h1, h 0 l rfl a rfl]

theorem fnK_ok {E : XEnv} {n f : Nat} {call : FuncId → List AVal → AH → Res} (hle : Le0 call (acall E n)) {xf : XFunc} {y : YCode} {p : Nat} {as : List AVal} (hp : E.prim f = none) (hf : E.fn f = some xf) (hy : y.er = xf.body) (hne : fnK call n xf.ntmps xf.results y p as A ≠ .stuck) :
    acall E (n + 1) f as A = fnK call n xf.ntmps xf.results y p as A := by
  unfold fnK at hne ⊢
  have hT : ∀ (i l : Nat), (List.range p)[i]? = some l → ∀ a, as[i]? = some a → (slots xf as).getD l .junk = a := by
    intro i l hl a ha
    have hi : i < as.length := by
      rcases Nat.lt_or_ge i as.length with h | h
      · exact h
      · rw [List.getElem?_eq_none h] at ha; cases ha
    have hil : i = l := by
      rcases Nat.lt_or_ge i p with h | h
      · rw [List.getElem?_range h] at hl; simpa using hl
      · rw [List.getElem?_eq_none (by simpa using h)] at hl; cases hl
    subst hil
    rw [slots, List.getD_eq_getElem?_getD, List.getElem?_append_left hi, ha]
    rfl
  obtain ⟨h0, hlen⟩ := apL_ok (List.range p) [] as (slots xf as) hT hne
  have hne' := hne
  rw [h0] at hne' ⊢
  have hl : xf.ntmps ≤ (slots xf as).length := by simp only [slots, List.length_append, List.length_replicate]; omega
  have h1 := comp_ok hle y _ _ _ (revE (slots xf as) (List.range p) []) (slots xf as) A (EnvRel.rev hl (List.range p)) hne'
  rw [hy] at h1
  conv => lhs; unfold acall
  simp only [hp, hf]
  generalize xcode (acall E n) n xf.body (slots xf as) [] A = out at h1 ⊢
  cases out with
  | stuck => exact h1.elim
  | norm T' D' A' =>
    obtain ⟨rfl, env', h2, e⟩ := h1
    rw [e] at hne' ⊢
    obtain ⟨v, h3, h4⟩ := retK_ok h2 hne'
    simp only [leave, h3, h4]
  | exit id T' D' A' =>
    obtain ⟨rfl, env', h2, e⟩ := h1
    rw [e] at hne'; exact absurd rfl hne'
  | ret T' D' A' =>
    obtain ⟨rfl, env', h2, e⟩ := h1
    rw [e] at hne' ⊢
    obtain ⟨v, h3, h4⟩ := retK_ok h2 hne'
    simp only [leave, h3, h4]
  | pan v T' D' A' =>
    obtain ⟨rfl, e⟩ := h1
    simp only [leave, e]

end

/-- A run by a table of functions. -/
def runT (tab : FuncId → Option ((FuncId → List AVal → AH → Res) → Nat → List AVal → AH → Res)) (n : Nat) (f : FuncId) (as : List AVal) (A : AH) : Res :=
  Nat.rec (motive := fun _ => FuncId → List AVal → AH → Res) (fun _ _ _ => .stuck) (fun n ih f as A => optC (tab f) (fun g => g ih n as A) .stuck) n f as A

/-- Each function of the table is one of the program's, or a function of Lean's. -/
def TabOk (E : XEnv) (tab : FuncId → Option ((FuncId → List AVal → AH → Res) → Nat → List AVal → AH → Res)) : Prop :=
  ∀ f g, tab f = some g → ∀ call n as A, Le0 call (acall E n) → g call n as A ≠ .stuck → acall E (n + 1) f as A = g call n as A

theorem runT_ok {E : XEnv} {tab : FuncId → Option ((FuncId → List AVal → AH → Res) → Nat → List AVal → AH → Res)} (h : TabOk E tab) : ∀ n, Le0 (runT tab n) (acall E n) := by
  intro n
  induction n with
  | zero => intro f as A hne; exact absurd rfl hne
  | succ n ih =>
    intro f as A hne
    have hne' : optC (tab f) (fun g => g (runT tab n) n as A) .stuck ≠ .stuck := hne
    show _ = optC (tab f) (fun g => g (runT tab n) n as A) .stuck
    cases hg : tab f with
    | none => rw [hg] at hne'; exact absurd rfl hne'
    | some g =>
      rw [hg] at hne'
      exact h f g hg _ n as A ih hne'

end
end Ab
