/- Shallow texts of functions: what they are made of, and a table of them. -/
import Derived.Test.YtdjhhdppeicpbaaAbMono
import Derived.KernelRfl
namespace Ab
open Go
noncomputable section

abbrev CallT := FuncId → List AVal → AH → Res
abbrev FnT := CallT → Nat → List AVal → AH → Res
abbrev PrT := FuncId → Option (List AVal → AH → Option (AVal × AH))
abbrev J0 := AH → Res
abbrev J1 := AVal → J0
abbrev J2 := AVal → J1
abbrev J3 := AVal → J2
abbrev J4 := AVal → J3
abbrev J5 := AVal → J4
abbrev J6 := AVal → J5
abbrev J7 := AVal → J6
abbrev J8 := AVal → J7
abbrev J9 := AVal → J8
abbrev J10 := AVal → J9
abbrev J11 := AVal → J10
abbrev J12 := AVal → J11
abbrev J13 := AVal → J12
abbrev J14 := AVal → J13
abbrev J15 := AVal → J14
abbrev J16 := AVal → J15
abbrev J17 := AVal → J16
abbrev J18 := AVal → J17
abbrev J19 := AVal → J18
abbrev J20 := AVal → J19
abbrev J21 := AVal → J20
abbrev J22 := AVal → J21
abbrev J23 := AVal → J22
abbrev J24 := AVal → J23
abbrev J25 := AVal → J24
abbrev J26 := AVal → J25
abbrev J27 := AVal → J26
abbrev J28 := AVal → J27
abbrev J29 := AVal → J28
abbrev J30 := AVal → J29
abbrev J31 := AVal → J30
abbrev J32 := AVal → J31
abbrev J33 := AVal → J32
abbrev J34 := AVal → J33
abbrev J35 := AVal → J34
abbrev J36 := AVal → J35
abbrev J37 := AVal → J36
abbrev J38 := AVal → J37
abbrev J39 := AVal → J38
abbrev J40 := AVal → J39
def zJ0 : J0 := fun _ => .stuck
def zJ1 : J1 := fun _ => zJ0
def zJ2 : J2 := fun _ => zJ1
def zJ3 : J3 := fun _ => zJ2
def zJ4 : J4 := fun _ => zJ3
def zJ5 : J5 := fun _ => zJ4
def zJ6 : J6 := fun _ => zJ5
def zJ7 : J7 := fun _ => zJ6
def zJ8 : J8 := fun _ => zJ7
def zJ9 : J9 := fun _ => zJ8
def zJ10 : J10 := fun _ => zJ9
def zJ11 : J11 := fun _ => zJ10
def zJ12 : J12 := fun _ => zJ11
def zJ13 : J13 := fun _ => zJ12
def zJ14 : J14 := fun _ => zJ13
def zJ15 : J15 := fun _ => zJ14
def zJ16 : J16 := fun _ => zJ15
def zJ17 : J17 := fun _ => zJ16
def zJ18 : J18 := fun _ => zJ17
def zJ19 : J19 := fun _ => zJ18
def zJ20 : J20 := fun _ => zJ19
def zJ21 : J21 := fun _ => zJ20
def zJ22 : J22 := fun _ => zJ21
def zJ23 : J23 := fun _ => zJ22
def zJ24 : J24 := fun _ => zJ23
def zJ25 : J25 := fun _ => zJ24
def zJ26 : J26 := fun _ => zJ25
def zJ27 : J27 := fun _ => zJ26
def zJ28 : J28 := fun _ => zJ27
def zJ29 : J29 := fun _ => zJ28
def zJ30 : J30 := fun _ => zJ29
def zJ31 : J31 := fun _ => zJ30
def zJ32 : J32 := fun _ => zJ31
def zJ33 : J33 := fun _ => zJ32
def zJ34 : J34 := fun _ => zJ33
def zJ35 : J35 := fun _ => zJ34
def zJ36 : J36 := fun _ => zJ35
def zJ37 : J37 := fun _ => zJ36
def zJ38 : J38 := fun _ => zJ37
def zJ39 : J39 := fun _ => zJ38
def zJ40 : J40 := fun _ => zJ39
def letV (x : AVal) (k : AVal → Res) : Res := k x
def letA (x : AH) (k : AH → Res) : Res := k x

inductive BT (α : Type) where
  | leaf
  | node (f : Nat) (e : α) (l r : BT α)

def BT.look {α : Type} (t : BT α) (f : Nat) : Option α := BT.rec (motive := fun _ => Option α) none (fun f' e _ _ ihl ihr => Bool.rec (Bool.rec ihr ihl (Nat.ble f f')) (some e) (Nat.beq f f')) t

inductive BT.All {α : Type} (Q : Nat → α → Prop) : BT α → Prop where
  | leaf : BT.All Q .leaf
  | node {f : Nat} {e : α} {l r : BT α} : Q f e → BT.All Q l → BT.All Q r → BT.All Q (.node f e l r)

theorem BT.All.look {α : Type} {Q : Nat → α → Prop} {t : BT α} (h : BT.All Q t) {f : Nat} {e : α} (hl : t.look f = some e) : Q f e := by
  induction h with
  | leaf => cases hl
  | @node f' e' l r hq _ _ ihl ihr =>
    have hl' : (Bool.rec (Bool.rec (r.look f) (l.look f) (Nat.ble f f')) (some e') (Nat.beq f f') : Option α) = some e := hl
    cases hb : Nat.beq f f' with
    | true =>
      rw [hb] at hl'
      have h1 : some e' = some e := hl'
      cases h1
      rw [beq_of hb]
      exact hq
    | false =>
      rw [hb] at hl'
      cases hc : Nat.ble f f' with
      | true => rw [hc] at hl'; exact ihl hl'
      | false => rw [hc] at hl'; exact ihr hl'

/-- The table as it runs; 'pr': functions that are answered by a Lean function. -/
def tabOf (t : BT FnT) (pr : PrT) (f : FuncId) : Option FnT :=
  optC (pr f) (fun g => some fun _ _ as A => bindP (g as A) fun v A' => .ret v A') (t.look f)
def envOf (t : BT XFunc) (pr : PrT) : XEnv := ⟨fun f => t.look f, pr⟩

/-- What is proved of each function of the table. -/
def FnOk (E : XEnv) (f : Nat) (g : FnT) : Prop := E.prim f = none → ∀ call n as A, Le0 call (acall E n) → g call n as A ≠ .stuck → acall E (n + 1) f as A = g call n as A

theorem tabOf_ok {x : BT XFunc} {t : BT FnT} {pr : PrT} (h : BT.All (FnOk (envOf x pr)) t) : TabOk (envOf x pr) (tabOf t pr) := by
  intro f g hg call n as A hle hne
  unfold tabOf at hg
  cases hp : pr f with
  | some p =>
    rw [hp] at hg
    have hg' : some (fun (_ : CallT) (_ : Nat) as A => bindP (p as A) fun v A' => .ret v A') = some g := hg
    cases hg'
    have hne' : bindP (p as A) (fun v A' => .ret v A') ≠ .stuck := hne
    show _ = bindP (p as A) (fun v A' => .ret v A')
    conv => lhs; unfold acall
    simp only [envOf, hp]
    cases hv : p as A with
    | none => rw [hv] at hne'; exact absurd rfl hne'
    | some q => rfl
  | none =>
    rw [hp] at hg
    exact h.look hg hp call n as A hle hne

/-- A function without deferred calls. -/
theorem fn_of {E : XEnv} {f N p : Nat} {rs : List XRes} {y : YCode} {g : FnT} (hf : E.fn f = some ⟨N, rs, y.er⟩) (h : ∀ call n as A, fnK call n N rs y p as A = g call n as A) : FnOk E f g := by
  intro hp call n as A hle hne
  rw [← h] at hne ⊢
  exact fnK_ok (xf := ⟨N, rs, y.er⟩) hle hp hf rfl hne

/-- A function with deferred calls. -/
theorem fn_deep {E : XEnv} {f : Nat} {xf : XFunc} (hf : E.fn f = some xf) : FnOk E f fun call n as A => deepK E xf call n as A := by
  intro hp call n as A hle hne
  exact deepK_ok hle hp hf hne

/-- One step into the table. -/
theorem run_at {t : BT FnT} {pr : PrT} {n f : Nat} {as : List AVal} {A : AH} {g : FnT} {call : CallT} (hc : call = runT (tabOf t pr) n) (hp : pr f = none) (hf : t.look f = some g) : runT (tabOf t pr) (n + 1) f as A = g call n as A := by
  subst hc
  show optC (tabOf t pr f) _ _ = _
  unfold tabOf
  rw [hp]
  show optC (t.look f) _ _ = _
  rw [hf]; rfl

theorem envOf_ok {P : Program} {x : BT XFunc} {pr : PrT} (h : BT.All (fun f xf => cFunc P f = some xf) x) (hp : ∀ f g, pr f = some g → ∀ args A v A', g args A = some (v, A') → ∀ (ρ : Ren) (w : World) (args' : Array Value), Rel ρ A w → VRels ρ args args'.toList → Does P f args' w (ResOk ρ A w (.ret v A'))) : EnvOk P (envOf x pr) :=
  ⟨fun _ _ hf => h.look hf, hp⟩

end
end Ab
