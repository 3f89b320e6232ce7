/- What an operation comes to rests on the slots that it reads. -/
import Derived.Test.YtdjhhdppeicpbaaAbCalls
namespace Ab
open Go

def Same (T T' : List AVal) (rs : List Nat) : Prop := ∀ r, r ∈ rs → T.getD r .junk = T'.getD r .junk

section
variable {T T' : List AVal}

theorem Same.left {rs qs : List Nat} (h : Same T T' (rs ++ qs)) : Same T T' rs := fun r hr => h r (List.mem_append_left _ hr)
theorem Same.right {rs qs : List Nat} (h : Same T T' (rs ++ qs)) : Same T T' qs := fun r hr => h r (List.mem_append_right _ hr)

theorem ev_congr {x : XOpd} (h : Same T T' (opdReads x)) : ev T x = ev T' x := by
  cases x with
  | t i => exact h i (by simp [opdReads])
  | c v => rfl

theorem map_ev_congr : ∀ {xs : List XOpd}, Same T T' (xs.flatMap opdReads) → xs.map (ev T) = xs.map (ev T')
  | [], _ => rfl
  | x :: xs, h => by
    rw [List.flatMap_cons] at h
    rw [List.map_cons, List.map_cons, ev_congr h.left, map_ev_congr h.right]

theorem afill_congr : ∀ (ps : List (Nat × Nat × XOpd)) (cs : List AVal), Same T T' (ps.flatMap fun p => opdReads p.2.2) → afill T cs ps = afill T' cs ps
  | [], _, _ => rfl
  | (off, size, x) :: rest, cs, h => by
    rw [List.flatMap_cons] at h
    simp only [afill, ev_congr h.left]
    split
    · rfl
    · split
      · exact afill_congr rest _ h.right
      · rfl

theorem abound_congr {x : XOpd} (y : Nat) (h : Same T T' (opdReads x)) : abound T x y = abound T' x y := by
  simp only [abound, ev_congr h]

def optReads : Option XOpd → List Nat
  | some y => opdReads y
  | none => []

theorem abounds_congr {lo hi mx : Option XOpd} (len cap : Nat) (h1 : Same T T' (optReads lo)) (h2 : Same T T' (optReads hi)) (h3 : Same T T' (optReads mx)) : abounds T len cap lo hi mx = abounds T' len cap lo hi mx := by
  have e1 : ∀ x, lo = some x → ∀ y, abound T x y = abound T' x y := fun x hx y => abound_congr y (by subst hx; exact h1)
  have e2 : ∀ x, hi = some x → ∀ y, abound T x y = abound T' x y := fun x hx y => abound_congr y (by subst hx; exact h2)
  have e3 : ∀ x, mx = some x → ∀ y, abound T x y = abound T' x y := fun x hx y => abound_congr y (by subst hx; exact h3)
  clear h1 h2 h3
  cases lo <;> cases hi <;> cases mx <;> simp [abounds, *]

theorem apure_congr {op : XOp} (h : Same T T' (opReads op)) : apure T op = apure T' op := by
  cases op with
  | slc esz x lo hi mx =>
    simp only [opReads] at h
    have h1 := h.left.left.left
    have h2 : Same T T' (optReads lo) := by cases lo <;> exact h.left.left.right
    have h3 : Same T T' (optReads hi) := by cases hi <;> exact h.left.right
    have h4 : Same T T' (optReads mx) := by cases mx <;> exact h.right
    simp only [apure, ev_congr h1, abounds_congr _ _ h2 h3 h4]
  | sla n esz x lo hi mx =>
    simp only [opReads] at h
    have h1 := h.left.left.left
    have h2 : Same T T' (optReads lo) := by cases lo <;> exact h.left.left.right
    have h3 : Same T T' (optReads hi) := by cases hi <;> exact h.left.right
    have h4 : Same T T' (optReads mx) := by cases mx <;> exact h.right
    simp only [apure, ev_congr h1, abounds_congr _ _ h2 h3 h4]
  | slstr x lo hi =>
    simp only [opReads] at h
    have h1 := h.left.left
    have h2 : Same T T' (optReads lo) := by cases lo <;> exact h.left.right
    have h3 : Same T T' (optReads hi) := by cases hi <;> exact h.right
    simp only [apure, ev_congr h1, abounds_congr (mx := none) _ _ h2 h3 (fun r hr => by cases hr)]
  | build zs ps => simp only [apure, afill_congr ps zs h]
  | mkf f caps => simp only [apure, map_ev_congr h]
  | pick c a b => simp only [opReads] at h; simp only [apure, ev_congr h.left.left, ev_congr h.left.right, ev_congr h.right]
  | _ =>
    simp only [opReads] at h
    simp only [apure] <;> first
      | (rw [ev_congr h]; done)
      | (rw [ev_congr h.left, ev_congr h.right]; done)
      | (simp only [ev_congr h]; done)
      | (simp only [ev_congr h.left, ev_congr h.right]; done)

theorem aread_congr {A : AH} {op : XOp} (h : Same T T' (opReads op)) : aread T A op = aread T' A op := by
  cases op with
  | load1 x => simp only [aread, ev_congr h]
  | loadN n x => simp only [aread, ev_congr h]
  | cvbs x => simp only [aread, ev_congr h]
  | lookup ki z ok m k => simp only [opReads] at h; simp only [aread, ev_congr h.left, ev_congr h.right]
  | blenm m => simp only [aread, ev_congr h]
  | _ => rfl

theorem afree_congr {op : XOp} (h : Same T T' (opReads op)) : afree T op = afree T' op := by
  cases op with
  | alloc zs => rfl
  | box x => simp only [afree, ev_congr h]
  | bslice len zs ps => simp only [afree, afill_congr ps zs h]
  | mkm => rfl
  | mks esz bytes z l c => simp only [opReads] at h; simp only [afree, ev_congr h.left, ev_congr h.right]
  | _ => rfl

theorem achain_congr {A : AH} {op : XOp} (h : Same T T' (opReads op)) : achain T A op = achain T' A op := by
  cases op with
  | store1 x v => simp only [opReads] at h; simp only [achain, ev_congr h.left, ev_congr h.right]
  | storeN n x v => simp only [opReads] at h; simp only [achain, ev_congr h.left, ev_congr h.right]
  | fbin op x y => simp only [opReads] at h; simp only [achain, ev_congr h.left, ev_congr h.right]
  | cvid x => simp only [achain, ev_congr h]
  | mapup ki m k v => simp only [opReads] at h; simp only [achain, ev_congr h.left.left, ev_congr h.left.right, ev_congr h.right]
  | delete ki m k => simp only [opReads] at h; simp only [achain, ev_congr h.left, ev_congr h.right]
  | append esz bytes x y => simp only [opReads] at h; simp only [achain, ev_congr h.left, ev_congr h.right]
  | appendZ esz bytes z x n => simp only [opReads] at h; simp only [achain, ev_congr h.left, ev_congr h.right]
  | copy esz x y => simp only [opReads] at h; simp only [achain, ev_congr h.left, ev_congr h.right]
  | clear esz z x => simp only [achain, ev_congr h]
  | _ => rfl

theorem acallee_congr {A : AH} {op : XOp} (h : Same T T' (opReads op)) : acallee T A op = acallee T' A op := by
  cases op with
  | call f args => simp only [acallee, map_ev_congr h]
  | callv x args => simp only [opReads] at h; simp only [acallee, ev_congr h.left, map_ev_congr h.right]
  | invoke tbl x args => simp only [opReads] at h; simp only [acallee, ev_congr h.left, map_ev_congr h.right]
  | _ => rfl

theorem wants_congr {g : Option (Nat × Bool)} (h : Same T T' (match g with | some (g, _) => [g] | none => [])) : wants T g = wants T' g := by
  cases g with
  | none => rfl
  | some jb =>
    obtain ⟨j, b⟩ := jb
    simp only [wants]
    rw [h j (by simp)]

end
end Ab
