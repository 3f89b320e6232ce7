/- Operations with their values laid in. -/
import Derived.Test.YtdjhhdppeicpbaaAbFast3
namespace Ab
open Go

def XOpd.sub (s : Nat → AVal) : XOpd → XOpd
  | .t i => .c (s i)
  | .c v => .c v

def subParts (s : Nat → AVal) (ps : List (Nat × Nat × XOpd)) : List (Nat × Nat × XOpd) := ps.map fun p => (p.1, p.2.1, p.2.2.sub s)

/-- The operands' values for the operands. -/
def XOp.sub (s : Nat → AVal) : XOp → XOp
  | .mov x => .mov (x.sub s)
  | .pick c a b => .pick (c.sub s) (a.sub s) (b.sub s)
  | .alloc zs => .alloc zs
  | .box x => .box (x.sub s)
  | .build zs ps => .build zs (subParts s ps)
  | .bslice len zs ps => .bslice len zs (subParts s ps)
  | .load1 x => .load1 (x.sub s)
  | .loadN n x => .loadN n (x.sub s)
  | .store1 x v => .store1 (x.sub s) (v.sub s)
  | .storeN n x v => .storeN n (x.sub s) (v.sub s)
  | .nilc x => .nilc (x.sub s)
  | .bin op x y => .bin op (x.sub s) (y.sub s)
  | .fbin op x y => .fbin op (x.sub s) (y.sub s)
  | .beq neg x y => .beq neg (x.sub s) (y.sub s)
  | .isnil kind neg x => .isnil kind neg (x.sub s)
  | .eqagg neg ks x y => .eqagg neg ks (x.sub s) (y.sub s)
  | .un op x => .un op (x.sub s)
  | .cvi k x => .cvi k (x.sub s)
  | .cvif k x => .cvif k (x.sub s)
  | .cvbs x => .cvbs (x.sub s)
  | .cvid x => .cvid (x.sub s)
  | .cvss x => .cvss (x.sub s)
  | .s2ap n x => .s2ap n (x.sub s)
  | .mki t x => .mki t (x.sub s)
  | .mkf f caps => .mkf f (caps.map (XOpd.sub s))
  | .mkm => .mkm
  | .mks esz bytes z l c => .mks esz bytes z (l.sub s) (c.sub s)
  | .slc esz x lo hi mx => .slc esz (x.sub s) (lo.map (XOpd.sub s)) (hi.map (XOpd.sub s)) (mx.map (XOpd.sub s))
  | .slstr x lo hi => .slstr (x.sub s) (lo.map (XOpd.sub s)) (hi.map (XOpd.sub s))
  | .sla n esz x lo hi mx => .sla n esz (x.sub s) (lo.map (XOpd.sub s)) (hi.map (XOpd.sub s)) (mx.map (XOpd.sub s))
  | .fadr off x => .fadr off (x.sub s)
  | .fld off size ag x => .fld off size ag (x.sub s)
  | .idxs esz x i => .idxs esz (x.sub s) (i.sub s)
  | .idxa n esz x i => .idxa n esz (x.sub s) (i.sub s)
  | .idx n esz ag x i => .idx n esz ag (x.sub s) (i.sub s)
  | .idxstr x i => .idxstr (x.sub s) (i.sub s)
  | .lookup ki z ok m k => .lookup ki z ok (m.sub s) (k.sub s)
  | .tassert t ok z x => .tassert t ok z (x.sub s)
  | .ext i x => .ext i (x.sub s)
  | .blen x => .blen (x.sub s)
  | .blenstr x => .blenstr (x.sub s)
  | .blenm x => .blenm (x.sub s)
  | .bconst n => .bconst n
  | .bcap x => .bcap (x.sub s)
  | .bmin x y => .bmin (x.sub s) (y.sub s)
  | .bmax x y => .bmax (x.sub s) (y.sub s)
  | .mapup ki m k v => .mapup ki (m.sub s) (k.sub s) (v.sub s)
  | .delete ki m k => .delete ki (m.sub s) (k.sub s)
  | .append esz bytes x y => .append esz bytes (x.sub s) (y.sub s)
  | .appendZ esz bytes z x n => .appendZ esz bytes z (x.sub s) (n.sub s)
  | .copy esz x y => .copy esz (x.sub s) (y.sub s)
  | .clear esz z x => .clear esz z (x.sub s)
  | .call f args => .call f (args.map (XOpd.sub s))
  | .callv x args => .callv (x.sub s) (args.map (XOpd.sub s))
  | .invoke tbl x args => .invoke tbl (x.sub s) (args.map (XOpd.sub s))
  | .defer x args => .defer (x.sub s) (args.map (XOpd.sub s))
  | .panic x => .panic (x.sub s)
  | .recover => .recover

def Agrees (s : Nat → AVal) (T : List AVal) (rs : List Nat) : Prop := ∀ r, r ∈ rs → s r = T.getD r .junk

section
variable {s : Nat → AVal} {T : List AVal}

theorem Agrees.left {rs qs : List Nat} (h : Agrees s T (rs ++ qs)) : Agrees s T rs := fun r hr => h r (List.mem_append_left _ hr)
theorem Agrees.right {rs qs : List Nat} (h : Agrees s T (rs ++ qs)) : Agrees s T qs := fun r hr => h r (List.mem_append_right _ hr)

theorem ev_sub {x : XOpd} (h : Agrees s T (opdReads x)) : ev [] (x.sub s) = ev T x := by
  cases x with
  | t i => exact h i (by simp [opdReads])
  | c v => rfl

theorem map_ev_sub : ∀ {xs : List XOpd}, Agrees s T (xs.flatMap opdReads) → (xs.map (XOpd.sub s)).map (ev []) = xs.map (ev T)
  | [], _ => rfl
  | x :: xs, h => by
    rw [List.flatMap_cons] at h
    rw [List.map_cons, List.map_cons, List.map_cons, ev_sub h.left, map_ev_sub h.right]

theorem afill_sub : ∀ (ps : List (Nat × Nat × XOpd)) (cs : List AVal), Agrees s T (ps.flatMap fun p => opdReads p.2.2) → afill [] cs (subParts s ps) = afill T cs ps
  | [], _, _ => rfl
  | (off, size, x) :: rest, cs, h => by
    rw [List.flatMap_cons] at h
    show afill [] cs ((off, size, x.sub s) :: subParts s rest) = _
    simp only [afill, ev_sub h.left]
    split
    · rfl
    · split
      · exact afill_sub rest _ h.right
      · rfl

theorem abounds_sub {lo hi mx : Option XOpd} (len cap : Nat) (h1 : Agrees s T (optReads lo)) (h2 : Agrees s T (optReads hi)) (h3 : Agrees s T (optReads mx)) :
    abounds [] len cap (lo.map (XOpd.sub s)) (hi.map (XOpd.sub s)) (mx.map (XOpd.sub s)) = abounds T len cap lo hi mx := by
  have e1 : ∀ x, lo = some x → ∀ y, abound [] (x.sub s) y = abound T x y := fun x hx y => by subst hx; simp only [abound, ev_sub h1]
  have e2 : ∀ x, hi = some x → ∀ y, abound [] (x.sub s) y = abound T x y := fun x hx y => by subst hx; simp only [abound, ev_sub h2]
  have e3 : ∀ x, mx = some x → ∀ y, abound [] (x.sub s) y = abound T x y := fun x hx y => by subst hx; simp only [abound, ev_sub h3]
  clear h1 h2 h3
  cases lo <;> cases hi <;> cases mx <;> simp [abounds, *]

theorem apure_sub {op : XOp} (h : Agrees s T (opReads op)) : apure [] (op.sub s) = apure T op := by
  cases op with
  | slc esz x lo hi mx =>
    simp only [opReads] at h
    have h1 := h.left.left.left
    have h2 : Agrees s T (optReads lo) := by cases lo <;> exact h.left.left.right
    have h3 : Agrees s T (optReads hi) := by cases hi <;> exact h.left.right
    have h4 : Agrees s T (optReads mx) := by cases mx <;> exact h.right
    simp only [XOp.sub, apure, ev_sub h1, abounds_sub _ _ h2 h3 h4, Option.isSome_map]
  | sla n esz x lo hi mx =>
    simp only [opReads] at h
    have h1 := h.left.left.left
    have h2 : Agrees s T (optReads lo) := by cases lo <;> exact h.left.left.right
    have h3 : Agrees s T (optReads hi) := by cases hi <;> exact h.left.right
    have h4 : Agrees s T (optReads mx) := by cases mx <;> exact h.right
    simp only [XOp.sub, apure, ev_sub h1, abounds_sub _ _ h2 h3 h4]
  | slstr x lo hi =>
    simp only [opReads] at h
    have h1 := h.left.left
    have h2 : Agrees s T (optReads lo) := by cases lo <;> exact h.left.right
    have h3 : Agrees s T (optReads hi) := by cases hi <;> exact h.right
    have h4 := fun l c => abounds_sub (mx := none) l c h2 h3 (fun r hr => by cases hr)
    simp only [Option.map_none] at h4
    simp only [XOp.sub, apure, ev_sub h1, h4]
  | build zs ps => simp only [XOp.sub, apure, afill_sub ps zs h]
  | mkf f caps => simp only [XOp.sub, apure, map_ev_sub h]
  | pick c a b => simp only [opReads] at h; simp only [XOp.sub, apure, ev_sub h.left.left, ev_sub h.left.right, ev_sub h.right]
  | _ =>
    simp only [opReads] at h
    simp only [XOp.sub, apure] <;> first
      | (rw [ev_sub h]; done)
      | (rw [ev_sub h.left, ev_sub h.right]; done)
      | (simp only [ev_sub h]; done)
      | (simp only [ev_sub h.left, ev_sub h.right]; done)

theorem aread_sub {A : AH} {op : XOp} (h : Agrees s T (opReads op)) : aread [] A (op.sub s) = aread T A op := by
  cases op with
  | load1 x => simp only [XOp.sub, aread, ev_sub h]
  | loadN n x => simp only [XOp.sub, aread, ev_sub h]
  | cvbs x => simp only [XOp.sub, aread, ev_sub h]
  | lookup ki z ok m k => simp only [opReads] at h; simp only [XOp.sub, aread, ev_sub h.left, ev_sub h.right]
  | blenm m => simp only [XOp.sub, aread, ev_sub h]
  | _ => rfl

theorem afree_sub {op : XOp} (h : Agrees s T (opReads op)) : afree [] (op.sub s) = afree T op := by
  cases op with
  | alloc zs => rfl
  | box x => simp only [XOp.sub, afree, ev_sub h]
  | bslice len zs ps => simp only [XOp.sub, afree, afill_sub ps zs h]
  | mkm => rfl
  | mks esz bytes z l c => simp only [opReads] at h; simp only [XOp.sub, afree, ev_sub h.left, ev_sub h.right]
  | _ => rfl

theorem achain_sub {A : AH} {op : XOp} (h : Agrees s T (opReads op)) : achain [] A (op.sub s) = achain T A op := by
  cases op with
  | store1 x v => simp only [opReads] at h; simp only [XOp.sub, achain, ev_sub h.left, ev_sub h.right]
  | storeN n x v => simp only [opReads] at h; simp only [XOp.sub, achain, ev_sub h.left, ev_sub h.right]
  | fbin op x y => simp only [opReads] at h; simp only [XOp.sub, achain, ev_sub h.left, ev_sub h.right]
  | cvid x => simp only [XOp.sub, achain, ev_sub h]
  | mapup ki m k v => simp only [opReads] at h; simp only [XOp.sub, achain, ev_sub h.left.left, ev_sub h.left.right, ev_sub h.right]
  | delete ki m k => simp only [opReads] at h; simp only [XOp.sub, achain, ev_sub h.left, ev_sub h.right]
  | append esz bytes x y => simp only [opReads] at h; simp only [XOp.sub, achain, ev_sub h.left, ev_sub h.right]
  | appendZ esz bytes z x n => simp only [opReads] at h; simp only [XOp.sub, achain, ev_sub h.left, ev_sub h.right]
  | copy esz x y => simp only [opReads] at h; simp only [XOp.sub, achain, ev_sub h.left, ev_sub h.right]
  | clear esz z x => simp only [XOp.sub, achain, ev_sub h]
  | _ => rfl

theorem acallee_sub {A : AH} {op : XOp} (h : Agrees s T (opReads op)) : acallee [] A (op.sub s) = acallee T A op := by
  cases op with
  | call f args => simp only [XOp.sub, acallee, map_ev_sub h]
  | callv x args => simp only [opReads] at h; simp only [XOp.sub, acallee, ev_sub h.left, map_ev_sub h.right]
  | invoke tbl x args => simp only [opReads] at h; simp only [XOp.sub, acallee, ev_sub h.left, map_ev_sub h.right]
  | _ => rfl

theorem isPure_sub (op : XOp) : isPure (op.sub s) = isPure op := by cases op <;> rfl
theorem isRead_sub (op : XOp) : isRead (op.sub s) = isRead op := by cases op <;> rfl
theorem isFree_sub (op : XOp) : isFree (op.sub s) = isFree op := by cases op <;> rfl
theorem isCall_sub (op : XOp) : isCall (op.sub s) = isCall op := by cases op <;> rfl

end
end Ab
