/- How the abstract heap stands to a world. -/
import Derived.Test.YtdjhhdppeicpbaaAbComp
import Derived.Laws.Append
import Derived.Laws.Slices
import Derived.WalkKit
namespace Ab
open Go

/-- Where a block of the executor's lies: the world's block, the first cell, how many cells that block has. -/
structure Ent where
  cb : Nat
  sh : Nat
  csz : Nat

abbrev Ren := Nat → Option Ent

inductive VRel (ρ : Ren) : AVal → Value → Prop where
  | junk (v : Value) : VRel ρ .junk v
  | bool (b : Bool) : VRel ρ (.bool b) (.bool b)
  | int (k : IntKind) (n : Int) : VRel ρ (.int k n) (.int k n)
  | float (k : FloatKind) (n : Nat) : VRel ρ (.float k n) (.float k n)
  | nan (k : FloatKind) (n : Nat) : (∀ m, k.format.order n m = none ∧ k.format.order m n = none) → VRel ρ (.nan k) (.float k n)
  | str (s : ByteArray) : VRel ρ (.str s) (.string s)
  | nilptr : VRel ρ .nilptr (.pointer none)
  | ptr {b o : Nat} {e : Ent} : ρ b = some e → VRel ρ (.ptr b o) (.pointer (some ⟨e.cb, e.sh + o, none⟩))
  | nilslice : VRel ρ .nilslice (.slice none 0 0)
  | slice {b o o' len cap lx cap' : Nat} {e : Ent} : ρ b = some e → len ≤ cap → cap ≤ cap' → (lx = 0 → cap' = cap) → (lx ≠ 0 → e.sh + o + cap' * lx ≤ e.csz) → (cap' ≠ 0 → o' = e.sh + o) →
      VRel ρ (.slice b o len cap lx) (.slice (some ⟨e.cb, o', none⟩) len cap')
  | nilmap : VRel ρ .nilmap (.map none)
  | map {b : Nat} {e : Ent} : ρ b = some e → VRel ρ (.map b) (.map (some e.cb))
  | func {f : FuncId} {cs : List AVal} {vs : Array Value} : cs.length = vs.size → (∀ (i : Nat) (a : AVal) (v : Value), cs[i]? = some a → vs[i]? = some v → VRel ρ a v) → VRel ρ (.func f cs) (.func (.func f) #[] vs)
  | nilFunc : VRel ρ .nilFunc .nilFunc
  | iface {t : TypeId} {a : AVal} {v : Value} : VRel ρ a v → VRel ρ (.iface t a) (.iface t v)
  | nilIface : VRel ρ .nilIface .nilIface
  | agg {cs : List AVal} {vs : Array Value} : cs.length = vs.size → (∀ (i : Nat) (a : AVal) (v : Value), cs[i]? = some a → vs[i]? = some v → VRel ρ a v) → VRel ρ (.agg cs) (.agg vs)
  | tuple {cs : List AVal} {vs : Array Value} : cs.length = vs.size → (∀ (i : Nat) (a : AVal) (v : Value), cs[i]? = some a → vs[i]? = some v → VRel ρ a v) → VRel ρ (.tuple cs) (.tuple vs)

/-- Two rows of values. -/
def VRels (ρ : Ren) (cs : List AVal) (vs : List Value) : Prop := cs.length = vs.length ∧ ∀ (i : Nat) (a : AVal) (v : Value), cs[i]? = some a → vs[i]? = some v → VRel ρ a v

theorem VRel.mono {ρ ρ' : Ren} (h : ∀ b e, ρ b = some e → ρ' b = some e) {a : AVal} {v : Value} (hv : VRel ρ a v) : VRel ρ' a v := by
  induction hv with
  | junk v => exact .junk v
  | bool b => exact .bool b
  | int k n => exact .int k n
  | float k n => exact .float k n
  | nan k n hn => exact .nan k n hn
  | str s => exact .str s
  | nilptr => exact .nilptr
  | ptr hb => exact .ptr (h _ _ hb)
  | nilslice => exact .nilslice
  | slice hb h0 h1 h2 h3 h4 => exact .slice (h _ _ hb) h0 h1 h2 h3 h4
  | nilmap => exact .nilmap
  | map hb => exact .map (h _ _ hb)
  | func hl _ ih => exact .func hl ih
  | nilFunc => exact .nilFunc
  | iface _ ih => exact .iface ih
  | nilIface => exact .nilIface
  | agg hl _ ih => exact .agg hl ih
  | tuple hl _ ih => exact .tuple hl ih

theorem VRels.mono {ρ ρ' : Ren} (h : ∀ b e, ρ b = some e → ρ' b = some e) {cs : List AVal} {vs : List Value} (hv : VRels ρ cs vs) : VRels ρ' cs vs :=
  ⟨hv.1, fun i a v ha hv' => (hv.2 i a v ha hv').mono h⟩

theorem VRels.nil {ρ : Ren} : VRels ρ [] [] := ⟨rfl, by simp⟩

theorem VRels.cons {ρ : Ren} {a : AVal} {v : Value} {cs : List AVal} {vs : List Value} (h : VRel ρ a v) (hs : VRels ρ cs vs) : VRels ρ (a :: cs) (v :: vs) := by
  refine ⟨by simp [hs.1], fun i b u hb hu => ?_⟩
  cases i with
  | zero => simp at hb hu; subst hb; subst hu; exact h
  | succ i => exact hs.2 i b u (by simpa using hb) (by simpa using hu)

theorem VRels.uncons {ρ : Ren} {a : AVal} {v : Value} {cs : List AVal} {vs : List Value} (h : VRels ρ (a :: cs) (v :: vs)) : VRel ρ a v ∧ VRels ρ cs vs :=
  ⟨h.2 0 a v rfl rfl, by simpa using h.1, fun i b u hb hu => h.2 (i + 1) b u (by simpa using hb) (by simpa using hu)⟩

theorem VRels.append {ρ : Ren} {as bs : List AVal} {us vs : List Value} (h : VRels ρ as us) (h' : VRels ρ bs vs) : VRels ρ (as ++ bs) (us ++ vs) := by
  refine ⟨by simp [h.1, h'.1], fun i b u hb hu => ?_⟩
  by_cases hi : i < as.length
  · rw [List.getElem?_append_left hi] at hb
    rw [List.getElem?_append_left (by rw [← h.1]; exact hi)] at hu
    exact h.2 i b u hb hu
  · rw [List.getElem?_append_right (by omega)] at hb
    rw [List.getElem?_append_right (by rw [← h.1]; omega), ← h.1] at hu
    exact h'.2 _ b u hb hu

theorem VRels.take {ρ : Ren} {as : List AVal} {us : List Value} (h : VRels ρ as us) (n : Nat) : VRels ρ (as.take n) (us.take n) := by
  refine ⟨by simp [h.1], fun i b u hb hu => ?_⟩
  rw [List.getElem?_take] at hb hu
  split at hb
  · rename_i hi; rw [if_pos hi] at hu; exact h.2 i b u hb hu
  · cases hb

theorem VRels.drop {ρ : Ren} {as : List AVal} {us : List Value} (h : VRels ρ as us) (n : Nat) : VRels ρ (as.drop n) (us.drop n) := by
  refine ⟨by simp [h.1], fun i b u hb hu => ?_⟩
  rw [List.getElem?_drop] at hb hu
  exact h.2 _ b u hb hu

theorem VRels.set {ρ : Ren} {as : List AVal} {us : List Value} (h : VRels ρ as us) (n : Nat) {a : AVal} {v : Value} (hv : VRel ρ a v) : VRels ρ (as.set n a) (us.set n v) := by
  refine ⟨by simp [h.1], fun i b u hb hu => ?_⟩
  rw [List.getElem?_set] at hb hu
  split at hb
  · rename_i hi
    rw [if_pos hi] at hu
    split at hb
    · rename_i hn
      rw [if_pos (by rw [← h.1]; exact hn)] at hu
      simp at hb hu; subst hb; subst hu; exact hv
    · cases hb
  · rename_i hi
    rw [if_neg hi] at hu
    exact h.2 i b u hb hu

theorem VRels.replicate {ρ : Ren} (n : Nat) {a : AVal} {v : Value} (hv : VRel ρ a v) : VRels ρ (List.replicate n a) (List.replicate n v) := by
  refine ⟨by simp, fun i b u hb hu => ?_⟩
  rw [List.getElem?_replicate] at hb hu
  split at hb
  · rename_i hi; rw [if_pos hi] at hu; simp at hb hu; subst hb; subst hu; exact hv
  · cases hb

theorem VRels.of_agg {ρ : Ren} {cs : List AVal} {vs : Array Value} (h : VRel ρ (.agg cs) (.agg vs)) : VRels ρ cs vs.toList := by
  cases h with
  | agg hl hp => exact ⟨by simpa using hl, fun i a v ha hv => hp i a v ha (by simpa using hv)⟩

theorem VRel.agg' {ρ : Ren} {cs : List AVal} {vs : Array Value} (h : VRels ρ cs vs.toList) : VRel ρ (.agg cs) (.agg vs) :=
  .agg (by simpa using h.1) fun i a v ha hv => h.2 i a v ha (by simpa using hv)

theorem VRel.tuple' {ρ : Ren} {cs : List AVal} {vs : Array Value} (h : VRels ρ cs vs.toList) : VRel ρ (.tuple cs) (.tuple vs) :=
  .tuple (by simpa using h.1) fun i a v ha hv => h.2 i a v ha (by simpa using hv)

theorem VRel.func' {ρ : Ren} {f : FuncId} {cs : List AVal} {vs : Array Value} (h : VRels ρ cs vs.toList) : VRel ρ (.func f cs) (.func (.func f) #[] vs) :=
  .func (by simpa using h.1) fun i a v ha hv => h.2 i a v ha (by simpa using hv)

theorem VRels.of_func {ρ : Ren} {f : FuncId} {cs : List AVal} {vs : Array Value} (h : VRel ρ (.func f cs) (.func (.func f) #[] vs)) : VRels ρ cs vs.toList := by
  cases h with
  | func hl hp => exact ⟨by simpa using hl, fun i a v ha hv => hp i a v ha (by simpa using hv)⟩

theorem VRels.of_tuple {ρ : Ren} {cs : List AVal} {vs : Array Value} (h : VRel ρ (.tuple cs) (.tuple vs)) : VRels ρ cs vs.toList := by
  cases h with
  | tuple hl hp => exact ⟨by simpa using hl, fun i a v ha hv => hp i a v ha (by simpa using hv)⟩

theorem VRel.cells {ρ : Ren} {a : AVal} {v : Value} (h : VRel ρ a v) (hj : a.isJunk = false) : VRels ρ a.cells v.cells.toList := by
  cases h with
  | junk => simp [AVal.isJunk] at hj
  | agg hl hp => exact ⟨by simpa [AVal.cells, Value.cells] using hl, fun i a v ha hv => hp i a v (by simpa [AVal.cells] using ha) (by simpa [Value.cells] using hv)⟩
  | bool b => exact VRels.cons (.bool b) .nil
  | int k n => exact VRels.cons (.int k n) .nil
  | float k n => exact VRels.cons (.float k n) .nil
  | nan k n hn => exact VRels.cons (.nan k n hn) .nil
  | str s => exact VRels.cons (.str s) .nil
  | nilptr => exact VRels.cons .nilptr .nil
  | ptr hb => exact VRels.cons (.ptr hb) .nil
  | nilslice => exact VRels.cons .nilslice .nil
  | slice hb h0 h1 h2 h3 h4 => exact VRels.cons (.slice hb h0 h1 h2 h3 h4) .nil
  | nilmap => exact VRels.cons .nilmap .nil
  | map hb => exact VRels.cons (.map hb) .nil
  | func hl hp => exact VRels.cons (.func hl hp) .nil
  | nilFunc => exact VRels.cons .nilFunc .nil
  | iface h => exact VRels.cons (.iface h) .nil
  | nilIface => exact VRels.cons .nilIface .nil
  | tuple hl hp => exact VRels.cons (.tuple hl hp) .nil

theorem VRel.one {ρ : Ren} {a : AVal} {v : Value} (h : VRel ρ a v) (ho : a.one = true) : v.oneCell' = true := by
  cases h <;> simp [AVal.one] at ho <;> simp [Value.oneCell']

/-! ### Plain values -/

theorem cVal1_rel {v : Value} {a : AVal} (h : cVal1 v = some a) (ρ : Ren) : VRel ρ a v := by
  unfold cVal1 at h
  split at h <;> simp at h <;> subst h <;> constructor

theorem cVals_rel : ∀ {vs : List Value} {as : List AVal}, cVals vs = some as → ∀ ρ, VRels ρ as vs
  | [], as, h, ρ => by simp [cVals] at h; subst h; exact .nil
  | v :: vs, as, h, ρ => by
    simp only [cVals] at h
    split at h
    · rename_i a as' h1 h2
      simp at h; subst h
      exact .cons (cVal1_rel h1 ρ) (cVals_rel h2 ρ)
    · cases h

theorem cVal_rel {v : Value} {a : AVal} (h : cVal v = some a) (ρ : Ren) : VRel ρ a v := by
  unfold cVal at h
  split at h
  · split at h
    · rename_i as h1
      simp at h; subst h
      exact .agg' (cVals_rel h1 ρ)
    · cases h
  · split at h
    · rename_i as h1
      simp at h; subst h
      exact .tuple' (cVals_rel h1 ρ)
    · cases h
  · exact cVal1_rel h ρ

/-! ### Slots -/

def TRel (ρ : Ren) (T : List AVal) (tmps : Array Value) : Prop := VRels ρ T tmps.toList

theorem TRel.get {ρ : Ren} {T : List AVal} {tmps : Array Value} (h : TRel ρ T tmps) (i : Nat) : VRel ρ (T.getD i .junk) (tmps.getD i undef) := by
  by_cases hi : i < T.length
  · have hi' : i < tmps.toList.length := by rw [← h.1]; exact hi
    have := h.2 i T[i] tmps.toList[i] (List.getElem?_eq_getElem hi) (List.getElem?_eq_getElem hi')
    have hs : i < tmps.size := by simpa using hi'
    rw [List.getD_eq_getElem?_getD, List.getElem?_eq_getElem hi]
    simpa [Array.getD, hs] using this
  · rw [List.getD_eq_getElem?_getD, List.getElem?_eq_none (by omega)]
    exact .junk _

theorem TRel.put {ρ : Ren} {T : List AVal} {a : Act} (h : TRel ρ T a.tmps) (d : Option Tmp) {x : AVal} {v : Value} (hv : VRel ρ x v) : TRel ρ (put T d x) (a.put d v).tmps := by
  cases d with
  | none => exact h
  | some d =>
    show VRels ρ (T.set d x) (a.tmps.setIfInBounds d v).toList
    rw [Array.toList_setIfInBounds]
    exact h.set d hv

theorem TRel.mono {ρ ρ' : Ren} (h : ∀ b e, ρ b = some e → ρ' b = some e) {T : List AVal} {tmps : Array Value} (hv : TRel ρ T tmps) : TRel ρ' T tmps := VRels.mono h hv

theorem ev_rel {ρ : Ren} {T : List AVal} {a : Act} (h : TRel ρ T a.tmps) {x : Operand} {y : XOpd} (hc : cOpd x = some y) : VRel ρ (ev T y) (a.eval x) := by
  cases x with
  | tmp t => simp [cOpd] at hc; subst hc; exact h.get t
  | const v =>
    simp only [cOpd] at hc
    split at hc
    · rename_i b hb; simp at hc; subst hc; exact cVal_rel hb ρ
    · cases hc
  | global g => simp [cOpd] at hc
  | func f => simp [cOpd] at hc; subst hc; exact .func' .nil

theorem evs_rel {ρ : Ren} {T : List AVal} {a : Act} (h : TRel ρ T a.tmps) : ∀ {xs : List Operand} {ys : List XOpd}, cOpds xs = some ys → VRels ρ (ys.map (ev T)) (xs.map a.eval)
  | [], ys, hc => by simp [cOpds] at hc; subst hc; exact .nil
  | x :: xs, ys, hc => by
    simp only [cOpds] at hc
    split at hc
    · rename_i b bs h1 h2
      simp at hc; subst hc
      exact .cons (ev_rel h h1) (evs_rel h h2)
    · cases hc

/-! ### Blocks and worlds -/

def ABlk.own : ABlk → Bool
  | .cells ro _ => !ro
  | .map .. => true

def BRel (ρ : Ren) (e : Ent) (x : ABlk) (w : World) : Prop :=
  match x with
  | .cells ro cs => ∃ cc el fz, w.heap[e.cb]? = some (.cells cc el fz) ∧ cc.size = e.csz ∧ (ro = false → fz.1 = fz.2 ∨ e.csz ≤ fz.1) ∧ e.sh + cs.length ≤ e.csz ∧
      VRels ρ cs ((cc.toList.drop e.sh).take cs.length)
  | .map es clock => ∃ es' : Array MapEntry, w.heap[e.cb]? = some (.map es' clock) ∧ VRels ρ (es.map (·.1)) (es'.toList.map (·.key)) ∧ VRels ρ (es.map (·.2.1)) (es'.toList.map (·.val)) ∧
      es.map (·.2.2) = es'.toList.map (·.born)

structure Rel (ρ : Ren) (A : AH) (w : World) : Prop where
  blk : ∀ b e x, ρ b = some e → A.get b = some x → BRel ρ e x w
  inj : ∀ b b' e e' x x', b ≠ b' → ρ b = some e → ρ b' = some e' → A.get b = some x → A.get b' = some x' → x.own = true → e.cb ≠ e'.cb
  fresh : ∀ b, A.next ≤ b → ρ b = none
  freshA : ∀ b, A.next ≤ b → A.get b = none

/-- Which blocks of the world belong to the executor. -/
def Live (ρ : Ren) (A : AH) (c : Nat) (o : Bool) : Prop := ∃ b e x, ρ b = some e ∧ A.get b = some x ∧ (o = true → x.own = true) ∧ e.cb = c

def Owned (ρ : Ren) (A : AH) (c : Nat) : Prop := Live ρ A c true

/-- From one state to another: what was known is known still, what was not the executor's is as it was. -/
structure Step (ρ : Ren) (A : AH) (w : World) (ρ' : Ren) (A' : AH) (w' : World) : Prop where
  le : ∀ b, b < A.next → ρ' b = ρ b
  next : A.next ≤ A'.next
  size : w.heap.size ≤ w'.heap.size
  old : ∀ c, c < w.heap.size → ¬ Owned ρ A c → w'.heap[c]? = w.heap[c]?
  own : ∀ c o, c < w.heap.size → Live ρ' A' c o → Live ρ A c o
  hole : ∀ b, b < A.next → A.get b = none → A'.get b = none
  os : w'.os = w.os
  tape : w'.tape = w.tape
  output : w'.output = w.output
  rel : Rel ρ' A' w'

theorem Step.ext {ρ ρ' : Ren} {A A' : AH} {w w' : World} (hr : Rel ρ A w) (h : Step ρ A w ρ' A' w') : ∀ b e, ρ b = some e → ρ' b = some e := by
  intro b e hb
  by_cases hn : b < A.next
  · rw [h.le b hn]; exact hb
  · rw [hr.fresh b (by omega)] at hb; cases hb

theorem Step.refl {ρ : Ren} {A : AH} {w : World} (h : Rel ρ A w) : Step ρ A w ρ A w :=
  ⟨fun _ _ => rfl, Nat.le_refl _, Nat.le_refl _, fun _ _ _ => rfl, fun _ _ _ h => h, fun _ _ h => h, rfl, rfl, rfl, h⟩

theorem Step.trans {ρ₁ ρ₂ ρ₃ : Ren} {A₁ A₂ A₃ : AH} {w₁ w₂ w₃ : World} (h : Step ρ₁ A₁ w₁ ρ₂ A₂ w₂) (k : Step ρ₂ A₂ w₂ ρ₃ A₃ w₃) : Step ρ₁ A₁ w₁ ρ₃ A₃ w₃ where
  le b hb := by rw [k.le b (Nat.lt_of_lt_of_le hb h.next), h.le b hb]
  next := Nat.le_trans h.next k.next
  size := Nat.le_trans h.size k.size
  old c hc hn := by
    have h2 : ¬ Owned ρ₂ A₂ c := fun ho => hn (h.own c true hc ho)
    rw [k.old c (Nat.lt_of_lt_of_le hc h.size) h2, h.old c hc hn]
  own c o hc ho := h.own c o hc (k.own c o (Nat.lt_of_lt_of_le hc h.size) ho)
  hole b hb hg := k.hole b (Nat.lt_of_lt_of_le hb h.next) (h.hole b hb hg)
  os := k.os.trans h.os
  tape := k.tape.trans h.tape
  output := k.output.trans h.output
  rel := k.rel

theorem Rel.block_lt {ρ : Ren} {A : AH} {w : World} (h : Rel ρ A w) {b : Nat} {e : Ent} {x : ABlk} (hb : ρ b = some e) (hx : A.get b = some x) : e.cb < w.heap.size := by
  have := h.blk b e x hb hx
  cases x with
  | cells ro cs =>
    obtain ⟨cc, el, fz, hh, _⟩ := this
    rcases Nat.lt_or_ge e.cb w.heap.size with h' | h'
    · exact h'
    · simp [Array.getElem?_eq_none h'] at hh
  | map es clock =>
    obtain ⟨es', hh, _⟩ := this
    rcases Nat.lt_or_ge e.cb w.heap.size with h' | h'
    · exact h'
    · simp [Array.getElem?_eq_none h'] at hh

theorem BRel.congr {ρ : Ren} {e : Ent} {x : ABlk} {w w' : World} (h : BRel ρ e x w) (hw : w'.heap[e.cb]? = w.heap[e.cb]?) : BRel ρ e x w' := by
  cases x with
  | cells ro cs => obtain ⟨cc, el, fz, hh, r⟩ := h; exact ⟨cc, el, fz, hw.trans hh, r⟩
  | map es clock => obtain ⟨es', hh, r⟩ := h; exact ⟨es', hw.trans hh, r⟩

theorem BRel.mono {ρ ρ' : Ren} (hm : ∀ b e, ρ b = some e → ρ' b = some e) {e : Ent} {x : ABlk} {w : World} (h : BRel ρ e x w) : BRel ρ' e x w := by
  cases x with
  | cells ro cs => obtain ⟨cc, el, fz, hh, h1, h2, h3, h4⟩ := h; exact ⟨cc, el, fz, hh, h1, h2, h3, h4.mono hm⟩
  | map es clock => obtain ⟨es', hh, h1, h2, h3⟩ := h; exact ⟨es', hh, h1.mono hm, h2.mono hm, h3⟩

/-- Only the heap is looked at. -/
theorem Rel.heap {ρ : Ren} {A : AH} {w w' : World} (h : Rel ρ A w) (hh : w'.heap = w.heap) : Rel ρ A w' :=
  ⟨fun b e x hb hx => (h.blk b e x hb hx).congr (by rw [hh]), h.inj, h.fresh, h.freshA⟩

/-- A draw. -/
theorem Step.drew {ρ : Ren} {A : AH} {w : World} (h : Rel ρ A w) : Step ρ A w ρ A w.drew :=
  ⟨fun _ _ => rfl, Nat.le_refl _, Nat.le_refl _, fun _ _ _ => rfl, fun _ _ _ h => h, fun _ _ h => h, rfl, rfl, rfl, h.heap rfl⟩

/-! ### Reading -/

theorem BRel.cells_get {ρ : Ren} {e : Ent} {ro : Bool} {cs : List AVal} {w : World} (h : BRel ρ e (.cells ro cs) w) {o : Nat} {a : AVal} (ha : cs[o]? = some a) :
    ∃ v, w.cell? ⟨e.cb, e.sh + o, none⟩ = some v ∧ VRel ρ a v := by
  obtain ⟨cc, el, fz, hh, h1, h2, h3, h4⟩ := h
  have ho : o < cs.length := by
    rcases Nat.lt_or_ge o cs.length with h' | h'
    · exact h'
    · rw [List.getElem?_eq_none h'] at ha; cases ha
  have hc : e.sh + o < cc.size := by omega
  refine ⟨cc[e.sh + o], by simp [World.cell?, hh, hc], h4.2 o a _ ha ?_⟩
  rw [List.getElem?_take, if_pos ho, List.getElem?_drop]
  simp [hc]

theorem Rel.rd1 {ρ : Ren} {A : AH} {w : World} (h : Rel ρ A w) {b o : Nat} {e : Ent} {a : AVal} (hb : ρ b = some e) (hr : A.rd1 b o = some a) :
    ∃ v, w.cell? ⟨e.cb, e.sh + o, none⟩ = some v ∧ VRel ρ a v := by
  unfold AH.rd1 at hr
  split at hr
  · rename_i ro cs hx; exact (h.blk b e _ hb hx).cells_get hr
  · cases hr

theorem Rel.rd {ρ : Ren} {A : AH} {w : World} (h : Rel ρ A w) {b o n : Nat} {e : Ent} {as : List AVal} (hb : ρ b = some e) (hr : A.rd b o n = some as) :
    ∃ vs : List Value, vs.length = n ∧ (∀ j v, vs[j]? = some v → w.cell? ((⟨e.cb, e.sh + o, none⟩ : Addr).add j) = some v) ∧ VRels ρ as vs := by
  unfold AH.rd at hr
  split at hr
  · rename_i ro cs hx
    split at hr
    · rename_i hlen
      simp at hr
      obtain ⟨cc, el, fz, hh, h1, h2, h3, h4⟩ := h.blk b e _ hb hx
      have hvs := (h4.drop o).take n
      rw [hr] at hvs
      refine ⟨_, ?_, ?_, hvs⟩
      · have := hvs.1
        rw [← this, ← hr]
        simp; omega
      · intro j v hv
        have hj : j < n := by
          rcases Nat.lt_or_ge j n with h' | h'
          · exact h'
          · rw [List.getElem?_take, if_neg (by omega)] at hv; cases hv
        rw [List.getElem?_take, if_pos hj, List.getElem?_drop, List.getElem?_take, if_pos (by omega), List.getElem?_drop] at hv
        have ha : (⟨e.cb, e.sh + o, none⟩ : Addr).add j = ⟨e.cb, e.sh + o + j, none⟩ := by
          unfold Addr.add; split
          · rename_i h0; subst h0; rfl
          · rfl
        rw [ha]
        simp only [World.cell?, hh]
        rw [Nat.add_assoc]
        simpa using hv
    · cases hr
  · cases hr

end Ab
