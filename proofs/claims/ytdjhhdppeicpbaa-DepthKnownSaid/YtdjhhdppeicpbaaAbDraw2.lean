/- Regions whose order is open: the run in the text's order. -/
import Derived.Test.YtdjhhdppeicpbaaAbDraw1
namespace Ab
open Go

inductive DStepI (call : FuncId → List AVal → AH → Res) (id : Nat) (o : XOper) (s : DSt) : DSt → Prop where
  | skip : wants s.T o.guard = some false → DStepI call id o s { s with T := put s.T o.dst (.tuple []), bs := if isChain o.op then s.A :: s.bs else s.bs }
  | pure {v : AVal} : wants s.T o.guard = some true → isPure o.op = true → apure s.T o.op = some v → DStepI call id o s { s with T := put s.T o.dst v }
  | read {v : AVal} : wants s.T o.guard = some true → isPure o.op = false → isRead o.op = true → aread s.T s.A o.op = some v → DStepI call id o s { s with T := put s.T o.dst v }
  | free {x : ABlk} {k : Nat → AVal} : wants s.T o.guard = some true → isPure o.op = false → isRead o.op = false → isFree o.op = true → afree s.T o.op = some (x, k) → DStepI call id o s { s with T := put s.T o.dst (k id), A := s.A.set id x }
  | call {f : FuncId} {args : List AVal} {v : AVal} {A' : AH} : wants s.T o.guard = some true → isChain o.op = true → acallee s.T s.A o.op = some (f, args) → call f args s.A = .ret v A' → DStepI call id o s { s with T := put s.T o.dst v, A := A', bs := s.A :: s.bs }
  | chain {v : AVal} {A' : AH} : wants s.T o.guard = some true → isChain o.op = true → achain s.T s.A o.op = some (v, A') → DStepI call id o s { s with T := put s.T o.dst v, A := A', bs := s.A :: s.bs }

theorem dstep_inv {call : FuncId → List AVal → AH → Res} {id : Nat} {o : XOper} {s s' : DSt} (h : dstep call id o s = .ok s') : DStepI call id o s s' := by
  unfold dstep at h
  split at h
  · cases h
  · rename_i hw; cases h; exact .skip hw
  · rename_i hw
    split at h
    · rename_i hp
      split at h
      · rename_i v hv; cases h; exact .pure hw hp hv
      · cases h
    rename_i hp
    split at h
    · rename_i hr
      split at h
      · rename_i v hv; cases h; exact .read hw (by simpa using hp) hr hv
      · cases h
    rename_i hr
    split at h
    · rename_i hf
      split at h
      · rename_i x k hv; cases h; exact .free hw (by simpa using hp) (by simpa using hr) hf hv
      · cases h
    rename_i hf
    have hch : isChain o.op = true := by simp [isChain, hp, hr, hf]
    split at h
    · split at h
      · cases h
      · rename_i f args hcal
        split at h
        · cases h
        · rename_i v A' hres; cases h; exact .call hw hch hcal hres
        · cases h
    · split at h
      · rename_i v A' hv; cases h; exact .chain hw hch hv
      · cases h

theorem dstep_pan {call : FuncId → List AVal → AH → Res} {id : Nat} {o : XOper} {s s' : DSt} {v : AVal} {A' : AH} (h : dstep call id o s = .pan v s' A') :
    s' = s ∧ wants s.T o.guard = some true ∧ isChain o.op = true ∧ ∃ f args, acallee s.T s.A o.op = some (f, args) ∧ call f args s.A = .pan v A' := by
  unfold dstep at h
  split at h
  · cases h
  · cases h
  · rename_i hw
    split at h
    · split at h <;> cases h
    rename_i hp
    split at h
    · split at h <;> cases h
    rename_i hr
    split at h
    · split at h <;> cases h
    rename_i hf
    have hch : isChain o.op = true := by simp [isChain, hp, hr, hf]
    split at h
    · split at h
      · cases h
      · rename_i f args hcal
        split at h
        · cases h
        · cases h
        · rename_i v A' hres; cases h; exact ⟨rfl, hw, hch, f, args, hcal, hres⟩
    · split at h <;> cases h

theorem drun_done {call : FuncId → List AVal → AH → Res} {base : Nat} : ∀ (rest : List XOper) (k : Nat) (s s' : DSt), drun call base k rest s = .done s' →
    ∃ st : Nat → DSt, st 0 = s ∧ st rest.length = s' ∧ ∀ i x, rest[i]? = some x → dstep call (base + (k + i)) x (st i) = .ok (st (i + 1))
  | [], k, s, s', h => by
    simp only [drun] at h; cases h
    exact ⟨fun _ => s, rfl, rfl, by simp⟩
  | o :: rest, k, s, s', h => by
    simp only [drun] at h
    split at h
    · cases h
    · rename_i s1 h1
      obtain ⟨st, e1, e2, e3⟩ := drun_done rest (k + 1) s1 s' h
      refine ⟨fun i => if i = 0 then s else st (i - 1), rfl, by simpa using e2, fun i x hx => ?_⟩
      cases i with
      | zero => simp at hx; subst hx; simp only [if_true, Nat.add_zero, Nat.zero_add, Nat.one_ne_zero, if_false, Nat.sub_self, e1]; exact h1
      | succ i =>
        have := e3 i x (by simpa using hx)
        simp only [Nat.add_one_ne_zero, if_false, Nat.add_sub_cancel]
        rw [show k + (i + 1) = k + 1 + i by omega]
        exact this
    · cases h

theorem drun_pan {call : FuncId → List AVal → AH → Res} {base : Nat} : ∀ (rest : List XOper) (k : Nat) (s : DSt) (p : Nat) (v : AVal) (s' : DSt) (A' : AH), drun call base k rest s = .pan p v s' A' →
    ∃ (st : Nat → DSt) (i : Nat) (x : XOper), p = k + i ∧ st 0 = s ∧ st i = s' ∧ rest[i]? = some x ∧ dstep call (base + p) x s' = .pan v s' A' ∧ ∀ j x, j < i → rest[j]? = some x → dstep call (base + (k + j)) x (st j) = .ok (st (j + 1))
  | [], k, s, p, v, s', A', h => by simp only [drun] at h; cases h
  | o :: rest, k, s, p, v, s', A', h => by
    simp only [drun] at h
    split at h
    · cases h
    · rename_i s1 h1
      obtain ⟨st, i, x, e0, e1, e2, e3, e4, e5⟩ := drun_pan rest (k + 1) s1 p v s' A' h
      refine ⟨fun i => if i = 0 then s else st (i - 1), i + 1, x, by omega, rfl, by simpa using e2, by simpa using e3, e4, fun j y hj hy => ?_⟩
      cases j with
      | zero => simp at hy; subst hy; simp only [if_true, Nat.add_zero, Nat.zero_add, Nat.one_ne_zero, if_false, Nat.sub_self, e1]; exact h1
      | succ j =>
        have := e5 j y (by omega) (by simpa using hy)
        simp only [Nat.add_one_ne_zero, if_false, Nat.add_sub_cancel]
        rw [show k + (j + 1) = k + 1 + j by omega]
        exact this
    · rename_i v1 s1 A1 h1
      cases h
      have := (dstep_pan h1).1
      exact ⟨fun _ => s, 0, o, rfl, rfl, this.symm, rfl, by rw [this] at h1 ⊢; exact h1, by intro j x hj; omega⟩

/-- How many operations that turn memory stand ahead of a place. -/
def cnt (xs : List XOper) (i : Nat) : Nat := (placesOf (fun o => isChain o.op) xs).countP (· < i)

theorem countP_add_one {l : List Nat} (hn : l.Nodup) (i : Nat) : l.countP (· < i + 1) = l.countP (· < i) + if i ∈ l then 1 else 0 := by
  induction l with
  | nil => simp
  | cons x l ih =>
    rw [List.nodup_cons] at hn
    have h := ih hn.2
    rw [List.countP_cons, List.countP_cons, h]
    by_cases hx : x = i
    · subst hx
      simp [hn.1]
    · have h1 : (i ∈ x :: l) ↔ i ∈ l := by simp [Ne.symm hx]
      by_cases hlt : x < i
      · have : x < i + 1 := by omega
        simp [hlt, this, h1]; omega
      · have : ¬ x < i + 1 := by omega
        simp [hlt, this, h1]

theorem cnt_succ (xs : List XOper) (i : Nat) : cnt xs (i + 1) = cnt xs i + if i ∈ placesOf (fun o => isChain o.op) xs then 1 else 0 := countP_add_one (placesOf_nodup _ _) i

theorem cnt_chain {xs : List XOper} {i : Nat} {x : XOper} (hx : xs[i]? = some x) (h : isChain x.op = true) : cnt xs (i + 1) = cnt xs i + 1 := by
  rw [cnt_succ, if_pos (mem_placesOf.2 ⟨x, hx, h⟩)]

theorem cnt_other {xs : List XOper} {i : Nat} {x : XOper} (hx : xs[i]? = some x) (h : isChain x.op = false) : cnt xs (i + 1) = cnt xs i := by
  rw [cnt_succ, if_neg fun hm => ?_]
  · rfl
  · obtain ⟨y, h1, h2⟩ := mem_placesOf.1 hm
    rw [hx] at h1; cases h1
    rw [h] at h2; cases h2

theorem cnt_mono (xs : List XOper) {i j : Nat} (h : i ≤ j) : cnt xs i ≤ cnt xs j := by
  unfold cnt
  apply List.countP_mono_left
  intro x _ hx
  simp only [decide_eq_true_eq] at hx ⊢
  omega

/-- The run in the text's order: 'st i' is the state ahead of operation i, for i up to m. -/
structure Text (call : FuncId → List AVal → AH → Res) (xs : List XOper) (T0 : List AVal) (D0 : List ADef) (A0 : AH) (m : Nat) (st : Nat → DSt) : Prop where
  st0 : st 0 = { T := T0, D := D0, A := A0.bump xs.length, bs := [] }
  le : m ≤ xs.length
  step : ∀ i x, i < m → xs[i]? = some x → DStepI call (A0.next + i) x (st i) (st (i + 1))

theorem put_getD (T : List AVal) (d : Option Nat) (v : AVal) (r : Nat) : (put T d v).getD r .junk = if d = some r ∧ r < T.length then v else T.getD r .junk := by
  cases d with
  | none => simp [put]
  | some d =>
    simp only [put, List.getD_eq_getElem?_getD, List.getElem?_set, Option.some.injEq]
    by_cases h : d = r
    · subst h
      by_cases hl : d < T.length
      · simp [hl]
      · simp [hl]
    · simp [h]

theorem put_length (T : List AVal) (d : Option Nat) (v : AVal) : (put T d v).length = T.length := by cases d <;> simp [put]

section
variable {call : FuncId → List AVal → AH → Res} {xs : List XOper} {T0 : List AVal} {D0 : List ADef} {A0 : AH} {m : Nat} {st : Nat → DSt}

theorem DStepI.put {id : Nat} {o : XOper} {s s' : DSt} (h : DStepI call id o s s') : ∃ v, s'.T = Ab.put s.T o.dst v := by cases h <;> exact ⟨_, rfl⟩
theorem DStepI.D {id : Nat} {o : XOper} {s s' : DSt} (h : DStepI call id o s s') : s'.D = s.D := by cases h <;> rfl
theorem DStepI.bs {id : Nat} {o : XOper} {s s' : DSt} (h : DStepI call id o s s') : s'.bs = if isChain o.op then s.A :: s.bs else s.bs := by
  cases h with
  | skip => rfl
  | pure _ h => simp [isChain, h]
  | read _ _ h => simp [isChain, h]
  | free _ _ _ h => simp [isChain, h]
  | call _ h => simp [h]
  | chain _ h => simp [h]

theorem Text.at (h : Text call xs T0 D0 A0 m st) {i : Nat} (hi : i < m) : ∃ x, xs[i]? = some x ∧ DStepI call (A0.next + i) x (st i) (st (i + 1)) := by
  have hlt : i < xs.length := Nat.lt_of_lt_of_le hi h.le
  exact ⟨xs[i], List.getElem?_eq_getElem hlt, h.step i _ hi (List.getElem?_eq_getElem hlt)⟩

theorem Text.D (h : Text call xs T0 D0 A0 m st) : ∀ i, i ≤ m → (st i).D = D0 := by
  intro i
  induction i with
  | zero => intro _; rw [h.st0]
  | succ i ih => intro hi; obtain ⟨x, _, hs⟩ := h.at (i := i) (by omega); rw [hs.D, ih (by omega)]

theorem Text.length (h : Text call xs T0 D0 A0 m st) : ∀ i, i ≤ m → (st i).T.length = T0.length := by
  intro i
  induction i with
  | zero => intro _; rw [h.st0]
  | succ i ih => intro hi; obtain ⟨x, _, hs⟩ := h.at (i := i) (by omega); obtain ⟨v, hv⟩ := hs.put; rw [hv, put_length, ih (by omega)]

/-- A slot that nothing between two places writes. -/
theorem Text.slot (h : Text call xs T0 D0 A0 m st) {i r : Nat} : ∀ j, i ≤ j → j ≤ m → (∀ l y, i ≤ l → l < j → xs[l]? = some y → y.dst ≠ some r) → (st j).T.getD r .junk = (st i).T.getD r .junk := by
  intro j
  induction j with
  | zero => intro hij _ _; rw [show i = 0 by omega]
  | succ j ih =>
    intro hij hj hw
    by_cases hij' : i = j + 1
    · rw [hij']
    · obtain ⟨x, hx, hs⟩ := h.at (i := j) (by omega)
      obtain ⟨v, hv⟩ := hs.put
      rw [hv, put_getD, if_neg fun hc => hw j x (by omega) (by omega) hx hc.1]
      exact ih (by omega) (by omega) fun l y h1 h2 h3 => hw l y h1 (by omega) h3

theorem Text.bs_length (h : Text call xs T0 D0 A0 m st) : ∀ i, i ≤ m → (st i).bs.length = cnt xs i := by
  intro i
  induction i with
  | zero => intro _; rw [h.st0]; simp [cnt]
  | succ i ih =>
    intro hi
    obtain ⟨x, hx, hs⟩ := h.at (i := i) (by omega)
    rw [hs.bs]
    by_cases hc : isChain x.op = true
    · rw [cnt_chain hx hc, if_pos hc, List.length_cons, ih (by omega)]
    · simp only [Bool.not_eq_true] at hc
      rw [cnt_other hx hc, hc]
      exact ih (by omega)

theorem Text.bs_prefix (h : Text call xs T0 D0 A0 m st) {i : Nat} : ∀ j, i ≤ j → j ≤ m → ∃ l, (st j).bs.reverse = (st i).bs.reverse ++ l := by
  intro j
  induction j with
  | zero => intro hij _; rw [show i = 0 by omega]; exact ⟨[], by simp⟩
  | succ j ih =>
    intro hij hj
    by_cases hij' : i = j + 1
    · rw [hij']; exact ⟨[], by simp⟩
    · obtain ⟨l, hl⟩ := ih (by omega) (by omega)
      obtain ⟨x, hx, hs⟩ := h.at (i := j) (by omega)
      rw [hs.bs]
      split
      · exact ⟨l ++ [(st j).A], by simp [hl]⟩
      · exact ⟨l, hl⟩

/-- The memory behind k operations that turn it (and what is laid up to the next). -/
def bmem (st : Nat → DSt) (m k : Nat) : AH := ((st m).A :: (st m).bs).reverse.getD k ⟨0, .e⟩

theorem Text.bmem_get (h : Text call xs T0 D0 A0 m st) {k : Nat} (hk : k ≤ cnt xs m) : ((st m).A :: (st m).bs).reverse[k]? = some (bmem st m k) := by
  have hl : k < ((st m).A :: (st m).bs).reverse.length := by simp [h.bs_length m (Nat.le_refl _)]; omega
  unfold bmem
  rw [List.getD_eq_getElem?_getD, List.getElem?_eq_getElem hl]; rfl

theorem Text.bmem_last (h : Text call xs T0 D0 A0 m st) : bmem st m (cnt xs m) = (st m).A := by
  have hl := h.bs_length m (Nat.le_refl _)
  unfold bmem
  rw [List.reverse_cons, List.getD_eq_getElem?_getD, List.getElem?_append_right (by simp [hl])]
  simp [hl]

theorem Text.bmem_chain (h : Text call xs T0 D0 A0 m st) {i : Nat} {x : XOper} (hi : i < m) (hx : xs[i]? = some x) (hc : isChain x.op = true) : bmem st m (cnt xs i) = (st i).A := by
  have hs := h.step i x hi hx
  obtain ⟨l, hl⟩ := h.bs_prefix (i := i + 1) m (by omega) (Nat.le_refl _)
  rw [hs.bs, if_pos hc] at hl
  have h1 := h.bs_length i (by omega)
  unfold bmem
  rw [List.reverse_cons, hl, List.reverse_cons, List.append_assoc, List.append_assoc, List.getD_eq_getElem?_getD, List.getElem?_append_right (by simp [h1])]
  simp [h1]

/-- What operation i lays. -/
def Fr (xs : List XOper) (m : Nat) (st : Nat → DSt) (i : Nat) (b : ABlk) : Prop := i < m ∧ ∃ x, xs[i]? = some x ∧ isFree x.op = true ∧ isChain x.op = false ∧ wants (st i).T x.guard = some true ∧ ∃ k, afree (st i).T x.op = some (b, k)

theorem DStepI.other {id : Nat} {o : XOper} {s s' : DSt} (h : DStepI call id o s s') (hc : isChain o.op = false) : s'.A = s.A ∨ ∃ x, s'.A = s.A.set id x ∧ isFree o.op = true ∧ wants s.T o.guard = some true ∧ ∃ k, afree s.T o.op = some (x, k) := by
  cases h with
  | skip => exact .inl rfl
  | pure => exact .inl rfl
  | read => exact .inl rfl
  | free h1 h2 h3 h4 h5 => exact .inr ⟨_, rfl, h4, h1, _, h5⟩
  | call _ h => rw [hc] at h; cases h
  | chain _ h => rw [hc] at h; cases h

theorem Text.seg (h : Text call xs T0 D0 A0 m st) : ∀ d i, d = m - i → i ≤ m → (bmem st m (cnt xs i)).next = (st i).A.next ∧
    ∀ b, (bmem st m (cnt xs i)).get b = (st i).A.get b ∨ ∃ j x, i ≤ j ∧ cnt xs j = cnt xs i ∧ Fr xs m st j x ∧ b = A0.next + j ∧ (bmem st m (cnt xs i)).get b = some x := by
  intro d
  induction d with
  | zero =>
    intro i hd hi
    have : i = m := by omega
    subst this
    rw [h.bmem_last]
    exact ⟨rfl, fun b => .inl rfl⟩
  | succ d ih =>
    intro i hd hi
    obtain ⟨x, hx, hs⟩ := h.at (i := i) (by omega)
    by_cases hc : isChain x.op = true
    · rw [h.bmem_chain (by omega) hx hc]
      exact ⟨rfl, fun b => .inl rfl⟩
    · simp only [Bool.not_eq_true] at hc
      obtain ⟨e1, e2⟩ := ih (i + 1) (by omega) (by omega)
      rw [cnt_other hx hc] at e1 e2
      rcases hs.other hc with hA | ⟨y, hA, hf, hw, k, hk⟩
      · rw [hA] at e1 e2
        refine ⟨e1, fun b => ?_⟩
        rcases e2 b with h2 | ⟨j, z, h3, h4⟩
        · exact .inl h2
        · exact .inr ⟨j, z, by omega, h4⟩
      · rw [hA] at e1 e2
        refine ⟨e1, fun b => ?_⟩
        rcases e2 b with h2 | ⟨j, z, h3, h4⟩
        · rw [AH.get_set] at h2
          split at h2
          · rename_i hb
            exact .inr ⟨i, y, Nat.le_refl _, rfl, ⟨by omega, x, hx, hf, hc, hw, k, hk⟩, hb, h2⟩
          · exact .inl h2
        · exact .inr ⟨j, z, by omega, h4⟩

theorem Text.fr_mem (h : Text call xs T0 D0 A0 m st) {j : Nat} {x : ABlk} (hf : Fr xs m st j x) : (bmem st m (cnt xs j)).get (A0.next + j) = some x := by
  obtain ⟨hj, y, hy, h1, h2, h3, k, hk⟩ := hf
  have hs := h.step j y hj hy
  obtain ⟨_, e2⟩ := h.seg (m - (j + 1)) (j + 1) rfl (by omega)
  rw [cnt_other hy h2] at e2
  rcases e2 (A0.next + j) with e | ⟨j', x', e3, _, _, e4, _⟩
  · rw [e]
    generalize st (j + 1) = s' at hs ⊢
    cases hs with
    | skip hw => rw [h3] at hw; cases hw
    | pure _ hp => cases hop : y.op <;> simp [hop, isFree, isPure] at h1 hp
    | read _ _ hp => cases hop : y.op <;> simp [hop, isFree, isRead] at h1 hp
    | free _ _ _ _ hk' => rw [hk] at hk'; cases hk'; simp
    | call _ hc => rw [h2] at hc; cases hc
    | chain _ hc => rw [h2] at hc; cases hc
  · omega

theorem Fr.fun {j : Nat} {x y : ABlk} (h : Fr xs m st j x) (h' : Fr xs m st j y) : x = y := by
  obtain ⟨_, a, ha, _, _, _, k, hk⟩ := h
  obtain ⟨_, b, hb, _, _, _, k', hk'⟩ := h'
  rw [ha] at hb; cases hb
  rw [hk] at hk'; cases hk'; rfl

/-- Numbers that are not laid yet are free. -/
theorem Text.holes (h : Text call xs T0 D0 A0 m st) {s : Nat} (hs : ∀ j, s ≤ j → j < xs.length → (st s).A.get (A0.next + j) = none) : ∀ i, s ≤ i → i ≤ m → cnt xs i = cnt xs s →
    (st i).A.next = (st s).A.next ∧ ∀ j, i ≤ j → j < xs.length → (st i).A.get (A0.next + j) = none := by
  intro i
  induction i with
  | zero => intro hsi _ _; rw [show s = 0 by omega] at hs ⊢; exact ⟨rfl, hs⟩
  | succ i ih =>
    intro hsi hi hc
    by_cases hsi' : s = i + 1
    · rw [hsi'] at hs ⊢; exact ⟨rfl, hs⟩
    · have h1 := cnt_mono xs (show s ≤ i by omega)
      have h2 := cnt_mono xs (show i ≤ i + 1 by omega)
      obtain ⟨x, hx, hst⟩ := h.at (i := i) (by omega)
      have hch : isChain x.op = false := by
        cases hcc : isChain x.op with
        | false => rfl
        | true => have := cnt_chain hx hcc; omega
      obtain ⟨e1, e2⟩ := ih (by omega) (by omega) (by omega)
      rcases hst.other hch with hA | ⟨y, hA, _⟩
      · rw [hA]; exact ⟨e1, fun j hj => e2 j (by omega)⟩
      · rw [hA]
        refine ⟨e1, fun j hj hj' => ?_⟩
        rw [AH.get_set_ne _ _ _ _ (by omega)]
        exact e2 j (by omega) hj'

end
end Ab
