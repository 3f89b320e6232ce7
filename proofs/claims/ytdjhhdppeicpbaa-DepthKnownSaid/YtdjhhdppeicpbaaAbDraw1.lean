/- Regions whose order is open: what the table says. -/
import Derived.Test.YtdjhhdppeicpbaaAbCongr
namespace Ab
open Go

theorem masksOk_get {tb : List Nat} : ∀ (os : List Oper) (k : Nat), masksOk tb k os = true → ∀ (i : Nat) (o : Oper), os[i]? = some o → maskOk tb (k + i) o = true
  | [], _, _, i, o, h => by simp at h
  | x :: os, k, hm, i, o, h => by
    simp only [masksOk, Bool.and_eq_true] at hm
    cases i with
    | zero => simp at h; subst h; exact hm.1
    | succ i =>
      have := masksOk_get os (k + 1) hm.2 i o (by simpa using h)
      rw [show k + (i + 1) = k + 1 + i by omega]
      exact this

/-- The operation j stands ahead of i. -/
def Before (tb : List Nat) (i j : Nat) : Prop := (tb.getD i 0).testBit j = true

theorem fold_testBit (tb : List Nat) (j : Nat) : ∀ (es : List Edge) (s : Nat), (es.foldl (fun s e => if Region.binds .any e then s ||| 2 ^ e.on ||| tb.getD e.on 0 else s) s).testBit j = true ↔
    s.testBit j = true ∨ ∃ e ∈ es, Region.binds .any e = true ∧ (j = e.on ∨ Before tb e.on j)
  | [], s => by simp
  | e :: es, s => by
    rw [List.foldl_cons, fold_testBit tb j es]
    by_cases hb : Region.binds .any e = true
    · simp only [hb, if_true, Nat.testBit_or, Nat.testBit_two_pow, Bool.or_eq_true, decide_eq_true_eq, List.mem_cons, Before]
      constructor
      · rintro (((h | h) | h) | ⟨e', h1, h2⟩)
        · exact .inl h
        · exact .inr ⟨e, .inl rfl, hb, .inl h.symm⟩
        · exact .inr ⟨e, .inl rfl, hb, .inr h⟩
        · exact .inr ⟨e', .inr h1, h2⟩
      · intro hh
        rcases hh with h | ⟨e', h1 | h1, h2, h3⟩
        · exact .inl (.inl (.inl h))
        · subst h1
          rcases h3 with h3 | h3
          · exact .inl (.inl (.inr h3.symm))
          · exact .inl (.inr h3)
        · exact .inr ⟨e', h1, h2, h3⟩
    · simp only [hb, Bool.false_eq_true, if_false, List.mem_cons]
      constructor
      · rintro (h | ⟨e', h1, h2⟩)
        · exact .inl h
        · exact .inr ⟨e', .inr h1, h2⟩
      · intro hh
        rcases hh with h | ⟨e', h1 | h1, h2, h3⟩
        · exact .inl h
        · subst h1; exact absurd h2 hb
        · exact .inr ⟨e', h1, h2, h3⟩

theorem mem_dsts {d : Nat} : ∀ {xs : List XOper}, d ∈ dsts xs ↔ ∃ (i : Nat) (x : XOper), xs[i]? = some x ∧ x.dst = some d
  | [] => by simp [dsts]
  | x :: xs => by
    have ih := @mem_dsts d xs
    simp only [dsts]
    split
    · rename_i d' hd
      rw [List.mem_cons, ih]
      constructor
      · rintro (h | ⟨i, y, h1, h2⟩)
        · exact ⟨0, x, rfl, by rw [hd, h]⟩
        · exact ⟨i + 1, y, by simpa using h1, h2⟩
      · rintro ⟨i, y, h1, h2⟩
        cases i with
        | zero => simp at h1; subst h1; rw [hd] at h2; cases h2; exact .inl rfl
        | succ i => exact .inr ⟨i, y, by simpa using h1, h2⟩
    · rename_i hd
      rw [ih]
      constructor
      · rintro ⟨i, y, h1, h2⟩; exact ⟨i + 1, y, by simpa using h1, h2⟩
      · rintro ⟨i, y, h1, h2⟩
        cases i with
        | zero => simp at h1; subst h1; rw [hd] at h2; cases h2
        | succ i => exact ⟨i, y, by simpa using h1, h2⟩

theorem distinct_dst : ∀ {xs : List XOper}, distinctB (dsts xs) = true → ∀ {i j : Nat} {x y : XOper} {d : Nat}, xs[i]? = some x → xs[j]? = some y → x.dst = some d → y.dst = some d → i = j
  | [], _, i, j, x, y, d, h1, _, _, _ => by simp at h1
  | z :: xs, h, i, j, x, y, d, h1, h2, h3, h4 => by
    simp only [dsts] at h
    have tl : distinctB (dsts xs) = true := by
      split at h
      · simp only [distinctB, Bool.and_eq_true] at h; exact h.2
      · exact h
    have hd : ∀ d, z.dst = some d → d ∉ dsts xs := by
      intro d hd hm
      simp only [hd, distinctB, Bool.and_eq_true, Bool.not_eq_true'] at h
      have := h.1
      simp [hm] at this
    cases i with
    | zero =>
      simp at h1; subst h1
      cases j with
      | zero => rfl
      | succ j => exact absurd (mem_dsts.2 ⟨j, y, by simpa using h2, h4⟩) (hd d h3)
    | succ i =>
      cases j with
      | zero => simp at h2; subst h2; exact absurd (mem_dsts.2 ⟨i, x, by simpa using h1, h3⟩) (hd d h4)
      | succ j => rw [distinct_dst tl (i := i) (j := j) (by simpa using h1) (by simpa using h2) h3 h4]

theorem mem_placesOf {p : XOper → Bool} {xs : List XOper} {i : Nat} : i ∈ placesOf p xs ↔ ∃ x, xs[i]? = some x ∧ p x = true := by
  simp only [placesOf, List.mem_filter, List.mem_range]
  constructor
  · rintro ⟨h1, h2⟩
    rw [List.getElem?_eq_getElem h1] at h2
    exact ⟨xs[i], List.getElem?_eq_getElem h1, h2⟩
  · rintro ⟨x, h1, h2⟩
    exact ⟨(List.getElem?_eq_some_iff.1 h1).1, by rw [h1]; exact h2⟩

theorem placesOf_nodup (p : XOper → Bool) (xs : List XOper) : (placesOf p xs).Nodup := List.Pairwise.filter _ List.nodup_range

theorem placesOf_sorted (p : XOper → Bool) (xs : List XOper) : (placesOf p xs).Pairwise (· < ·) := List.Pairwise.filter _ List.pairwise_lt_range

theorem pairsOk_get {p : Nat → Nat → Bool} : ∀ {l : List Nat}, l.Pairwise (· < ·) → pairsOk p l = true → ∀ a b, a ∈ l → b ∈ l → a < b → p a b = true
  | [], _, _, a, b, ha, _, _ => by cases ha
  | x :: l, hs, h, a, b, ha, hb, hlt => by
    simp only [pairsOk, Bool.and_eq_true, List.all_eq_true] at h
    rw [List.pairwise_cons] at hs
    rcases List.mem_cons.1 ha with rfl | ha'
    · rcases List.mem_cons.1 hb with rfl | hb'
      · omega
      · exact h.1 b hb'
    · rcases List.mem_cons.1 hb with rfl | hb'
      · exact absurd (hs.1 a ha') (by omega)
      · exact pairsOk_get hs.2 h.2 a b ha' hb' hlt

theorem slotsOk_get {tb : List Nat} {strict : Bool} {i : Nat} {rs : List Nat} : ∀ (xs : List XOper) (k : Nat), slotsOk tb strict i rs k xs = true → ∀ (j : Nat) (y : XOper) (r : Nat), xs[j]? = some y → y.dst = some r → r ∈ rs →
    (strict = false ∧ k + j = i) ∨ Before tb i (k + j) ∨ (strict = false ∧ Before tb (k + j) i)
  | [], _, _, j, y, r, h, _, _ => by simp at h
  | x :: xs, k, h, j, y, r, hy, hd, hr => by
    simp only [slotsOk, Bool.and_eq_true, Bool.or_eq_true, Bool.not_eq_true', beq_iff_eq] at h
    cases j with
    | zero =>
      simp at hy; subst hy
      rcases h.1 with ((h1 | h1) | h1) | h1
      · exact .inl h1
      · rw [hd] at h1; simp [hr] at h1
      · exact .inr (.inl h1)
      · exact .inr (.inr h1)
    | succ j =>
      have := slotsOk_get xs (k + 1) h.2 j y r (by simpa using hy) hd hr
      rw [show k + (j + 1) = k + 1 + j by omega]
      exact this

theorem allSlots_get {tb : List Nat} {all : List XOper} : ∀ (xs : List XOper) (k : Nat), allSlots tb all k xs = true → ∀ (i : Nat) (x : XOper), xs[i]? = some x → slotsOk tb false (k + i) (operReads x) 0 all = true
  | [], _, _, i, x, h => by simp at h
  | y :: xs, k, hm, i, x, h => by
    simp only [allSlots, Bool.and_eq_true] at hm
    cases i with
    | zero => simp at h; subst h; exact hm.1
    | succ i =>
      have := allSlots_get xs (k + 1) hm.2 i x (by simpa using h)
      rw [show k + (i + 1) = k + 1 + i by omega]
      exact this

/-- What is known of such a region. -/
structure Drawn (P : Program) (ops : Array Oper) (xs : List XOper) (tb : List Nat) (chk : List (Nat × Nat × Nat)) : Prop where
  len : xs.length = ops.size
  op : ∀ (i : Nat) (o : Oper), ops[i]? = some o → ∃ x : XOper, xs[i]? = some x ∧ x.dst = o.dst ∧ cOp P o.op = some x.op ∧ cGuard ops o.guard = some x.guard
  mask : ∀ (i : Nat) (o : Oper), ops[i]? = some o → ∀ j, Before tb i j ↔ ∃ e ∈ o.after.toList, Region.binds .any e = true ∧ (j = e.on ∨ Before tb e.on j)
  lt : ∀ (i : Nat) (o : Oper), ops[i]? = some o → ∀ e ∈ o.after.toList, Region.binds .any e = true → e.on < i
  dst : ∀ {i j : Nat} {x y : XOper} {d : Nat}, xs[i]? = some x → xs[j]? = some y → x.dst = some d → y.dst = some d → i = j
  chain : ∀ a b, a ∈ placesOf (fun o => isChain o.op) xs → b ∈ placesOf (fun o => isChain o.op) xs → a < b → Before tb b a
  free : ∀ i e, i ∈ placesOf (fun o => isFree o.op) xs → e ∈ placesOf (fun o => isChain o.op) xs → i < e → Before tb e i
  slots : ∀ (i : Nat) (x : XOper), xs[i]? = some x → ∀ r, r ∈ operReads x → ∀ (j : Nat) (y : XOper), xs[j]? = some y → y.dst = some r → j = i ∨ Before tb i j ∨ Before tb j i
  chk : ∀ c, c ∈ chk → ∃ x : XOper, xs[c.1]? = some x ∧ ∀ r, r ∈ operReads x → ∀ (j : Nat) (y : XOper), xs[j]? = some y → y.dst = some r → Before tb c.1 j

theorem cOpers_length {P : Program} {ops : Array Oper} : ∀ {os : List Oper} {xs : List XOper}, cOpers P ops os = some xs → xs.length = os.length
  | [], xs, h => by simp [cOpers] at h; subst h; rfl
  | o :: os, xs, h => by
    obtain ⟨op, g, xs', rfl, _, _, h'⟩ := cOpers_cons h
    simp [cOpers_length h']

theorem cOpers_get {P : Program} {ops : Array Oper} : ∀ {os : List Oper} {xs : List XOper}, cOpers P ops os = some xs → ∀ (i : Nat) (o : Oper), os[i]? = some o → ∃ x : XOper, xs[i]? = some x ∧ x.dst = o.dst ∧ cOp P o.op = some x.op ∧ cGuard ops o.guard = some x.guard
  | [], xs, h, i, o, ho => by simp at ho
  | y :: os, xs, h, i, o, ho => by
    obtain ⟨op, g, xs', rfl, h1, h2, h'⟩ := cOpers_cons h
    cases i with
    | zero => simp at ho; subst ho; exact ⟨_, rfl, rfl, h1, h2⟩
    | succ i =>
      obtain ⟨x, k1, k2⟩ := cOpers_get h' i o (by simpa using ho)
      exact ⟨x, by simpa using k1, k2⟩

theorem drawn_of {P : Program} {ops : Array Oper} {xs : List XOper} {tb : List Nat} {chk : List (Nat × Nat × Nat)} (hc : cOpers P ops ops.toList = some xs) (h : drawOk tb ops.toList xs chk = true) : Drawn P ops xs tb chk := by
  simp only [drawOk, Bool.and_eq_true, List.all_eq_true, Bool.or_eq_true, decide_eq_true_eq] at h
  obtain ⟨⟨⟨⟨⟨h1, h2⟩, h3⟩, h4⟩, h5⟩, h6⟩ := h
  have hm : ∀ (i : Nat) (o : Oper), ops[i]? = some o → maskOk tb i o = true := fun i o ho => by simpa using masksOk_get ops.toList 0 h1 i o (by simpa using ho)
  refine ⟨by simpa using cOpers_length hc, fun i o ho => cOpers_get hc i o (by simpa using ho), fun i o ho j => ?_, fun i o ho e he hb => ?_, fun a b c d => distinct_dst h2 a b c d, fun a b ha hb hlt => pairsOk_get (placesOf_sorted _ _) h3 a b ha hb hlt, fun i e hi he hlt => ?_, fun i x hx r hr j y hy hd => ?_, fun c hcc => ?_⟩
  · have := hm i o ho
    simp only [maskOk, Bool.and_eq_true, beq_iff_eq] at this
    unfold Before
    rw [this.1, ← Array.foldl_toList, fold_testBit]
    simp [Before]
  · have := hm i o ho
    simp only [maskOk, Bool.and_eq_true, Array.all_eq_true_iff_forall_mem, Bool.or_eq_true, Bool.not_eq_true', decide_eq_true_eq] at this
    rcases this.2 e (by simpa using he) with h | h
    · rw [hb] at h; cases h
    · exact h
  · rcases h4 i hi e he with h | h
    · omega
    · exact h
  · rcases slotsOk_get xs 0 (by simpa using allSlots_get xs 0 h5 i x hx) j y r hy hd hr with h | h | h
    · exact .inl (by omega)
    · exact .inr (.inl (by simpa using h))
    · exact .inr (.inr (by simpa using h.2))
  · have := h6 c hcc
    split at this
    · rename_i x hx
      refine ⟨x, hx, fun r hr j y hy hd => ?_⟩
      rcases slotsOk_get xs 0 this j y r hy hd hr with h | h | h
      · exact absurd h.1 (by simp)
      · simpa using h
      · exact absurd h.1 (by simp)
    · cases this

theorem before_lt {P : Program} {ops : Array Oper} {xs : List XOper} {tb : List Nat} {chk : List (Nat × Nat × Nat)} (h : Drawn P ops xs tb chk) : ∀ (i j : Nat), i < ops.size → Before tb i j → j < i := by
  intro i
  induction i using Nat.strongRecOn with
  | _ i ih =>
    intro j hi hb
    have ho : ops[i]? = some ops[i] := by simp [hi]
    obtain ⟨e, he, hbe, hj⟩ := (h.mask i _ ho j).1 hb
    have hlt := h.lt i _ ho e he hbe
    rcases hj with rfl | hj
    · exact hlt
    · have := ih e.on hlt j (by omega) hj
      omega

end Ab
