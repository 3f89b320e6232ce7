/- Regions whose order is open: what holds of the heap while some operations have been run. -/
import Derived.Test.YtdjhhdppeicpbaaAbDraw2
namespace Ab
open Go

def ins (L : Nat → Bool) (i : Nat) : Nat → Bool := fun j => j == i || L j

/-- How many of the operations that turn memory have been run. -/
def cl (xs : List XOper) (L : Nat → Bool) : Nat := (placesOf (fun o => isChain o.op) xs).countP L

theorem countP_ins {l : List Nat} (hn : l.Nodup) {L : Nat → Bool} {i : Nat} (hi : L i = false) : l.countP (ins L i) = l.countP L + if i ∈ l then 1 else 0 := by
  induction l with
  | nil => simp
  | cons x l ih =>
    rw [List.nodup_cons] at hn
    have h := ih hn.2
    rw [List.countP_cons, List.countP_cons, h]
    by_cases hx : x = i
    · subst hx
      simp [hn.1, ins, hi]
    · have h1 : (i ∈ x :: l) ↔ i ∈ l := by simp [Ne.symm hx]
      have h2 : ins L i x = L x := by simp [ins, hx]
      rw [h2]
      simp only [h1]
      omega

theorem cl_chain {xs : List XOper} {L : Nat → Bool} {i : Nat} {x : XOper} (hi : L i = false) (hx : xs[i]? = some x) (hc : isChain x.op = true) : cl xs (ins L i) = cl xs L + 1 := by
  unfold cl
  rw [countP_ins (placesOf_nodup _ _) hi, if_pos (mem_placesOf.2 ⟨x, hx, hc⟩)]

theorem cl_other {xs : List XOper} {L : Nat → Bool} {i : Nat} {x : XOper} (hi : L i = false) (hx : xs[i]? = some x) (hc : isChain x.op = false) : cl xs (ins L i) = cl xs L := by
  unfold cl
  rw [countP_ins (placesOf_nodup _ _) hi, if_neg fun hm => ?_]
  · rfl
  · obtain ⟨y, h1, h2⟩ := mem_placesOf.1 hm
    rw [hx] at h1; cases h1
    rw [hc] at h2; cases h2

theorem Rel.upd_dead {ρ : Ren} {A : AH} {w : World} (h : Rel ρ A w) {id : Nat} (e : Ent) {ob : Obj} (hid : ρ id = none) (hg : A.get id = none) (hn : id < A.next) : Rel (upd ρ id e) A (w.alloc ob) := by
  have ne : ∀ {b x}, A.get b = some x → b ≠ id := by
    intro b x hb hbi
    rw [hbi, hg] at hb; cases hb
  constructor
  · intro b e' x hb hx
    rw [upd_ne _ _ (ne hx)] at hb
    have hlt := h.block_lt hb hx
    exact ((h.blk b e' x hb hx).congr (by simp only [World.alloc, Array.getElem?_push]; rw [if_neg (by omega)])).mono (upd_ext hid)
  · intro b1 b2 e1 e2 x1 x2 hne h1 h2 h3 h4 h5
    rw [upd_ne _ _ (ne h3)] at h1
    rw [upd_ne _ _ (ne h4)] at h2
    exact h.inj b1 b2 e1 e2 x1 x2 hne h1 h2 h3 h4 h5
  · intro b hb
    rw [upd_ne _ _ (by omega)]
    exact h.fresh b hb
  · exact h.freshA

structure HeapI (xs : List XOper) (A0 : AH) (m : Nat) (st : Nat → DSt) (ρ0 : Ren) (w0 : World) (L : Nat → Bool) (ρ : Ren) (w : World) (s : Nat) : Prop where
  sle : s ≤ m
  scnt : cnt xs s = cl xs L
  sfirst : ∀ i, i < s → cnt xs i < cl xs L
  hole : ∀ j, s ≤ j → j < xs.length → (st s).A.get (A0.next + j) = none
  rel : Rel ρ (bmem st m (cl xs L)) w
  le : ∀ b, b < A0.next → ρ b = ρ0 b
  next : A0.next + xs.length ≤ (bmem st m (cl xs L)).next
  size : w0.heap.size ≤ w.heap.size
  old : ∀ c, c < w0.heap.size → ¬ Owned ρ0 A0 c → w.heap[c]? = w0.heap[c]?
  own : ∀ c o, c < w0.heap.size → Live ρ (bmem st m (cl xs L)) c o → Live ρ0 A0 c o
  hole0 : ∀ b, b < A0.next → A0.get b = none → (bmem st m (cl xs L)).get b = none
  os : w.os = w0.os
  tape : w.tape = w0.tape
  output : w.output = w0.output
  early : ∀ j x, L j = true → Fr xs m st j x → cl xs L < cnt xs j → ∃ e, ρ (A0.next + j) = some e ∧ BRel ρ e x w ∧ e.cb < w.heap.size ∧ w0.heap.size ≤ e.cb ∧ ¬ Live ρ (bmem st m (cl xs L)) e.cb false
  dist : ∀ j j' e e' x x', j ≠ j' → L j = true → L j' = true → Fr xs m st j x → Fr xs m st j' x' → cl xs L < cnt xs j → cl xs L < cnt xs j' → ρ (A0.next + j) = some e → ρ (A0.next + j') = some e' → e.cb ≠ e'.cb
  later : ∀ j, j < xs.length → L j = false → ρ (A0.next + j) = none

theorem Live.weak {ρ : Ren} {A : AH} {c : Nat} {o : Bool} (h : Live ρ A c o) : Live ρ A c false :=
  let ⟨b, e, x, h1, h2, _, h4⟩ := h; ⟨b, e, x, h1, h2, (fun h => by cases h), h4⟩

section
variable {call : FuncId → List AVal → AH → Res} {xs : List XOper} {T0 : List AVal} {D0 : List ADef} {A0 : AH} {m : Nat} {st : Nat → DSt} {ρ0 ρ : Ren} {w0 w : World} {L : Nat → Bool} {s : Nat}

theorem HeapI.before (hI : HeapI xs A0 m st ρ0 w0 L ρ w s) {i : Nat} (h : cl xs L ≤ cnt xs i) : s ≤ i := by
  rcases Nat.lt_or_ge i s with h' | h'
  · have := hI.sfirst i h'; omega
  · exact h'

theorem HeapI.bmem_none (ht : Text call xs T0 D0 A0 m st) (hI : HeapI xs A0 m st ρ0 w0 L ρ w s) {i : Nat} (hi : i < xs.length) (h : cl xs L < cnt xs i) : (bmem st m (cl xs L)).get (A0.next + i) = none := by
  obtain ⟨_, e2⟩ := ht.seg (m - s) s rfl hI.sle
  rw [hI.scnt] at e2
  rcases e2 (A0.next + i) with e | ⟨j, x, h1, h2, h3, h4, h5⟩
  · rw [e]; exact hI.hole i (hI.before (by omega)) hi
  · have : j = i := by omega
    subst this
    omega

/-- An operation that turns no memory and lays nothing. -/
theorem HeapI.same (hI : HeapI xs A0 m st ρ0 w0 L ρ w s) {i : Nat} {x : XOper} (hLi : L i = false) (hx : xs[i]? = some x) (hc : isChain x.op = false) (hf : ∀ y, ¬ Fr xs m st i y) : HeapI xs A0 m st ρ0 w0 (ins L i) ρ w s := by
  have hcl := cl_other hLi hx hc
  have hL : ∀ j, ins L i j = true → j = i ∨ L j = true := by intro j hj; simpa [ins] using hj
  refine ⟨hI.sle, by rw [hcl]; exact hI.scnt, by rw [hcl]; exact hI.sfirst, hI.hole, by rw [hcl]; exact hI.rel, hI.le, by rw [hcl]; exact hI.next, hI.size, hI.old, by rw [hcl]; exact hI.own, by rw [hcl]; exact hI.hole0, hI.os, hI.tape, hI.output, ?_, ?_, ?_⟩
  · intro j y hj hfr hlt
    rw [hcl] at hlt ⊢
    rcases hL j hj with rfl | hj
    · exact absurd hfr (hf y)
    · exact hI.early j y hj hfr hlt
  · intro j j' e e' y y' hne hj hj' hfr hfr' hlt hlt' h1 h2
    rw [hcl] at hlt hlt'
    rcases hL j hj with rfl | hj
    · exact absurd hfr (hf y)
    · rcases hL j' hj' with rfl | hj'
      · exact absurd hfr' (hf y')
      · exact hI.dist j j' e e' y y' hne hj hj' hfr hfr' hlt hlt' h1 h2
  · intro j hj hLj
    simp only [ins, Bool.or_eq_false_iff] at hLj
    exact hI.later j hj hLj.2

/-- A new block. -/
theorem HeapI.free (ht : Text call xs T0 D0 A0 m st) (hI : HeapI xs A0 m st ρ0 w0 L ρ w s) {i : Nat} {x : XOper} (hLi : L i = false) (hx : xs[i]? = some x) (hc : isChain x.op = false) {y : ABlk} (hf : Fr xs m st i y) (hk : cl xs L ≤ cnt xs i)
    {ob : Obj} {csz : Nat} (hB : BRel (upd ρ (A0.next + i) ⟨w.heap.size, 0, csz⟩) ⟨w.heap.size, 0, csz⟩ y (w.alloc ob)) : HeapI xs A0 m st ρ0 w0 (ins L i) (upd ρ (A0.next + i) ⟨w.heap.size, 0, csz⟩) (w.alloc ob) s := by
  have hcl := cl_other hLi hx hc
  have hL : ∀ j, ins L i j = true → j = i ∨ L j = true := by intro j hj; simpa [ins] using hj
  have hin : i < xs.length := (List.getElem?_eq_some_iff.1 hx).1
  have hid : ρ (A0.next + i) = none := hI.later i hin hLi
  have hext := upd_ext (e := ⟨w.heap.size, 0, csz⟩) hid
  have hnext := hI.next
  have hheap : ∀ c, c < w.heap.size → (w.alloc ob).heap[c]? = w.heap[c]? := fun c hc => by simp only [World.alloc, Array.getElem?_push]; rw [if_neg (by omega)]
  have hsz : (w.alloc ob).heap.size = w.heap.size + 1 := by simp
  have hne : ∀ j, j ≠ i → upd ρ (A0.next + i) ⟨w.heap.size, 0, csz⟩ (A0.next + j) = ρ (A0.next + j) := fun j hj => upd_ne _ _ (by omega)
  -- what is alive was alive, or is the new block
  have live : ∀ c o, Live (upd ρ (A0.next + i) ⟨w.heap.size, 0, csz⟩) (bmem st m (cl xs L)) c o → c = w.heap.size ∨ Live ρ (bmem st m (cl xs L)) c o := by
    rintro c o ⟨b, e, z, h1, h2, h3, h4⟩
    by_cases hb : b = A0.next + i
    · rw [hb, upd_same] at h1; cases h1; exact .inl h4.symm
    · rw [upd_ne _ _ hb] at h1; exact .inr ⟨b, e, z, h1, h2, h3, h4⟩
  have livelt : ∀ c o, Live ρ (bmem st m (cl xs L)) c o → c < w.heap.size := by
    rintro c o ⟨b, e, z, h1, h2, h3, h4⟩
    rw [← h4]; exact hI.rel.block_lt h1 h2
  refine ⟨hI.sle, by rw [hcl]; exact hI.scnt, by rw [hcl]; exact hI.sfirst, hI.hole, ?_, fun b hb => by rw [upd_ne _ _ (by omega)]; exact hI.le b hb, by rw [hcl]; exact hI.next, by rw [hsz]; have := hI.size; omega, fun c hc' hno => ?_, ?_, by rw [hcl]; exact hI.hole0, hI.os, hI.tape, hI.output, ?_, ?_, ?_⟩
  · rw [hcl]
    by_cases hkk : cl xs L = cnt xs i
    · have hg := ht.fr_mem hf
      rw [← hkk] at hg
      exact hI.rel.alloc_at hid (by omega) (Nat.le_refl _) hg (fun _ _ => rfl) hB
    · exact hI.rel.upd_dead _ hid (hI.bmem_none ht hin (by omega)) (by omega)
  · rw [hheap c (Nat.lt_of_lt_of_le hc' hI.size)]; exact hI.old c hc' hno
  · intro c o hc' hl
    rw [hcl] at hl
    rcases live c o hl with h | h
    · have := hI.size; omega
    · exact hI.own c o hc' h
  · intro j z hj hfr hlt
    rw [hcl] at hlt ⊢
    rcases hL j hj with rfl | hj
    · have := hfr.fun hf
      subst this
      refine ⟨_, upd_same _ _ _, hB, by rw [hsz]; exact Nat.lt_succ_self _, hI.size, ?_⟩
      rintro ⟨b, e, z', h1, h2, h3, h4⟩
      by_cases hb : b = A0.next + j
      · rw [hb, hI.bmem_none ht hin hlt] at h2; cases h2
      · rw [upd_ne _ _ hb] at h1
        have := hI.rel.block_lt h1 h2
        rw [h4] at this; exact absurd this (Nat.lt_irrefl _)
    · have hji : j ≠ i := by intro h; rw [h, hLi] at hj; cases hj
      obtain ⟨e, e1, e2, e3, e4, e5⟩ := hI.early j z hj hfr hlt
      refine ⟨e, by rw [hne j hji]; exact e1, (e2.congr (hheap _ e3)).mono hext, by omega, e4, fun hl => ?_⟩
      rcases live _ _ hl with h | h
      · omega
      · exact e5 h
  · intro j j' e e' z z' hnjj hj hj' hfr hfr' hlt hlt' h1 h2
    rw [hcl] at hlt hlt'
    rcases hL j hj with rfl | hj
    · rcases hL j' hj' with rfl | hj'
      · exact absurd rfl hnjj
      · rw [upd_same] at h1; cases h1
        rw [hne j' (Ne.symm hnjj)] at h2
        obtain ⟨e2, k1, k2, k3, k4, k5⟩ := hI.early j' z' hj' hfr' hlt'
        rw [h2] at k1; cases k1
        simp only; omega
    · have hji : j ≠ i := by intro h; rw [h, hLi] at hj; cases hj
      rw [hne j hji] at h1
      obtain ⟨e2, k1, k2, k3, k4, k5⟩ := hI.early j z hj hfr hlt
      rw [h1] at k1; cases k1
      rcases hL j' hj' with rfl | hj'
      · rw [upd_same] at h2; cases h2
        simp only; omega
      · have hji' : j' ≠ i := by intro h; rw [h, hLi] at hj'; cases hj'
        rw [hne j' hji'] at h2
        exact hI.dist j j' e e' z z' hnjj hj hj' hfr hfr' hlt hlt' h1 h2
  · intro j hj hLj
    simp only [ins, Bool.or_eq_false_iff, beq_eq_false_iff_ne] at hLj
    rw [hne j hLj.1]
    exact hI.later j hj hLj.2

/-- An operation that turns memory. -/
theorem HeapI.chain (ht : Text call xs T0 D0 A0 m st) (hI : HeapI xs A0 m st ρ0 w0 L ρ w s) {i : Nat} {x : XOper} (hi : i < m) (hLi : L i = false) (hx : xs[i]? = some x) (hc : isChain x.op = true) (hk : cnt xs i = cl xs L)
    {ρ' : Ren} {w' : World} (hS : Step ρ (bmem st m (cl xs L)) w ρ' (st (i + 1)).A w') : HeapI xs A0 m st ρ0 w0 (ins L i) ρ' w' (i + 1) := by
  have hcl := cl_chain hLi hx hc
  have hc1 := cnt_chain hx hc
  have hL : ∀ j, ins L i j = true → j = i ∨ L j = true := by intro j hj; simpa [ins] using hj
  have hin : i < xs.length := (List.getElem?_eq_some_iff.1 hx).1
  have hnotfr : ∀ y, ¬ Fr xs m st i y := by
    rintro y ⟨_, z, hz, _, hz2, _⟩
    rw [hx] at hz; cases hz
    rw [hc] at hz2; cases hz2
  have hnext := hI.next
  have hsi : s ≤ i := hI.before (by omega)
  have hext := hS.ext hI.rel
  obtain ⟨hsn, hseg⟩ := ht.seg (m - (i + 1)) (i + 1) rfl hi
  rw [hc1, hk] at hsn hseg
  have hkeep : ∀ j, j < xs.length → ρ' (A0.next + j) = ρ (A0.next + j) := fun j hj => hS.le _ (by omega)
  have hholes := (ht.holes hI.hole i hsi (by omega) (by rw [hk, hI.scnt])).2
  have hBi := ht.bmem_chain hi hx hc
  rw [hk] at hBi
  -- what is alive behind the operation
  have live : ∀ b e z, ρ' b = some e → (bmem st m (cl xs L + 1)).get b = some z → (st (i + 1)).A.get b = some z ∨ ∃ j, b = A0.next + j ∧ j < xs.length ∧ L j = true ∧ Fr xs m st j z ∧ cnt xs j = cl xs L + 1 ∧ ρ (A0.next + j) = some e := by
    intro b e z h1 h2
    rcases hseg b with h3 | ⟨j, z', h3, h4, h5, h6, h7⟩
    · exact .inl (by rw [← h3]; exact h2)
    · rw [h7] at h2; cases h2
      subst h6
      have hj : j < xs.length := Nat.lt_of_lt_of_le h5.1 ht.le
      rw [hkeep j hj] at h1
      refine .inr ⟨j, rfl, hj, ?_, h5, h4, h1⟩
      cases hLj : L j with
      | true => rfl
      | false => rw [hI.later j hj hLj] at h1; cases h1
  have earlyOk : ∀ j z, L j = true → Fr xs m st j z → cl xs L < cnt xs j → ∃ e, ρ (A0.next + j) = some e ∧ BRel ρ' e z w' ∧ e.cb < w.heap.size ∧ w0.heap.size ≤ e.cb ∧ ¬ Live ρ' (st (i + 1)).A e.cb false := by
    intro j z h1 h2 h3
    obtain ⟨e, e1, e2, e3, e4, e5⟩ := hI.early j z h1 h2 h3
    refine ⟨e, e1, (e2.congr (hS.old _ e3 fun ho => e5 ho.weak)).mono hext, e3, e4, fun hl => e5 (hS.own _ _ e3 hl)⟩
  refine ⟨hi, by rw [hc1, hcl, hk], fun j hj => ?_, ?_, ?_, fun b hb => by rw [hS.le b (by omega)]; exact hI.le b hb, by rw [hcl, hsn]; have := hS.next; omega, Nat.le_trans hI.size hS.size, fun c hc' hno => ?_, ?_, fun b hb hb0 => ?_, hS.os.trans hI.os, hS.tape.trans hI.tape, hS.output.trans hI.output, ?_, ?_, ?_⟩
  · have := cnt_mono xs (show j ≤ i by omega)
    rw [hcl]; omega
  · intro j hj hj'
    exact hS.hole _ (by omega) (by rw [hBi]; exact hholes j (by omega) hj')
  · rw [hcl]
    constructor
    · intro b e z h1 h2
      rcases live b e z h1 h2 with h | ⟨j, rfl, hj, hLj, hfr, hcj, hρ⟩
      · exact hS.rel.blk b e z h1 h
      · obtain ⟨e', k1, k2, _⟩ := earlyOk j z hLj hfr (by omega)
        rw [hρ] at k1; cases k1
        exact k2
    · intro b1 b2 e1 e2 z1 z2 hne h1 h2 h3 h4 h5
      rcases live b1 e1 z1 h1 h3 with h | ⟨j, rfl, hj, hLj, hfr, hcj, hρ⟩
      · rcases live b2 e2 z2 h2 h4 with h' | ⟨j', rfl, hj', hLj', hfr', hcj', hρ'⟩
        · exact hS.rel.inj b1 b2 e1 e2 z1 z2 hne h1 h2 h h' h5
        · obtain ⟨e', k1, k2, k3, k4, k5⟩ := earlyOk j' z2 hLj' hfr' (by omega)
          rw [hρ'] at k1; cases k1
          exact fun heq => k5 ⟨b1, e1, z1, h1, h, (fun h => by cases h), heq⟩
      · obtain ⟨e', k1, k2, k3, k4, k5⟩ := earlyOk j z1 hLj hfr (by omega)
        rw [hρ] at k1; cases k1
        rcases live b2 e2 z2 h2 h4 with h' | ⟨j', rfl, hj', hLj', hfr', hcj', hρ'⟩
        · exact fun heq => k5 ⟨b2, e2, z2, h2, h', (fun h => by cases h), heq.symm⟩
        · exact hI.dist j j' e1 e2 z1 z2 (by omega) hLj hLj' hfr hfr' (by omega) (by omega) hρ hρ'
    · intro b hb
      rw [hsn] at hb
      exact hS.rel.fresh b hb
    · intro b hb
      rw [hsn] at hb
      have hn := hS.next
      rcases hseg b with h3 | ⟨j, z', h3, h4, h5, h6, h7⟩
      · rw [h3]; exact hS.rel.freshA b hb
      · have := Nat.lt_of_lt_of_le h5.1 ht.le
        omega
  · rw [hS.old c (Nat.lt_of_lt_of_le hc' hI.size) fun ho => hno (hI.own c true hc' ho)]
    exact hI.old c hc' hno
  · intro c o hc' hl
    rw [hcl] at hl
    obtain ⟨b, e, z, h1, h2, h3, h4⟩ := hl
    rcases live b e z h1 h2 with h | ⟨j, rfl, hj, hLj, hfr, hcj, hρ⟩
    · exact hI.own c o hc' (hS.own c o (Nat.lt_of_lt_of_le hc' hI.size) ⟨b, e, z, h1, h, h3, h4⟩)
    · obtain ⟨e', k1, k2, k3, k4, k5⟩ := earlyOk j z hLj hfr (by omega)
      rw [hρ] at k1; cases k1
      omega
  · rw [hcl]
    rcases hseg b with h3 | ⟨j, z', h3, h4, h5, h6, h7⟩
    · rw [h3]; exact hS.hole b (by omega) (hI.hole0 b hb hb0)
    · omega
  · intro j z hj hfr hlt
    rw [hcl] at hlt ⊢
    rcases hL j hj with rfl | hj
    · exact absurd hfr (hnotfr z)
    · obtain ⟨e, k1, k2, k3, k4, k5⟩ := earlyOk j z hj hfr (by omega)
      have hjn : j < xs.length := Nat.lt_of_lt_of_le hfr.1 ht.le
      refine ⟨e, by rw [hkeep j hjn]; exact k1, k2, Nat.lt_of_lt_of_le k3 hS.size, k4, ?_⟩
      rintro ⟨b, e', z', h1, h2, h3, h4⟩
      rcases live b e' z' h1 h2 with h | ⟨j', rfl, hj', hLj', hfr', hcj', hρ'⟩
      · exact k5 ⟨b, e', z', h1, h, h3, h4⟩
      · exact hI.dist j' j e' e z' z (by intro h; subst h; omega) hLj' hj hfr' hfr (by omega) (by omega) hρ' k1 h4
  · intro j j' e e' y y' hne hj hj' hfr hfr' hlt hlt' h1 h2
    rw [hcl] at hlt hlt'
    have hjn : j < xs.length := Nat.lt_of_lt_of_le hfr.1 ht.le
    have hjn' : j' < xs.length := Nat.lt_of_lt_of_le hfr'.1 ht.le
    rw [hkeep j hjn] at h1
    rw [hkeep j' hjn'] at h2
    rcases hL j hj with rfl | hj
    · exact absurd hfr (hnotfr y)
    · rcases hL j' hj' with rfl | hj'
      · exact absurd hfr' (hnotfr y')
      · exact hI.dist j j' e e' y y' hne hj hj' hfr hfr' (by omega) (by omega) h1 h2
  · intro j hj hLj
    simp only [ins, Bool.or_eq_false_iff] at hLj
    rw [hkeep j hj]
    exact hI.later j hj hLj.2

end
end Ab
