/- New blocks and stores. -/
import Derived.Test.YtdjhhdppeicpbaaAbRel
import Derived.Laws.Rows
namespace Ab
open Go

def upd (ρ : Ren) (b : Nat) (e : Ent) : Ren := fun j => if j = b then some e else ρ j

theorem upd_same (ρ : Ren) (b : Nat) (e : Ent) : upd ρ b e b = some e := by simp [upd]
theorem upd_ne (ρ : Ren) {b j : Nat} (e : Ent) (h : j ≠ b) : upd ρ b e j = ρ j := by simp [upd, h]
theorem upd_ext {ρ : Ren} {b : Nat} {e : Ent} (h : ρ b = none) : ∀ j x, ρ j = some x → upd ρ b e j = some x := by
  intro j x hx
  by_cases hj : j = b
  · subst hj; rw [h] at hx; cases hx
  · rw [upd_ne ρ e hj]; exact hx

/-- The world's heap differs in one block at the most, and nothing else has turned but the count of draws. -/
structure Turned (g : Nat) (w w' : World) : Prop where
  size : w'.heap.size = w.heap.size
  other : ∀ k, k ≠ g → w'.heap[k]? = w.heap[k]?
  os : w'.os = w.os
  tape : w'.tape = w.tape
  output : w'.output = w.output

theorem Turned.refl (g : Nat) (w : World) : Turned g w w := ⟨rfl, fun _ _ => rfl, rfl, rfl, rfl⟩
theorem Turned.trans {g : Nat} {a b c : World} (h : Turned g a b) (k : Turned g b c) : Turned g a c :=
  ⟨k.size.trans h.size, fun i hi => (k.other i hi).trans (h.other i hi), k.os.trans h.os, k.tape.trans h.tape, k.output.trans h.output⟩

theorem lt_size_of_getElem? {α : Type} {xs : Array α} {i : Nat} {x : α} (h : xs[i]? = some x) : i < xs.size := by
  rcases Nat.lt_or_ge i xs.size with h' | h'
  · exact h'
  · rw [Array.getElem?_eq_none h'] at h; cases h

theorem setCell_turned (w : World) (a : Addr) (v : Value) : Turned a.block w (w.setCell a v) :=
  ⟨by simp [World.setCell], fun k hk => by
    simp only [World.setCell, Array.getElem?_modify]
    rw [if_neg (fun h => hk h.symm)], rfl, rfl, rfl⟩

def spliceV {α : Type} (l : List α) (o : Nat) (vs : List α) : List α := l.take o ++ vs ++ l.drop (o + vs.length)

theorem spliceV_nil {α : Type} (l : List α) (o : Nat) : spliceV l o [] = l := by simp [spliceV]

theorem getElem?_splice {α : Type} (l : List α) (o : Nat) (vs : List α) (i : Nat) (h : o + vs.length ≤ l.length) :
    (spliceV l o vs)[i]? = if i < o then l[i]? else if i < o + vs.length then vs[i - o]? else l[i]? := by
  have ho : (l.take o).length = o := by simp; omega
  unfold spliceV
  rw [List.append_assoc]
  by_cases h1 : i < o
  · rw [List.getElem?_append_left (by omega), if_pos h1, List.getElem?_take, if_pos h1]
  · rw [List.getElem?_append_right (by omega), if_neg h1, ho]
    by_cases h2 : i < o + vs.length
    · rw [if_pos h2, List.getElem?_append_left (by omega)]
    · rw [if_neg h2, List.getElem?_append_right (by omega), List.getElem?_drop]
      congr 1; omega

theorem length_splice {α : Type} (l : List α) (o : Nat) (vs : List α) (h : o + vs.length ≤ l.length) : (spliceV l o vs).length = l.length := by
  unfold spliceV; simp; omega

theorem spliceV_cons {α : Type} (l : List α) (o : Nat) (v : α) (vs : List α) (h : o + (vs.length + 1) ≤ l.length) : spliceV (l.set o v) (o + 1) vs = spliceV l o (v :: vs) := by
  apply List.ext_getElem?
  intro i
  rw [getElem?_splice _ _ _ _ (by simp; omega), getElem?_splice _ _ _ _ (by simp; omega)]
  simp only [List.length_cons]
  by_cases h1 : i < o
  · rw [if_pos (by omega), if_pos h1, List.getElem?_set_ne (by omega)]
  · by_cases h2 : i = o
    · subst h2
      rw [if_pos (by omega), if_neg (by omega), if_pos (by omega), List.getElem?_set_self (by omega)]
      simp
    · rw [if_neg (by omega), if_neg h1]
      by_cases h3 : i < o + 1 + vs.length
      · rw [if_pos h3, if_pos (by omega), show i - o = (i - (o + 1)) + 1 by omega, List.getElem?_cons_succ]
      · rw [if_neg h3, if_neg (by omega), List.getElem?_set_ne (by omega)]

theorem run_store_cell (P : Program) (w : World) {g o : Nat} {cc : Array Value} {el : TypeId} {fz : Nat × Nat} (hg : w.heap[g]? = some (.cells cc el fz)) (ho : o < cc.size)
    (hfz : fz.1 = fz.2 ∨ cc.size ≤ fz.1) (v : Value) (hv : v.oneCell' = true) :
    (store ⟨g, o, none⟩ v).run P w = .ok () (w.setCell ⟨g, o, none⟩ v) ∧ (w.setCell ⟨g, o, none⟩ v).heap[g]? = some (.cells (cc.setIfInBounds o v) el fz) := by
  have hc : w.cell? ⟨g, o, none⟩ = some cc[o] := by simp [World.cell?, hg, ho]
  have hf : w.frozen? ⟨g, o, none⟩ = false := by
    obtain ⟨lo, hi⟩ := fz
    simp only [World.frozen?, hg]
    simp only at hfz
    rcases hfz with h | h
    · subst h
      by_cases h2 : lo ≤ o
      · have : ¬ (o < lo) := by omega
        simp [this]
      · simp [h2]
    · have : ¬ (lo ≤ o) := by omega
      simp [this]
  refine ⟨?_, ?_⟩
  · rw [run_store P w _ v _ hv]; simp [hc, hf]
  · simp only [World.setCell, Array.getElem?_modify, hg]
    simp

theorem addr_add (g o n : Nat) : (⟨g, o, none⟩ : Addr).add n = ⟨g, o + n, none⟩ := by
  unfold Addr.add
  split
  · rename_i h; subst h; rfl
  · rfl

theorem run_storeCells (P : Program) {g : Nat} {el : TypeId} {fz : Nat × Nat} (off : Nat) : ∀ (vs : List Value) (i : Nat) (cc : Array Value) (w : World),
    w.heap[g]? = some (.cells cc el fz) → (fz.1 = fz.2 ∨ cc.size ≤ fz.1) → off + i + vs.length ≤ cc.size → (∀ v ∈ vs, v.oneCell' = true) →
    ∃ w' cc', (storeCells ⟨g, off, none⟩ vs i).run P w = .ok () w' ∧ w'.heap[g]? = some (.cells cc' el fz) ∧ cc'.toList = spliceV cc.toList (off + i) vs ∧ Turned g w w'
  | [], i, cc, w, hg, _, _, _ => ⟨w, cc, by simp [storeCells], hg, by rw [spliceV_nil], .refl _ _⟩
  | v :: vs, i, cc, w, hg, hfz, hl, h1 => by
    simp only [List.length_cons] at hl
    obtain ⟨hr, hh⟩ := run_store_cell P w hg (o := off + i) (by omega) hfz v (h1 v (by simp))
    obtain ⟨w', cc', e1, e2, e3, e4⟩ := run_storeCells P off vs (i + 1) _ _ hh (by simpa using hfz) (by simp; omega) (fun u hu => h1 u (by simp [hu]))
    refine ⟨w', cc', ?_, e2, ?_, (setCell_turned w ⟨g, off + i, none⟩ v).trans e4⟩
    · simp only [storeCells, Sem.run_bind, addr_add, hr, Result.andThen, e1]
    · rw [e3, Array.toList_setIfInBounds, ← spliceV_cons cc.toList (off + i) v vs (by simp; omega)]
      rfl

theorem patch_eq (cs : List AVal) (o : Nat) (vs : List AVal) : patch cs o vs = spliceV cs o vs := rfl

theorem VRels.splice {ρ : Ren} {as bs : List AVal} {us vs : List Value} (h : VRels ρ as us) (o : Nat) (h' : VRels ρ bs vs) : VRels ρ (spliceV as o bs) (spliceV us o vs) := by
  unfold spliceV
  rw [← h'.1]
  exact ((h.take o).append h').append (h.drop _)

theorem drop_splice {α : Type} (l : List α) (s o : Nat) (vs : List α) (h : s + o + vs.length ≤ l.length) : (spliceV l (s + o) vs).drop s = spliceV (l.drop s) o vs := by
  apply List.ext_getElem?
  intro i
  rw [List.getElem?_drop, getElem?_splice _ _ _ _ h, getElem?_splice _ _ _ _ (by simp; omega), List.getElem?_drop]
  by_cases h1 : i < o
  · rw [if_pos h1, if_pos (by omega)]
  · rw [if_neg h1, if_neg (by omega)]
    by_cases h2 : i < o + vs.length
    · rw [if_pos h2, if_pos (by omega)]; congr 1; omega
    · rw [if_neg h2, if_neg (by omega)]

theorem take_splice {α : Type} (l : List α) (n o : Nat) (vs : List α) (h : o + vs.length ≤ n) (hl : n ≤ l.length) : (spliceV l o vs).take n = spliceV (l.take n) o vs := by
  apply List.ext_getElem?
  intro i
  rw [List.getElem?_take, getElem?_splice _ _ _ _ (by omega), getElem?_splice _ _ _ _ (by simp; omega), List.getElem?_take]
  by_cases hi : i < n
  · simp only [hi, if_true]
  · simp only [hi, if_false]
    rw [if_neg (by omega), if_neg (by omega)]

/-- A block is turned in place. -/
theorem Rel.turn {ρ : Ren} {A : AH} {w w' : World} (h : Rel ρ A w) {b : Nat} {e : Ent} {x x' : ABlk} (hb : ρ b = some e) (hx : A.get b = some x) (hown : x.own = true)
    (ht : Turned e.cb w w') (hn : BRel ρ e x' w') : Step ρ A w ρ (A.set b x') w' := by
  have hget : ∀ j, (A.set b x').get j = if j = b then some x' else A.get j := fun j => AH.get_set A b j x'
  have hlt : b < A.next := by
    rcases Nat.lt_or_ge b A.next with h' | h'
    · exact h'
    · rw [h.fresh b h'] at hb; cases hb
  have own : ∀ c o, Live ρ (A.set b x') c o → Live ρ A c o := by
    rintro c o ⟨b', e', y, h1, h2, h3, h4⟩
    rw [hget] at h2
    split at h2
    · rename_i hbb; subst hbb
      rw [hb] at h1; cases h1
      exact ⟨b', e, x, hb, hx, fun _ => hown, h4⟩
    · exact ⟨b', e', y, h1, h2, h3, h4⟩
  refine ⟨fun _ _ => rfl, Nat.le_refl _, by rw [ht.size]; exact Nat.le_refl _, fun c hc hn' => ht.other c fun hce => hn' ⟨b, e, x, hb, hx, fun _ => hown, hce.symm⟩, fun c o _ ho => own c o ho, fun j _ hj => by rw [hget]; split <;> simp_all, ht.os, ht.tape, ht.output, ?_⟩
  constructor
  · intro b' e' y h1 h2
    rw [hget] at h2
    split at h2
    · rename_i hbb; subst hbb
      rw [hb] at h1; cases h1; cases h2
      exact hn
    · rename_i hbb
      refine (h.blk b' e' y h1 h2).congr (ht.other _ fun hce => ?_)
      exact h.inj b b' e e' x y (Ne.symm hbb) hb h1 hx h2 hown hce.symm
  · intro b1 b2 e1 e2 x1 x2 hne h1 h2 h3 h4 h5
    rw [hget] at h3 h4
    split at h3
    · rename_i hb1; subst hb1
      split at h4
      · rename_i hb2; exact absurd hb2.symm hne
      · exact h.inj b1 b2 e1 e2 x x2 hne h1 h2 hx h4 hown
    · split at h4
      · rename_i hb2; subst hb2
        exact h.inj b1 b2 e1 e2 x1 x hne h1 h2 h3 hx h5
      · exact h.inj b1 b2 e1 e2 x1 x2 hne h1 h2 h3 h4 h5
  · exact h.fresh
  · intro j hj
    rw [hget, if_neg (by simp at hj; omega)]
    exact h.freshA j hj


/-- Cells are written. -/
theorem Rel.wr (P : Program) {ρ : Ren} {A A' : AH} {w : World} (h : Rel ρ A w) {b o : Nat} {e : Ent} (hb : ρ b = some e) {as : List AVal} (hw : A.wr b o as = some A') {vs : List Value} (hv : VRels ρ as vs) :
    ∃ w', (storeCells ⟨e.cb, e.sh + o, none⟩ vs).run P w = .ok () w' ∧ Step ρ A w ρ A' w' := by
  unfold AH.wr at hw
  split at hw
  · rename_i cs hx
    split at hw
    · rename_i hc
      simp only [Bool.and_eq_true, decide_eq_true_eq] at hc
      obtain ⟨hl, h1⟩ := hc
      cases hw
      obtain ⟨cc, el, fz, hh, c1, c2, c3, c4⟩ := h.blk b e _ hb hx
      have hone : ∀ v ∈ vs, v.oneCell' = true := by
        intro v hv'
        obtain ⟨i, hi, rfl⟩ := List.getElem_of_mem hv'
        have hi' : i < as.length := by rw [hv.1]; exact hi
        have := hv.2 i as[i] vs[i] (List.getElem?_eq_getElem hi') (List.getElem?_eq_getElem hi)
        exact this.one (List.all_eq_true.1 h1 _ (List.getElem_mem hi'))
      have hlen := hv.1
      obtain ⟨w', cc', e1, e2, e3, e4⟩ := run_storeCells P (e.sh + o) vs 0 cc w hh (by rw [c1]; exact c2 rfl) (by omega) hone
      refine ⟨w', e1, h.turn hb hx rfl e4 ⟨cc', el, fz, e2, ?_, c2, ?_, ?_⟩⟩
      · have := congrArg List.length e3
        rw [length_splice _ _ _ (by simp; omega)] at this
        simpa [c1] using this
      · rw [patch_eq, length_splice _ _ _ hl]; exact c3
      · rw [patch_eq, length_splice _ _ _ hl, e3, Nat.add_zero, drop_splice _ _ _ _ (by simp; omega), take_splice _ _ _ _ (by omega) (by simp; omega)]
        exact c4.splice o hv
    · cases hw
  · cases hw

theorem Rel.wr1 (P : Program) {ρ : Ren} {A A' : AH} {w : World} (h : Rel ρ A w) {b o : Nat} {e : Ent} (hb : ρ b = some e) {a : AVal} (hw : A.wr1 b o a = some A') {v : Value} (hv : VRel ρ a v) :
    ∃ w', (storeCells ⟨e.cb, e.sh + o, none⟩ [v]).run P w = .ok () w' ∧ Step ρ A w ρ A' w' := by
  refine h.wr P hb (as := [a]) ?_ (.cons hv .nil)
  unfold AH.wr1 at hw
  unfold AH.wr
  split at hw
  · rename_i cs hx
    split at hw
    · rename_i hc
      simp only [Bool.and_eq_true, decide_eq_true_eq] at hc
      have hc' : (decide (o + [a].length ≤ cs.length) && [a].all AVal.one) = true := by simp [hc.2]; omega
      simp only [hc', if_true]
      cases hw
      congr 3
      rw [patch_eq]
      apply List.ext_getElem?
      intro i
      rw [getElem?_splice _ _ _ _ (by simp; omega), List.getElem?_set]
      simp only [List.length_singleton]
      by_cases h1 : i < o
      · rw [if_pos h1, if_neg (by omega)]
      · by_cases h2 : i = o
        · subst h2; simp [hc.1]
        · rw [if_neg h1, if_neg (by omega), if_neg (by omega)]
    · cases hw
  · cases hw

/-- A new block, under a number that was free. -/
theorem Rel.alloc_at {ρ : Ren} {A A' : AH} {w : World} (h : Rel ρ A w) {id : Nat} {x : ABlk} {ob : Obj} {csz : Nat} (hid : ρ id = none) (hn : id < A'.next) (hnn : A.next ≤ A'.next)
    (hg : A'.get id = some x) (ho : ∀ j, j ≠ id → A'.get j = A.get j) (hx : BRel (upd ρ id ⟨w.heap.size, 0, csz⟩) ⟨w.heap.size, 0, csz⟩ x (w.alloc ob)) :
    Rel (upd ρ id ⟨w.heap.size, 0, csz⟩) A' (w.alloc ob) := by
  have hm := upd_ext (e := ⟨w.heap.size, 0, csz⟩) hid
  constructor
  · intro b e y hb hy
    by_cases hbi : b = id
    · subst hbi
      rw [upd_same] at hb; cases hb
      rw [hg] at hy; cases hy
      exact hx
    · rw [upd_ne _ _ hbi] at hb
      rw [ho b hbi] at hy
      have hlt := h.block_lt hb hy
      exact ((h.blk b e y hb hy).congr (by simp only [World.alloc, Array.getElem?_push]; rw [if_neg (by omega)])).mono hm
  · intro b1 b2 e1 e2 x1 x2 hne h1 h2 h3 h4 h5
    by_cases hb1 : b1 = id
    · subst hb1
      rw [upd_same] at h1; cases h1
      rw [upd_ne _ _ (Ne.symm hne)] at h2
      rw [ho b2 (Ne.symm hne)] at h4
      have := h.block_lt h2 h4
      simp; omega
    · rw [upd_ne _ _ hb1] at h1
      rw [ho b1 hb1] at h3
      by_cases hb2 : b2 = id
      · subst hb2
        rw [upd_same] at h2; cases h2
        have := h.block_lt h1 h3
        simp; omega
      · rw [upd_ne _ _ hb2] at h2
        rw [ho b2 hb2] at h4
        exact h.inj b1 b2 e1 e2 x1 x2 hne h1 h2 h3 h4 h5
  · intro b hb
    rw [upd_ne _ _ (by omega)]
    exact h.fresh b (by omega)
  · intro b hb
    rw [ho b (by omega)]
    exact h.freshA b (by omega)

theorem Rel.new {ρ : Ren} {A : AH} {w : World} (h : Rel ρ A w) {x : ABlk} {ob : Obj} {csz : Nat}
    (hx : BRel (upd ρ A.next ⟨w.heap.size, 0, csz⟩) ⟨w.heap.size, 0, csz⟩ x (w.alloc ob)) :
    Step ρ A w (upd ρ A.next ⟨w.heap.size, 0, csz⟩) (A.new x) (w.alloc ob) := by
  have hid : ρ A.next = none := h.fresh _ (Nat.le_refl _)
  refine ⟨fun b hb => upd_ne _ _ (by omega), by simp, by simp, fun c hc _ => by simp only [World.alloc, Array.getElem?_push]; rw [if_neg (by omega)], ?_, fun j hj hj' => by rw [AH.get_new_ne _ _ _ (by omega)]; exact hj', rfl, rfl, rfl,
    h.alloc_at hid (by simp) (by simp) (by simp) (fun j hj => AH.get_new_ne A j x hj) hx⟩
  rintro c o hc ⟨b, e, y, h1, h2, h3, h4⟩
  by_cases hb : b = A.next
  · subst hb
    rw [upd_same] at h1; cases h1
    simp at h4; omega
  · rw [upd_ne _ _ hb] at h1
    rw [AH.get_new_ne A b x hb] at h2
    exact ⟨b, e, y, h1, h2, h3, h4⟩

theorem BRel.new_cells {ρ : Ren} {w : World} {cs : List AVal} {vs : Array Value} {el : TypeId} {ro : Bool} (hl : cs.length ≤ vs.size) (h : VRels ρ cs (vs.toList.take cs.length)) :
    BRel ρ ⟨w.heap.size, 0, vs.size⟩ (.cells ro cs) (w.alloc (.cells vs el)) :=
  ⟨vs, el, (0, 0), heap_alloc_new _ _, rfl, fun _ => .inl rfl, by simpa using hl, by simpa using h⟩

theorem BRel.new_map {ρ : Ren} {w : World} (csz : Nat) : BRel ρ ⟨w.heap.size, 0, csz⟩ (.map [] 0) (w.alloc (.map #[] 0)) :=
  ⟨#[], heap_alloc_new _ _, by simpa using VRels.nil, by simpa using VRels.nil, rfl⟩

end Ab
