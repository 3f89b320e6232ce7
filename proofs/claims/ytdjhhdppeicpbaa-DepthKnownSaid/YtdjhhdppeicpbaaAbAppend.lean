/- append. -/
import Derived.Test.YtdjhhdppeicpbaaAbChain2
namespace Ab
open Go

section
variable {P : Program} {ρ : Ren} {A A' : AH} {w : World} {T : List AVal} {a : Act} {dst : Option Tmp} {type : TypeId} {pos : String} {after : Array Edge} {guard : Option (Nat × Bool)} {v : AVal} {x : XOp}

/-- What is appended: so many elements, their cells; by a slice or by a make. -/
structure Appends (P : Program) (u : TypeId) (e : TypeId) (i : TypeInfo) (y : Value) (n : Nat) (new : List Value) (w : World) : Prop where
  len : new.length = n * i.size
  kind : (∃ e2, P.underlying u = some (.slice e2) ∧ (∀ w', (Builtin.lenOf y).run P w' = .ok n w') ∧ ∀ w', w'.heap = w.heap → (Builtin.firstCells i.size n y).run P w' = .ok new.toArray w') ∨
    (∃ k z, (∃ k', P.underlying u = some (.int k')) ∧ y = .int k n ∧ n < 2 ^ 62 ∧ (n : Int) * i.bytes ≤ 2 ^ 48 ∧ i.zero = some z ∧ new = (List.replicate n z.cells.toList).flatten)

theorem appended_run {u e : TypeId} {i : TypeInfo} {y : Value} {n : Nat} {new : List Value} (hi : P.info? e = some i) (h : ∃ k z, (∃ k', P.underlying u = some (.int k')) ∧ y = .int k n ∧ n < 2 ^ 62 ∧ (n : Int) * i.bytes ≤ 2 ^ 48 ∧ i.zero = some z ∧ new = (List.replicate n z.cells.toList).flatten) (hl : new.length = n * i.size) (w' : World) :
    (if n * i.size = 0 then (pure #[] : Sem (Array Value)) else do pure (Builtin.zeroCells (← zeroValue e).cells n)).run P w' = .ok new.toArray w' := by
  obtain ⟨k, z, h1, h2, h3, h4, h5, h6⟩ := h
  split
  · rename_i h0
    rw [h0] at hl
    have : new = [] := by simpa using hl
    rw [this]; rfl
  · simp only [Sem.run_bind, rzeroValue hi h5, Result.andThen, Sem.run_pure]
    congr 1
    apply Array.ext'
    rw [zeroCells_eq, h6]

theorem run_append_room {t u ty e : TypeId} {i : TypeInfo} (hu : P.underlying t = some (.slice e)) (hi : P.info? e = some i) {base : Option Addr} {sLen sCap n : Nat} {y : Value} {new : List Value} (hy : Appends P u e i y n new w)
    (hroom : sLen + n ≤ sCap) {w' : World} (hs : match base with | some p => (storeCells (p.add (sLen * i.size)) new).run P w = .ok () w' | none => w' = w) :
    (Builtin.append_ #[t, u] ty #[.slice base sLen sCap, y]).run P w = .ok (.slice base (sLen + n) sCap) w' := by
  rcases hy.kind with ⟨e2, h1, h2, h3⟩ | hk
  · simp only [Builtin.append_, Sem.run_bind, List.getElem?_toArray, List.getElem?_cons_zero, List.getElem?_cons_succ, run_underlying hu, run_underlying h1, Result.andThen, rsizeOf hi, Sem.run_pure, Bool.false_eq_true, if_false, h2, hroom, if_true, Bool.not_false, h3 w rfl]
    cases base with
    | none => simp only [Sem.run_pure]; rw [show w' = w from hs]
    | some p =>
      have hs' : (storeCells (p.add (sLen * i.size)) new).run P w = .ok () w' := hs
      simp only [Sem.run_bind, hs', Result.andThen, Sem.run_pure]
  · have hk2 := hk
    obtain ⟨k, z, ⟨k', h1⟩, h2, h3, h4, h5, h6⟩ := hk2
    have hw : IntKind.i64.wrap (n : Int) = n := wrap_id (by omega) (by omega) rfl
    have hap := appended_run hi hk hy.len w
    simp only [Builtin.append_, Sem.run_bind, List.getElem?_toArray, List.getElem?_cons_zero, List.getElem?_cons_succ, run_underlying hu, run_underlying h1, Result.andThen, rsizeOf hi, Sem.run_pure, if_true, h2, asInt, asIntOf, hw]
    rw [if_neg (by omega)]
    simp only [Sem.run_bind, rtypeInfo hi, Result.andThen]
    rw [if_neg (by omega)]
    simp only [Sem.run_pure, Sem.run_bind, Result.andThen, Int.toNat_natCast, hroom, if_true, Bool.not_true, Bool.false_eq_true, if_false, hap]
    cases base with
    | none => simp only [Sem.run_pure]; rw [show w' = w from hs]
    | some p =>
      have hs' : (storeCells (p.add (sLen * i.size)) new).run P w = .ok () w' := hs
      simp only [Sem.run_bind, hs', Result.andThen, Sem.run_pure]

theorem run_append_more {t u ty e : TypeId} {i : TypeInfo} (hu : P.underlying t = some (.slice e)) (hi : P.info? e = some i) {z : Value} (hz : i.zero = some z) {base : Option Addr} {sLen sCap n : Nat} {y : Value} {old new : List Value} (hy : Appends P u e i y n new w)
    (hroom : sCap < sLen + n) (hfit : (sLen + n) * i.bytes ≤ 2 ^ 47) (h62 : sLen + n < 2 ^ 62) (hold : ∀ w', w'.heap = w.heap → (Builtin.firstCells i.size sLen (.slice base sLen sCap)).run P w' = .ok old.toArray w') :
    ∃ newCap, sLen + n ≤ newCap ∧ (Builtin.append_ #[t, u] ty #[.slice base sLen sCap, y]).run P w = .ok (.slice (some ⟨w.heap.size, 0, none⟩) (sLen + n) newCap) (w.drew.alloc (.cells (old ++ new ++ (Builtin.zeroCells z.cells (newCap - (sLen + n))).toList).toArray e)) := by
  have harr : ∀ z' : Array Value, (old.toArray ++ new.toArray ++ z') = (old ++ new ++ z'.toList).toArray := by intro z'; apply Array.ext'; simp [List.append_assoc]
  have hn : ¬ (sLen + n ≤ sCap) := by omega
  have e47 : (2 : Nat) ^ 47 = 140737488355328 := by decide
  have e48 : (2 : Nat) ^ 48 = 281474976710656 := by decide
  have e62 : (2 : Nat) ^ 62 = 4611686018427387904 := by decide
  rw [e47] at hfit
  rw [e62] at h62
  have h48 : ¬ (Builtin.nextslicecap (sLen + n) sCap * i.bytes > 2 ^ 48) := by
    have := growslice_fits (need := sLen + n) (old := sCap) (bytes := i.bytes) hroom hfit
    rw [e48]; omega
  refine ⟨(Question.appendCap (sLen + n) sCap e).cut (w.tape w.drawn (.appendCap (sLen + n) sCap e)), Nat.le_add_right _ _, ?_⟩
  rcases hy.kind with ⟨e2, h1, h2, h3⟩ | hk
  · simp only [Builtin.append_, Sem.run_bind, List.getElem?_toArray, List.getElem?_cons_zero, List.getElem?_cons_succ, run_underlying hu, run_underlying h1, Result.andThen, rsizeOf hi, Sem.run_pure, Bool.false_eq_true, if_false, h2, hn, Bool.not_false, if_true, rtypeInfo hi]
    rw [if_neg (by rw [IntKind.max_i64]; omega)]
    simp only [Sem.run_bind, rtypeInfo hi, Result.andThen]
    rw [if_neg h48]
    simp only [Sem.run_bind, run_choose, Question.forced, Bool.false_eq_true, if_false, Result.andThen, rtypeInfo hi, run_askRoom]
    simp only [World.drew_eq, hold w.drew rfl, h3 w.drew rfl, rzeroValue hi hz, newRow, Sem.run_bind, run_newObj, Result.andThen, Sem.run_pure, World.alloc_eq]
    rw [harr]; rfl
  · have hk2 := hk
    obtain ⟨k, z', ⟨k', h1⟩, h2, h3, h4, h5, h6⟩ := hk2
    have hw : IntKind.i64.wrap (n : Int) = n := wrap_id (by omega) (by omega) rfl
    have hap := appended_run hi hk hy.len w.drew
    simp only [Builtin.append_, Sem.run_bind, List.getElem?_toArray, List.getElem?_cons_zero, List.getElem?_cons_succ, run_underlying hu, run_underlying h1, Result.andThen, rsizeOf hi, Sem.run_pure, if_true, h2, asInt, asIntOf, hw]
    rw [if_neg (by omega)]
    simp only [Sem.run_bind, rtypeInfo hi, Result.andThen]
    rw [if_neg (by omega)]
    simp only [Sem.run_pure, Sem.run_bind, Result.andThen, Int.toNat_natCast, hn, if_false, Bool.not_true, Bool.false_eq_true, rtypeInfo hi]
    rw [if_neg (by rw [IntKind.max_i64]; omega)]
    simp only [Sem.run_bind, rtypeInfo hi, Result.andThen]
    rw [if_neg h48]
    simp only [Sem.run_bind, run_choose, Question.forced, Bool.false_eq_true, if_false, Result.andThen, rtypeInfo hi, run_askRoom]
    simp only [World.drew_eq, hold w.drew rfl, hap, rzeroValue hi hz, newRow, Sem.run_bind, run_newObj, Result.andThen, Sem.run_pure, World.alloc_eq]
    rw [harr]; rfl


theorem Step.kill (hR : Rel ρ A w) (b : Nat) : Step ρ A w ρ (A.kill b) w where
  le _ _ := rfl
  next := Nat.le_refl _
  size := Nat.le_refl _
  old _ _ _ := rfl
  own c o _ := by
    rintro ⟨b', e, x, h1, h2, h3, h4⟩
    rw [AH.get_kill] at h2
    split at h2
    · cases h2
    · exact ⟨b', e, x, h1, h2, h3, h4⟩
  hole j _ hj := by
    rw [AH.get_kill]
    split
    · rfl
    · exact hj
  os := rfl
  tape := rfl
  output := rfl
  rel := by
    have sub : ∀ {j x}, (A.kill b).get j = some x → A.get j = some x := by
      intro j x h
      rw [AH.get_kill] at h
      split at h
      · cases h
      · exact h
    refine ⟨fun b' e x h1 h2 => hR.blk b' e x h1 (sub h2), fun b1 b2 e1 e2 x1 x2 hne h1 h2 h3 h4 h5 => hR.inj b1 b2 e1 e2 x1 x2 hne h1 h2 (sub h3) (sub h4) h5, hR.fresh, fun j hj => ?_⟩
    rw [AH.get_kill]
    split
    · rfl
    · exact hR.freshA j hj

theorem drop_take_splice {α : Type} (l : List α) (p m : Nat) (vs : List α) (h : p + m + vs.length ≤ l.length) : ((spliceV l (p + m) vs).drop p).take (m + vs.length) = (l.drop p).take m ++ vs := by
  rw [drop_splice _ _ _ _ h]
  unfold spliceV
  rw [show m + vs.length = ((l.drop p).take m ++ vs).length by simp; omega, List.take_left]

/-- An append that stays in its block: the block has a new number, from the slice's first cell on. -/
theorem Step.moved {b o m : Nat} {en : Ent} {cs old new : List AVal} {vs : List Value} (hR : Rel ρ A w) (hb : ρ b = some en) (hx : A.get b = some (.cells false cs)) (hold : old = (cs.drop o).take m) (hm : o + m ≤ cs.length)
    (hnew : VRels ρ new vs) (h1 : new.all AVal.one = true) (hfit : en.sh + o + m + vs.length ≤ en.csz) :
    ∃ w', (storeCells ⟨en.cb, en.sh + o + m, none⟩ vs).run P w = .ok () w' ∧ Step ρ A w (upd ρ A.next ⟨en.cb, en.sh + o, en.csz⟩) ((A.kill b).new (.cells false (old ++ new))) w' := by
  obtain ⟨cc, el, fz, hh, c1, c2, c3, c4⟩ := hR.blk _ _ _ hb hx
  have hone : ∀ v ∈ vs, v.oneCell' = true := by
    intro v hv'
    obtain ⟨i, hi, rfl⟩ := List.getElem_of_mem hv'
    have hi' : i < new.length := by rw [hnew.1]; exact hi
    exact (hnew.2 i new[i] vs[i] (List.getElem?_eq_getElem hi') (List.getElem?_eq_getElem hi)).one (List.all_eq_true.1 h1 _ (List.getElem_mem hi'))
  obtain ⟨w', cc', e1, e2, e3, e4⟩ := run_storeCells P (en.sh + o + m) vs 0 cc w hh (by rw [c1]; exact c2 rfl) (by omega) hone
  have hid : ρ A.next = none := hR.fresh _ (Nat.le_refl _)
  have hbn : b ≠ A.next := fun h => by rw [h] at hb; rw [hid] at hb; cases hb
  have hext := upd_ext (e := ⟨en.cb, en.sh + o, en.csz⟩) hid
  have hget : ∀ {j x}, ((A.kill b).new (.cells false (old ++ new))).get j = some x → (j = A.next ∧ x = .cells false (old ++ new)) ∨ (j ≠ A.next ∧ j ≠ b ∧ A.get j = some x) := by
    intro j x h
    rw [AH.get_new] at h
    split at h
    · rename_i hj; cases h; exact .inl ⟨hj, rfl⟩
    · rename_i hj
      rw [AH.get_kill] at h
      split at h
      · cases h
      · rename_i hj2; exact .inr ⟨hj, hj2, h⟩
  have holdl : old.length = m := by rw [hold]; simp; omega
  refine ⟨w', by simpa using e1, fun j hj => upd_ne _ _ (by omega), by simp, by rw [e4.size]; exact Nat.le_refl _, fun c hc hn => e4.other c fun h => hn ⟨b, en, _, hb, hx, fun _ => rfl, h.symm⟩, ?_, fun j hj hj' => by rw [AH.get_new_ne _ _ _ (by simp; omega), AH.get_kill]; split <;> simp_all, e4.os, e4.tape, e4.output, ?_⟩
  · rintro c o' hc ⟨j, ej, xj, g1, g2, g3, g4⟩
    rcases hget g2 with ⟨rfl, rfl⟩ | ⟨k1, k2, k3⟩
    · rw [upd_same] at g1; cases g1
      exact ⟨b, en, _, hb, hx, fun _ => rfl, g4⟩
    · rw [upd_ne _ _ k1] at g1
      exact ⟨j, ej, xj, g1, k3, g3, g4⟩
  · constructor
    · intro j ej xj g1 g2
      rcases hget g2 with ⟨rfl, rfl⟩ | ⟨k1, k2, k3⟩
      · rw [upd_same] at g1; cases g1
        refine ⟨cc', el, fz, e2, ?_, c2, ?_, ?_⟩
        · have := congrArg List.length e3
          rw [length_splice _ _ _ (by simp; omega)] at this
          simpa [c1] using this
        · simp only [List.length_append, holdl, hnew.1]; omega
        · simp only
          rw [show (old ++ new).length = m + vs.length by simp [holdl, hnew.1], e3, Nat.add_zero, drop_take_splice _ _ _ _ (by simp; omega)]
          refine (VRels.append ?_ hnew).mono hext
          have := (c4.drop o).take m
          rw [← hold] at this
          rw [List.drop_take, List.drop_drop, List.take_take, Nat.min_eq_left (by omega)] at this
          exact this
      · rw [upd_ne _ _ k1] at g1
        exact ((hR.blk j ej xj g1 k3).congr (e4.other _ fun h => hR.inj b j en ej _ xj (Ne.symm k2) hb g1 hx k3 rfl h.symm)).mono hext
    · intro j1 j2 f1 f2 x1 x2 hne g1 g2 g3 g4 g5
      rcases hget g3 with ⟨rfl, rfl⟩ | ⟨k1, k2, k3⟩
      · rcases hget g4 with ⟨rfl, rfl⟩ | ⟨l1, l2, l3⟩
        · exact absurd rfl hne
        · rw [upd_same] at g1; cases g1
          rw [upd_ne _ _ l1] at g2
          exact hR.inj b j2 en f2 _ x2 (Ne.symm l2) hb g2 hx l3 rfl
      · rw [upd_ne _ _ k1] at g1
        rcases hget g4 with ⟨rfl, rfl⟩ | ⟨l1, l2, l3⟩
        · rw [upd_same] at g2; cases g2
          exact fun h => hR.inj b j1 en f1 _ x1 (Ne.symm k2) hb g1 hx k3 rfl h.symm
        · rw [upd_ne _ _ l1] at g2
          exact hR.inj j1 j2 f1 f2 x1 x2 hne g1 g2 k3 l3 g5
    · intro j hj
      simp only [AH.next_new, AH.next_kill] at hj
      rw [upd_ne _ _ (by omega)]
      exact hR.fresh j (by omega)
    · intro j hj
      simp only [AH.next_new, AH.next_kill] at hj
      rw [AH.get_new_ne _ _ _ (by simp; omega), AH.get_kill]
      split
      · rfl
      · exact hR.freshA j (by omega)

theorem zeroCells_size (z : Array Value) (n : Nat) : (Builtin.zeroCells z n).toList.length = n * z.size := by
  rw [zeroCells_eq, length_flatten_replicate]; simp

theorem aappend_sound {t u ty e : TypeId} {i : TypeInfo} {z : Value} (hu : P.underlying t = some (.slice e)) (hi : P.info? e = some i) (hz : i.zero = some z) (hzs : z.cells.size = i.size) {s : AVal} {us y : Value} {n : Nat} {new : List AVal} {vs : List Value} {consts : Array Bool}
    (hR : Rel ρ A w) (hs : VRel ρ s us) (hy : Appends P u e i y n vs w) (hnew : VRels ρ new vs) (hv : aappend A i.size i.bytes s n new = some (v, A')) :
    ∃ ρ' nx v' w', (builtin .append #[t, u] ty consts #[us, y]).run P w = .ok nx w' ∧ Gives nx v' ∧ VRel ρ' v v' ∧ Step ρ A w ρ' A' w' := by
  have hb : ∀ {r : Value} {w' : World}, (Builtin.append_ #[t, u] ty #[us, y]).run P w = .ok r w' → (builtin .append #[t, u] ty consts #[us, y]).run P w = .ok (.value r) w' := by
    intro r w' h
    simp only [builtin, Sem.run_bind, h, Result.andThen, Sem.run_pure]
  have hlen := hy.len
  have hnl := hnew.1
  -- a new block that holds what there was, what is new and room
  have grow : ∀ {A : AH}, Rel ρ A w → ∀ {sLen nc : Nat} {old : List AVal} {olds : List Value}, VRels ρ old olds → olds.length = sLen * i.size → 0 < i.size → sLen + n ≤ nc →
      ∀ W : World, W.heap = w.heap → W.os = w.os → W.tape = w.tape → W.output = w.output →
      ∃ ρ', VRel ρ' (.slice A.next 0 (sLen + n) (sLen + n) i.size) (.slice (some ⟨W.heap.size, 0, none⟩) (sLen + n) nc) ∧
        Step ρ A w ρ' (A.new (.cells false (old ++ new))) (W.alloc (.cells (olds ++ vs ++ (Builtin.zeroCells z.cells (nc - (sLen + n))).toList).toArray e)) := by
    intro A hR sLen nc old olds hold hol hsz hnc W hW1 hW2 hW3 hW4
    have hlo := hold.1
    have hR' : Rel ρ A W := hR.heap hW1
    have hsW : Step ρ A w ρ A W := ⟨fun _ _ => rfl, Nat.le_refl _, by rw [hW1]; exact Nat.le_refl _, fun c _ _ => by rw [hW1], fun _ _ _ h => h, fun _ _ h => h, hW2, hW3, hW4, hR'⟩
    have hzl := zeroCells_size z.cells (nc - (sLen + n))
    have htot : (olds ++ vs ++ (Builtin.zeroCells z.cells (nc - (sLen + n))).toList).length = nc * i.size := by
      simp only [List.length_append, hol, hlen, hzl, hzs]
      rw [← Nat.add_mul, ← Nat.add_mul]
      congr 1; omega
    have hl : (old ++ new).length ≤ (olds ++ vs ++ (Builtin.zeroCells z.cells (nc - (sLen + n))).toList).toArray.size := by
      simp only [List.size_toArray, List.length_append]; omega
    refine ⟨_, ?_, hsW.trans (hR'.new (csz := (olds ++ vs ++ (Builtin.zeroCells z.cells (nc - (sLen + n))).toList).toArray.size) (BRel.new_cells hl ?_))⟩
    · refine .slice (upd_same _ _ _) (Nat.le_refl _) hnc (fun h => by omega) (fun _ => ?_) (fun _ => rfl)
      simp only [Nat.zero_add]
      rw [List.size_toArray, htot]; exact Nat.le_refl _
    · simp only
      rw [show (old ++ new).length = (olds ++ vs).length by simp [hlo, hnl], List.take_left]
      exact (hold.append hnew).mono (upd_ext (hR.fresh _ (Nat.le_refl _)))
  unfold aappend at hv
  split at hv
  · cases hs
    split at hv
    · rename_i h0
      cases hv
      subst h0
      exact ⟨ρ, _, _, w, hb (run_append_room hu hi hy (by omega) rfl), .inl rfl, .nilslice, Step.refl hR⟩
    · rename_i h0
      split at hv
      · rename_i hc
        cases hv
        obtain ⟨nc, q1, q2⟩ := run_append_more (ty := ty) (sLen := 0) (sCap := 0) (base := none) (old := []) hu hi hz hy (by omega) (by rw [Nat.zero_add]; exact hc.2.2.1) (by rw [Nat.zero_add]; exact hc.2.2.2) (fun w' _ => by simp [Builtin.firstCells])
        obtain ⟨ρ', g1, g2⟩ := grow hR (sLen := 0) (nc := nc) (old := []) (olds := []) .nil (by simp) hc.2.1 q1 w.drew rfl rfl rfl rfl
        rw [Nat.zero_add] at g1 q2 g2
        exact ⟨ρ', _, _, _, hb q2, .inl rfl, g1, g2⟩
      · cases hv
  · rename_i b o len cap lx
    generalize hus : us = us' at hs
    cases hs with
    | @slice _ _ o' _ _ _ cap' en g1 g0 g2 g3 g4 g5 =>
      split at hv
      · rename_i hroom
        split at hv
        · rename_i hemp
          cases hv
          have hne : vs = [] := by
            have : new = [] := by simpa using hemp
            rw [this] at hnl; simpa using hnl.symm
          rw [hus] at hb
          exact ⟨ρ, _, _, w, hb (run_append_room hu hi hy (by omega) (by rw [hne]; rfl)), .inl rfl, .slice g1 hroom g2 g3 g4 g5, Step.refl hR⟩
        · rename_i hemp
          split at hv
          · rename_i A1 hw
            cases hv
            have hn0 : n ≠ 0 := by
              intro h
              rw [h, Nat.zero_mul] at hlen
              have : new = [] := by rw [hlen] at hnl; simpa using hnl
              exact hemp (by simp [this])
            have ho := g5 (by omega)
            obtain ⟨w', e1, e2⟩ := hR.wr P g1 hw hnew
            rw [hus] at hb
            refine ⟨ρ, _, _, w', hb (run_append_room hu hi hy (by omega) ?_), .inl rfl, .slice g1 hroom g2 g3 g4 g5, e2⟩
            simp only [addr_add, ho, Nat.add_assoc]
            exact e1
          · cases hv
      · rename_i hroom
        split at hv
        · rename_i hc
          obtain ⟨hc1, hc2, hc3, hc4⟩ := hc
          split at hv
          · cases hv
          · rename_i old hold
            obtain ⟨olds, r1, r2, r3⟩ := firstCells_sound (P := P) (n := len) hR (.slice g1 g0 g2 g3 g4 g5) (Nat.le_refl _) hold
            split at hv
            · rename_i hlx
              cases hv
              have hcap := g3 hlx
              obtain ⟨nc, q1, q2⟩ := run_append_more (ty := ty) (sLen := len) (sCap := cap') (base := some ⟨en.cb, o', none⟩) (old := olds) hu hi hz hy (by omega) hc3 hc4 r3
              obtain ⟨ρ', k1, k2⟩ := grow hR (sLen := len) (nc := nc) r2 r1 hc2 q1 w.drew rfl rfl rfl rfl
              rw [hus] at hb
              exact ⟨ρ', _, _, _, hb q2, .inl rfl, k1, k2⟩
            · rename_i hlx
              split at hv
              · rename_i hle
                simp only [Bool.and_eq_true, decide_eq_true_eq] at hle
                split at hv
                · rename_i cs hx
                  split at hv
                  · rename_i hlen2
                    cases hv
                    rw [hus] at hb
                    have hl0 : len * i.size = 0 → len = 0 := fun h => by
                      rcases Nat.mul_eq_zero.1 h with h | h
                      · exact h
                      · omega
                    by_cases hin : len + n ≤ cap'
                    · have hm : old = (cs.drop o).take (len * i.size) := by
                        split at hold
                        · rename_i h0; cases hold; rw [h0]; simp
                        · rw [show A.rd b o (len * i.size) = some ((cs.drop o).take (len * i.size)) by unfold AH.rd; rw [hx]; simp only [hlen2, if_true]] at hold
                          cases hold; rfl
                      have hfit : en.sh + o + len * i.size + vs.length ≤ en.csz := by
                        have h4 := g4 hlx
                        rw [hle.1] at h4
                        rw [hlen]
                        have : (len + n) * i.size ≤ cap' * i.size := Nat.mul_le_mul_right _ hin
                        rw [Nat.add_mul] at this
                        omega
                      obtain ⟨w', e1, e2⟩ := Step.moved (P := P) hR g1 hx hm hlen2 hnew hle.2 hfit
                      have ho := g5 (by omega)
                      refine ⟨_, _, _, w', hb (run_append_room hu hi hy hin ?_), .inl rfl, ?_, e2⟩
                      · simp only [addr_add, ho]; exact e1
                      · refine VRel.slice (e := ⟨en.cb, en.sh + o, en.csz⟩) (upd_same _ _ _) (Nat.le_refl _) hin (fun h => by omega) (fun _ => ?_) (fun _ => by simp [ho])
                        have h4 := g4 hlx
                        rw [hle.1] at h4
                        simpa using h4
                    · obtain ⟨nc, q1, q2⟩ := run_append_more (ty := ty) (sLen := len) (sCap := cap') (base := some ⟨en.cb, o', none⟩) (old := olds) hu hi hz hy (by omega) hc3 hc4 r3
                      have hk := Step.kill hR b
                      obtain ⟨ρ', k1, k2⟩ := grow hk.rel (sLen := len) (nc := nc) r2 r1 hc2 q1 w.drew rfl rfl rfl rfl
                      exact ⟨ρ', _, _, _, hb q2, .inl rfl, k1, hk.trans k2⟩
                  · cases hv
                · cases hv
              · cases hv
        · cases hv
  · cases hv

end
end Ab
