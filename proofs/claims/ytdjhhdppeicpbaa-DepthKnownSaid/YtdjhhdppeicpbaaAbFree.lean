/- Operations that lay a new block. -/
import Derived.Test.YtdjhhdppeicpbaaAbRead
namespace Ab
open Go

/-- What the run of such an operation is: one new block. -/
def FreeOk (P : Program) (ρ : Ren) (w : World) (a : Act) (o : Oper) (x : ABlk) (k : Nat → AVal) : Prop :=
  ∃ ob csz v', (execOp a.eval o).run P w = .ok (.value v') (w.alloc ob) ∧
    ∀ id, ρ id = none → BRel (upd ρ id ⟨w.heap.size, 0, csz⟩) ⟨w.heap.size, 0, csz⟩ x (w.alloc ob) ∧ VRel (upd ρ id ⟨w.heap.size, 0, csz⟩) (k id) v'

theorem range_map_mod (l : List Value) : ∀ n : Nat, 0 < l.length → (List.range (n * l.length)).map (fun i => l.toArray[i % l.toArray.size]!) = (List.replicate n l).flatten
  | 0, _ => by simp
  | n + 1, h => by
    have ih := range_map_mod l n h
    rw [Nat.add_mul, Nat.one_mul, List.range_add, List.map_append, ih, List.replicate_succ', List.flatten_append]
    congr 1
    simp only [List.map_map]
    apply List.ext_getElem?
    intro i
    simp only [List.getElem?_map, List.flatten_cons, List.flatten_nil, List.append_nil]
    by_cases hi : i < l.length
    · rw [List.getElem?_range hi]
      simp only [Option.map_some, Function.comp_apply, List.size_toArray]
      rw [Nat.add_comm, Nat.add_mul_mod_self_right, Nat.mod_eq_of_lt hi]
      simp [hi]
    · rw [List.getElem?_eq_none (by simp; omega), List.getElem?_eq_none (by omega)]
      rfl

theorem VRels.flatten_replicate {ρ : Ren} {z : List AVal} {vs : List Value} (h : VRels ρ z vs) : ∀ n : Nat, VRels ρ (List.replicate n z).flatten (List.replicate n vs).flatten
  | 0 => .nil
  | n + 1 => by
    simp only [List.replicate_succ, List.flatten_cons]
    exact h.append (VRels.flatten_replicate h n)

theorem length_flatten_replicate {α : Type} (l : List α) (n : Nat) : (List.replicate n l).flatten.length = n * l.length := by
  induction n with
  | zero => simp
  | succ n ih => rw [List.replicate_succ, List.flatten_cons, List.length_append, ih, Nat.add_mul, Nat.one_mul, Nat.add_comm]

section
variable {P : Program} {ρ : Ren} {w : World} {T : List AVal} {a : Act} {dst : Option Tmp} {type : TypeId} {pos : String} {after : Array Edge} {guard : Option (Nat × Bool)} {b : ABlk} {k : Nat → AVal} {x : XOp}

theorem new_cells_ok {cs : List AVal} {vs : Array Value} {el : TypeId} (h : VRels ρ cs vs.toList) (id : Nat) (hid : ρ id = none) :
    BRel (upd ρ id ⟨w.heap.size, 0, vs.size⟩) ⟨w.heap.size, 0, vs.size⟩ (.cells false cs) (w.alloc (.cells vs el)) := by
  have hl := h.1
  simp at hl
  refine BRel.new_cells (by omega) ?_
  rw [hl, List.take_of_length_le (by simp)]
  exact h.mono (upd_ext hid)

theorem snd_alloc {t : TypeId} (hc : cOp P (.alloc t) = some x) (hv : afree T x = some (b, k)) : FreeOk P ρ w a ⟨dst, .alloc t, type, pos, after, guard⟩ b k := by
  simp only [cOp] at hc
  split at hc
  · rename_i zs hz
    cases hc
    obtain ⟨i, z, hi, hiz, hzs⟩ := tyZeroCells_inv hz
    simp only [afree] at hv
    cases hv
    refine ⟨.cells z.cells t, z.cells.size, .pointer (some ⟨w.heap.size, 0, none⟩), ?_, fun id hid => ⟨new_cells_ok (cVals_rel hzs ρ) id hid, .ptr (e := ⟨w.heap.size, 0, z.cells.size⟩) (upd_same _ _ _)⟩⟩
    simp only [execOp, Instr.alloc, Sem.run_bind, rzeroValue hi hiz, Result.andThen, newVar, newRow, run_newObj, Sem.run_pure]
    rfl
  · cases hc

theorem snd_box {t : TypeId} {y : Operand} (hT : TRel ρ T a.tmps) (hc : cOp P (.box t y) = some x) (hv : afree T x = some (b, k)) : FreeOk P ρ w a ⟨dst, .box t y, type, pos, after, guard⟩ b k := by
  simp only [cOp] at hc
  split at hc
  · rename_i c hcy
    cases hc
    have hr := ev_rel hT hcy
    simp only [afree] at hv
    split at hv
    · cases hv
    · rename_i hj
      cases hv
      refine ⟨.cells (a.eval y).cells t, (a.eval y).cells.size, .pointer (some ⟨w.heap.size, 0, none⟩), ?_, fun id hid => ⟨new_cells_ok (hr.cells (by simpa using hj)) id hid, .ptr (e := ⟨w.heap.size, 0, (a.eval y).cells.size⟩) (upd_same _ _ _)⟩⟩
      simp only [execOp, Instr.box, Sem.run_bind, Result.andThen, newVar, newRow, run_newObj, Sem.run_pure]
      rfl
  · cases hc

theorem snd_makeMap {t : TypeId} {r : Option Operand} (hc : cOp P (.makeMap t r) = some x) (hv : afree T x = some (b, k)) : FreeOk P ρ w a ⟨dst, .makeMap t r, type, pos, after, guard⟩ b k := by
  simp only [cOp] at hc
  split at hc
  · cases hc
    simp only [afree] at hv
    cases hv
    refine ⟨.map #[] 0, 0, .map (some w.heap.size), ?_, fun id hid => ⟨BRel.new_map 0, .map (e := ⟨w.heap.size, 0, 0⟩) (upd_same _ _ _)⟩⟩
    simp only [execOp, Instr.makeMap, Option.map_none, Sem.run_bind, Sem.run_pure, Result.andThen, run_newObj]
    rfl
  · cases hc

theorem snd_buildSlice {t : TypeId} {len : Nat} {ps : Array (Nat × Operand)} (hT : TRel ρ T a.tmps) (hc : cOp P (.buildSlice t len ps) = some x) (hv : afree T x = some (b, k)) : FreeOk P ρ w a ⟨dst, .buildSlice t len ps, type, pos, after, guard⟩ b k := by
  simp only [cOp] at hc
  split at hc
  · rename_i e hu
    split at hc
    · rename_i i z hi hz
      obtain ⟨i', zv, hi', hiz, hzs⟩ := tyZeroCells_inv hz
      rw [hi] at hi'; cases hi'
      split at hc
      · rename_i hsz
        simp only [Bool.and_eq_true, decide_eq_true_eq, beq_iff_eq] at hsz
        split at hc
        · rename_i qs hq
          cases hc
          simp only [afree] at hv
          split at hv
          · rename_i cs hcs
            cases hv
            have hzr := cVals_rel hzs ρ
            have hzl : zv.cells.size = i.size := by have := hzr.1; simp at this; omega
            have hinit : VRels ρ (List.replicate len z).flatten ((Array.range (len * i.size)).map (fun j => (if len * i.size = 0 then #[] else zv.cells)[j % (if len * i.size = 0 then #[] else zv.cells).size]!)).toList := by
              by_cases h0 : len * i.size = 0
              · have : (List.replicate len z).flatten = [] := by
                  apply List.eq_nil_of_length_eq_zero
                  rw [length_flatten_replicate, hsz.2]; exact h0
                rw [this, h0]; simpa using VRels.nil
              · have hpos : 0 < zv.cells.toList.length := by
                  simp only [Array.length_toList, hzl]
                  exact Nat.pos_of_ne_zero fun h => h0 (by rw [h]; rfl)
                simp only [h0, if_false]
                rw [Array.toList_map, Array.toList_range]
                have := range_map_mod zv.cells.toList len hpos
                simp only [Array.length_toList, hzl, Array.toArray_toList] at this ⊢
                rw [this]
                exact hzr.flatten_replicate len
            obtain ⟨vs', e1, e2⟩ := afill_sound hT hq hcs hinit
            refine ⟨.cells vs' e, vs'.size, .slice (some ⟨w.heap.size, 0, none⟩) len len, ?_, fun id hid => ⟨new_cells_ok e2 id hid, ?_⟩⟩
            · simp only [execOp, Instr.buildSlice, Sem.run_bind, run_underlying hu, Result.andThen, rsizeOf hi]
              rw [if_neg (by omega)]
              by_cases h0 : len * i.size = 0
              · simp only [h0, if_true] at e1
                simp only [h0, if_true, Sem.run_bind, Sem.run_pure, Result.andThen, Array.toList_map, e1, newRow, run_newObj]
                rfl
              · simp only [h0, if_false] at e1
                simp only [h0, if_false, Sem.run_bind, Sem.run_pure, Result.andThen, rzeroValue hi hiz, Array.toList_map, e1, newRow, run_newObj]
                rfl
            · exact .slice (e := ⟨w.heap.size, 0, vs'.size⟩) (upd_same _ _ _) (Nat.le_refl _) (Nat.le_refl _) (fun _ => rfl) (by simp) (fun _ => rfl)
          · cases hv
        · cases hc
      · cases hc
    · cases hc
  · cases hc

theorem wrap_id {k : IntKind} {n : Int} (h0 : 0 ≤ n) (h1 : n < 2 ^ 62) (hk : k = .i64) : k.wrap n = n := by
  subst hk
  unfold IntKind.wrap
  have e1 : ((2 : Int) ^ IntKind.i64.bits) = 18446744073709551616 := by decide
  have e2 : ((2 : Int) ^ (IntKind.i64.bits - 1)) = 9223372036854775808 := by decide
  have e3 : ((2 : Int) ^ 62) = 4611686018427387904 := by decide
  simp only [e1, e2]
  rw [e3] at h1
  rw [Int.emod_eq_of_lt h0 (by omega)]
  have : ¬ (n ≥ 9223372036854775808) := by omega
  simp [this]

theorem snd_makeSlice {t : TypeId} {y z : Operand} (hT : TRel ρ T a.tmps) (hc : cOp P (.makeSlice t y z) = some x) (hv : afree T x = some (b, k)) : FreeOk P ρ w a ⟨dst, .makeSlice t y z, type, pos, after, guard⟩ b k := by
  simp only [cOp] at hc
  split at hc
  · rename_i e p q hu hp hq
    split at hc
    · rename_i i zs hi hz
      obtain ⟨i', zv, hi', hiz, hzs⟩ := tyZeroCells_inv hz
      rw [hi] at hi'; cases hi'
      cases hc
      have hr := ev_rel hT hp
      have hr' := ev_rel hT hq
      simp only [afree] at hv
      split at hv
      · rename_i kl l kc c h1 h2
        rw [h1] at hr; rw [h2] at hr'
        have hr := vrel_int hr
        have hr' := vrel_int hr'
        split at hv
        · rename_i hcond
          obtain ⟨c1, c2, c3, c4, c5⟩ := hcond
          cases hv
          have hzr := cVals_rel hzs ρ
          have hzl : zv.cells.size = i.size := by have := hzr.1; simp at this; omega
          have wl : IntKind.i64.wrap l = l := wrap_id c1 (by omega) rfl
          have wc : IntKind.i64.wrap c = c := wrap_id (by omega) c3 rfl
          have hinit : VRels ρ (List.replicate c.toNat zs).flatten ((Array.range (c.toNat * i.size)).map (fun j => (if c.toNat * i.size = 0 then #[] else zv.cells)[j % (if c.toNat * i.size = 0 then #[] else zv.cells).size]!)).toList := by
            by_cases h0 : c.toNat * i.size = 0
            · have : (List.replicate c.toNat zs).flatten = [] := by
                apply List.eq_nil_of_length_eq_zero
                rw [length_flatten_replicate, c5]; exact h0
              rw [this, h0]; simpa using VRels.nil
            · have hpos : 0 < zv.cells.toList.length := by
                simp only [Array.length_toList, hzl]
                exact Nat.pos_of_ne_zero fun h => h0 (by rw [h]; rfl)
              simp only [h0, if_false]
              rw [Array.toList_map, Array.toList_range]
              have := range_map_mod zv.cells.toList c.toNat hpos
              simp only [Array.length_toList, hzl, Array.toArray_toList] at this ⊢
              rw [this]
              exact hzr.flatten_replicate c.toNat
          refine ⟨.cells ((Array.range (c.toNat * i.size)).map (fun j => (if c.toNat * i.size = 0 then #[] else zv.cells)[j % (if c.toNat * i.size = 0 then #[] else zv.cells).size]!)) e, _, .slice (some ⟨w.heap.size, 0, none⟩) l.toNat c.toNat, ?_, fun id hid => ⟨new_cells_ok hinit id hid, ?_⟩⟩
          · have e48 : ((2 : Int) ^ 48) = 281474976710656 := by decide
            have e47 : ((2 : Int) ^ 47) = 140737488355328 := by decide
            rw [e47] at c4
            have t1 : ¬ (c < 0 ∨ (i.bytes : Int) * c > 281474976710656) := by omega
            simp only [execOp, Instr.makeSlice, Sem.run_bind, run_underlying hu, Result.andThen, hr, hr', asInt, asIntOf, Sem.run_pure, rtypeInfo hi, wl, wc, e48]
            have t2 : (decide (c < 0) || decide ((i.bytes : Int) * c > 281474976710656) || decide (l < 0) || decide (l > c)) = false := by
              simp; omega
            rw [if_neg (by rw [t2]; simp)]
            simp only [Sem.run_bind, run_askRoom, Result.andThen, rsizeOf hi, newRow]
            by_cases h0 : c.toNat * i.size = 0
            · simp only [h0, if_true]
              rfl
            · simp only [h0, if_false, Sem.run_bind, rzeroValue hi hiz, Result.andThen, Sem.run_pure]
              rfl
          · exact .slice (e := ⟨w.heap.size, 0, _⟩) (upd_same _ _ _) (by omega) (Nat.le_refl _) (fun _ => rfl) (by simp) (fun _ => rfl)
        · cases hv
      · cases hv
    · cases hc
  · cases hc


/-- An operation that lays a new block. -/
theorem free_sound {o : Oper} (hT : TRel ρ T a.tmps) (hc : cOp P o.op = some x) (hp : isFree x = true) (hv : afree T x = some (b, k)) : FreeOk P ρ w a o b k := by
  obtain ⟨dst, op, type, pos, after, guard⟩ := o
  cases op with
  | alloc t => exact snd_alloc hc hv
  | box t y => exact snd_box hT hc hv
  | makeMap t r => exact snd_makeMap hc hv
  | buildSlice t len ps => exact snd_buildSlice hT hc hv
  | makeSlice t y z => exact snd_makeSlice hT hc hv
  | call c =>
    obtain ⟨callee, args, ts⟩ := c
    cases callee with
    | builtin b =>
      replace hc : cBuiltin P b ts args.toList = some x := by simpa only [cOp] using hc
      unfold cBuiltin at hc
      repeat' split at hc
      all_goals first
        | (cases hc; done)
        | (cases hc; simp [isFree] at hp; done)
    | value f =>
      simp only [cOp] at hc
      cases hcs : cOpds args.toList with
      | none => simp [hcs] at hc
      | some as =>
        simp only [hcs] at hc
        split at hc
        · cases hc; simp [isFree] at hp
        · rename_i h1 _
          cases h1
          split at hc
          · cases hc; simp [isFree] at hp
          · cases hc
        all_goals first | (cases hc; done) | (rename_i h1 _; cases h1; done) | (rename_i h1; cases h1; done) | contradiction
    | invoke r m =>
      simp only [cOp] at hc
      cases hcs : cOpds args.toList with
      | none => simp [hcs] at hc
      | some as =>
        simp only [hcs] at hc
        split at hc
        · cases hc; simp [isFree] at hp
        · cases hc
  | binOp op t y z yt =>
    simp only [cOp, cBin] at hc
    repeat' split at hc
    all_goals first
      | (cases hc; done)
      | (cases hc; simp [isFree] at hp; done)
  | _ =>
    simp only [cOp] at hc
    repeat' split at hc
    all_goals first
      | (cases hc; done)
      | (cases hc; simp [isFree] at hp; done)

end
end Ab
