/- Operations that turn memory: delete, copy, clear, append. -/
import Derived.Test.YtdjhhdppeicpbaaAbChain
namespace Ab
open Go

section
variable {P : Program} {ρ : Ren} {A A' : AH} {w : World} {T : List AVal} {a : Act} {dst : Option Tmp} {type : TypeId} {pos : String} {after : Array Edge} {guard : Option (Nat × Bool)} {v : AVal} {x : XOp}

theorem map_eraseIdx {α β : Type} (f : α → β) (l : List α) (i : Nat) : (l.eraseIdx i).map f = (l.map f).eraseIdx i := by
  induction l generalizing i with
  | nil => simp
  | cons x l ih => cases i <;> simp [ih]

theorem VRels.eraseIdx {cs : List AVal} {vs : List Value} (h : VRels ρ cs vs) (i : Nat) : VRels ρ (cs.eraseIdx i) (vs.eraseIdx i) := by
  have : ∀ {cs : List AVal} {vs : List Value} (i : Nat), VRels ρ cs vs → VRels ρ (cs.eraseIdx i) (vs.eraseIdx i) := by
    intro cs
    induction cs with
    | nil => intro vs i h; have : vs = [] := by have := h.1; simpa using this.symm
             subst this; simpa using VRels.nil
    | cons c cs ih =>
      intro vs i h
      cases vs with
      | nil => have := h.1; simp at this
      | cons v vs =>
        obtain ⟨h1, h2⟩ := h.uncons
        cases i with
        | zero => simpa using h2
        | succ i => simpa using VRels.cons h1 (ih i h2)
  exact this i h

theorem snd_delete {t u : TypeId} {kt e : TypeId} {y z : Operand} {b c : XOpd} {ki : Bool} (hR : Rel ρ A w) (hT : TRel ρ T a.tmps) (hb : cOpd y = some b) (hcz : cOpd z = some c) (hu : P.underlying t = some (.map kt e)) (hki : keyKind P kt = some ki)
    (hv : achain T A (.delete ki b c) = some (v, A')) : ChainOk P ρ A w a ⟨dst, .call ⟨.builtin .delete, #[y, z], #[t, u]⟩, type, pos, after, guard⟩ v A' := by
  obtain ⟨dk, hdk⟩ := keyKind_inv hki
  have hr := ev_rel hT hb
  have hrk := ev_rel hT hcz
  unfold ChainOk
  simp only [execOp_builtin]
  simp only [achain] at hv
  split at hv
  · rename_i bm hj
    rw [hj] at hr
    generalize he : a.eval y = uu at hr
    cases hr with
    | @map _ en g1 =>
      split at hv
      · rename_i es clock hx
        obtain ⟨es', hh, m1, m2, m3⟩ := hR.blk _ _ _ g1 hx
        split at hv
        · rename_i j vv hf
          cases hv
          obtain ⟨r', q1, q2, q3⟩ := findKey_sound hki hdk hrk es es'.toList 0 _ m1 m2 hf
          obtain ⟨_, hjl, v', rfl, hvv, g, g', f5, f6, f7⟩ := q3 j vv rfl
          refine ⟨ρ, .value (.tuple #[]), .tuple #[], { w with heap := w.heap.setIfInBounds en.cb (.map (es'.eraseIdxIfInBounds j) clock) }, ?_, .inl rfl, .tuple' .nil,
            hR.turn g1 hx rfl (setObj_turned _ _ _) ⟨es'.eraseIdxIfInBounds j, ?_, ?_, ?_, ?_⟩⟩
          · simp only [List.map_toArray, List.map_cons, List.map_nil, builtin, Builtin.delete_, Sem.run_bind, List.getElem?_toArray, List.getElem?_cons_zero, List.getElem?_cons_succ, run_underlying hu, Result.andThen, he, run_getObj_map hh, run_checkKey hki, Instr.findKey, run_underlying hdk, q1, Sem.run_pure, run_setObj_map hh]
          · have := lt_size_of_getElem? hh
            simp [this]
          · have : (es'.eraseIdxIfInBounds j).toList = es'.toList.eraseIdx j := by simp
            rw [this, map_eraseIdx, map_eraseIdx]; exact m1.eraseIdx j
          · have : (es'.eraseIdxIfInBounds j).toList = es'.toList.eraseIdx j := by simp
            rw [this, map_eraseIdx, map_eraseIdx]; exact m2.eraseIdx j
          · have : (es'.eraseIdxIfInBounds j).toList = es'.toList.eraseIdx j := by simp
            rw [this, map_eraseIdx, map_eraseIdx, m3]
        · rename_i hf
          cases hv
          obtain ⟨r', q1, q2, q3⟩ := findKey_sound hki hdk hrk es es'.toList 0 _ m1 m2 hf
          have := q2 rfl; subst this
          refine ⟨ρ, .value (.tuple #[]), .tuple #[], { w with heap := w.heap.setIfInBounds en.cb (.map es' clock) }, ?_, .inl rfl, .tuple' .nil,
            hR.turn_same g1 hx rfl (setObj_turned _ _ _) ⟨es', ?_, m1, m2, m3⟩⟩
          · simp only [List.map_toArray, List.map_cons, List.map_nil, builtin, Builtin.delete_, Sem.run_bind, List.getElem?_toArray, List.getElem?_cons_zero, List.getElem?_cons_succ, run_underlying hu, Result.andThen, he, run_getObj_map hh, run_checkKey hki, Instr.findKey, run_underlying hdk, q1, Sem.run_pure, run_setObj_map hh]
          · have := lt_size_of_getElem? hh
            simp [this]
        · cases hv
      · cases hv
  · cases hv

/-- The first cells of a slice. -/
theorem firstCells_sound {b o len cap lx size n : Nat} {u : Value} {new : List AVal} (hR : Rel ρ A w) (hr : VRel ρ (.slice b o len cap lx) u) (hn : n ≤ len) (hnew : (if n * size = 0 then some [] else A.rd b o (n * size)) = some new) :
    ∃ vs : List Value, vs.length = n * size ∧ VRels ρ new vs ∧ ∀ w', w'.heap = w.heap → (Builtin.firstCells size n u).run P w' = .ok vs.toArray w' := by
  cases hr with
  | @slice _ _ o' _ _ _ cap' en g1 g0 g2 g3 g4 g5 =>
    split at hnew
    · rename_i h0
      cases hnew
      refine ⟨[], by simp [h0], .nil, fun w' hw' => ?_⟩
      simp only [Builtin.firstCells, h0]
      exact run_loadCells_list w' _ [] (by simp)
    · rename_i h0
      obtain ⟨vs, q1, q2, q3⟩ := hR.rd g1 hnew
      refine ⟨vs, q1, q3, fun w' hw' => ?_⟩
      simp only [Builtin.firstCells]
      rw [← q1]
      refine run_loadCells_list w' _ vs fun j u hju => ?_
      have hn0 : n ≠ 0 := fun h => h0 (by rw [h]; simp)
      rw [g5 (by omega)]
      have := q2 j u hju
      simp only [World.cell?] at this ⊢
      rw [hw']; exact this

theorem snd_copy {t u e : TypeId} {i : TypeInfo} {y z : Operand} {b c : XOpd} (hR : Rel ρ A w) (hT : TRel ρ T a.tmps) (hb : cOpd y = some b) (hcz : cOpd z = some c) (hu : P.underlying t = some (.slice e)) (hi : P.info? e = some i)
    (hv : achain T A (.copy i.size b c) = some (v, A')) : ChainOk P ρ A w a ⟨dst, .call ⟨.builtin .copy, #[y, z], #[t, u]⟩, type, pos, after, guard⟩ v A' := by
  have hr := ev_rel hT hb
  have hrk := ev_rel hT hcz
  unfold ChainOk
  simp only [execOp_builtin]
  simp only [achain] at hv
  split at hv
  · cases hv
  · rename_i bs os n hsrc
    -- the source, as a slice of length n
    have hlen : ∃ m, (Builtin.lenOf (a.eval z)).run P w = .ok n w ∧ m = n := by
      split at hsrc
      · rename_i hj
        cases hsrc
        rw [hj] at hrk
        generalize he : a.eval z = uu at hrk
        cases hrk with
        | nilslice => exact ⟨_, rfl, rfl⟩
      · rename_i b0 o0 n0 c0 l0 hj
        cases hsrc
        rw [hj] at hrk
        generalize he : a.eval z = uu at hrk
        cases hrk with
        | slice g1 g0 g2 g3 g4 g5 => exact ⟨_, rfl, rfl⟩
      · cases hsrc
    obtain ⟨_, hlen, _⟩ := hlen
    have hfirst : ∀ m new, m ≤ n → (if m * i.size = 0 then some [] else A.rd bs os (m * i.size)) = some new →
        ∃ vs : List Value, vs.length = m * i.size ∧ VRels ρ new vs ∧ ∀ w', w'.heap = w.heap → (Builtin.firstCells i.size m (a.eval z)).run P w' = .ok vs.toArray w' := by
      intro m new hm hnew
      split at hsrc
      · rename_i hj
        cases hsrc
        rw [hj] at hrk
        have : m = 0 := by omega
        subst this
        simp at hnew; subst hnew
        generalize he : a.eval z = uu at hrk
        cases hrk with
        | nilslice => exact ⟨[], by simp, .nil, fun w' _ => by simp [Builtin.firstCells]⟩
      · rename_i b0 o0 n0 c0 l0 hj
        cases hsrc
        rw [hj] at hrk
        exact firstCells_sound hR hrk hm hnew
      · cases hsrc
    split at hv
    · rename_i hj
      cases hv
      rw [hj] at hr
      generalize he : a.eval y = uu at hr
      cases hr with
      | nilslice =>
        obtain ⟨vs, l1, l2, l3⟩ := hfirst 0 [] (by omega) (by simp)
        have : vs = [] := by simpa using l1
        subst this
        refine ⟨ρ, .value (.int .i64 0), .int .i64 0, w, ?_, .inl rfl, .int _ _, Step.refl hR⟩
        simp only [List.map_toArray, List.map_cons, List.map_nil, builtin, Builtin.copy_, Sem.run_bind, List.getElem?_toArray, List.getElem?_cons_zero, List.getElem?_cons_succ, run_underlying hu, Result.andThen, he, hlen, rsizeOf hi, Nat.min_zero, l3 w rfl, Sem.run_pure, goInt]
        simp
    · rename_i b1 o1 n1 c1 l1' hj
      rw [hj] at hr
      generalize he : a.eval y = uu at hr
      cases hr with
      | @slice _ _ o' _ _ _ cap' en g1 g0 g2 g3 g4 g5 =>
        have hmin : n.min n1 = min n n1 := rfl
        split at hv
        · rename_i h0
          cases hv
          obtain ⟨vs, l1, l2, l3⟩ := hfirst (min n n1) [] (Nat.min_le_left _ _) (by rw [if_pos h0])
          have : vs = [] := by rw [h0] at l1; simpa using l1
          subst this
          refine ⟨ρ, .value (.int .i64 (min n n1 : Nat)), .int .i64 (min n n1 : Nat), w, ?_, .inl rfl, .int _ _, Step.refl hR⟩
          simp only [List.map_toArray, List.map_cons, List.map_nil, builtin, Builtin.copy_, Sem.run_bind, List.getElem?_toArray, List.getElem?_cons_zero, List.getElem?_cons_succ, run_underlying hu, Result.andThen, he, hlen, rsizeOf hi, hmin, l3 w rfl, Sem.run_pure, goInt, storeCells]
        · rename_i h0
          split at hv
          · rename_i cs hcs
            split at hv
            · rename_i A1 hw
              cases hv
              obtain ⟨vs, l1, l2, l3⟩ := hfirst (min n n1) cs (Nat.min_le_left _ _) (by rw [if_neg h0]; exact hcs)
              obtain ⟨w', e1, e2⟩ := hR.wr P g1 hw l2
              have hn0 : n1 ≠ 0 := fun h => h0 (by rw [h]; simp)
              rw [g5 (by omega)] at he
              refine ⟨ρ, .value (.int .i64 (min n n1 : Nat)), .int .i64 (min n n1 : Nat), w', ?_, .inl rfl, .int _ _, e2⟩
              simp only [List.map_toArray, List.map_cons, List.map_nil, builtin, Builtin.copy_, Sem.run_bind, List.getElem?_toArray, List.getElem?_cons_zero, List.getElem?_cons_succ, run_underlying hu, Result.andThen, he, hlen, rsizeOf hi, hmin, l3 w rfl, Sem.run_pure, goInt, e1]
            · cases hv
          · cases hv
    · cases hv

theorem zeroCells_eq (z : Array Value) (n : Nat) : (Builtin.zeroCells z n).toList = (List.replicate n z.toList).flatten := by
  unfold Builtin.zeroCells
  rw [Array.toList_map, Array.toList_range]
  by_cases h : 0 < z.toList.length
  · have := range_map_mod z.toList n h
    simpa using this
  · have hz : z = #[] := by apply Array.ext'; simpa using h
    subst hz
    simp

theorem snd_clear {t e : TypeId} {i : TypeInfo} {zs : List AVal} {y : Operand} {b : XOpd} (hR : Rel ρ A w) (hT : TRel ρ T a.tmps) (hb : cOpd y = some b) (hu : P.underlying t = some (.slice e)) (hi : P.info? e = some i) (hz : tyZeroCells P e = some zs)
    (hv : achain T A (.clear i.size zs b) = some (v, A')) : ChainOk P ρ A w a ⟨dst, .call ⟨.builtin .clear, #[y], #[t]⟩, type, pos, after, guard⟩ v A' := by
  obtain ⟨i', zv, hi', hiz, hzs⟩ := tyZeroCells_inv hz
  rw [hi] at hi'; cases hi'
  have hzr := cVals_rel hzs ρ
  have hr := ev_rel hT hb
  unfold ChainOk
  simp only [execOp_builtin]
  simp only [achain] at hv
  split at hv
  · rename_i hj
    cases hv
    rw [hj] at hr
    generalize he : a.eval y = uu at hr
    cases hr with
    | nilslice =>
      refine ⟨ρ, .value (.tuple #[]), .tuple #[], w, ?_, .inl rfl, .tuple' .nil, Step.refl hR⟩
      simp only [List.map_toArray, List.map_cons, List.map_nil, builtin, Builtin.clear_, Sem.run_bind, List.getElem?_toArray, List.getElem?_cons_zero, run_underlying hu, Result.andThen, he, Sem.run_pure]
  · rename_i b1 o1 n1 c1 l1 hj
    rw [hj] at hr
    generalize he : a.eval y = uu at hr
    cases hr with
    | @slice _ _ o' _ _ _ cap' en g1 g0 g2 g3 g4 g5 =>
      have hzc : VRels ρ (List.replicate n1 zs).flatten (Builtin.zeroCells zv.cells n1).toList := by rw [zeroCells_eq]; exact hzr.flatten_replicate n1
      split at hv
      · rename_i h0
        cases hv
        refine ⟨ρ, .value (.tuple #[]), .tuple #[], w, ?_, .inl rfl, .tuple' .nil, Step.refl hR⟩
        subst h0
        simp only [List.map_toArray, List.map_cons, List.map_nil, builtin, Builtin.clear_, Sem.run_bind, List.getElem?_toArray, List.getElem?_cons_zero, run_underlying hu, Result.andThen, he, Sem.run_pure]
      · rename_i h0
        split at hv
        · rename_i hzl
          split at hv
          · rename_i A1 hw
            cases hv
            obtain ⟨w', e1, e2⟩ := hR.wr P g1 hw hzc
            have hn0 : n1 ≠ 0 := h0
            obtain ⟨m, rfl⟩ : ∃ m, n1 = m + 1 := ⟨n1 - 1, by omega⟩
            rw [g5 (by omega)] at he
            refine ⟨ρ, .value (.tuple #[]), .tuple #[], w', ?_, .inl rfl, .tuple' .nil, e2⟩
            simp only [List.map_toArray, List.map_cons, List.map_nil, builtin, Builtin.clear_, Sem.run_bind, List.getElem?_toArray, List.getElem?_cons_zero, run_underlying hu, Result.andThen, he, Sem.run_pure, rzeroValue hi hiz, e1]
          · cases hv
        · cases hv
  · cases hv

end
end Ab
