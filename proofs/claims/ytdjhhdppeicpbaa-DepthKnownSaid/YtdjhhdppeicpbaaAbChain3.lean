/- append in the two forms; all operations that turn memory. -/
import Derived.Test.YtdjhhdppeicpbaaAbAppend
namespace Ab
open Go

section
variable {P : Program} {ρ : Ren} {A A' : AH} {w : World} {T : List AVal} {a : Act} {dst : Option Tmp} {type : TypeId} {pos : String} {after : Array Edge} {guard : Option (Nat × Bool)} {v : AVal} {x : XOp}

theorem snd_append {t u e e2 : TypeId} {i : TypeInfo} {z : Value} {y y2 : Operand} {b c : XOpd} (hR : Rel ρ A w) (hT : TRel ρ T a.tmps) (hb : cOpd y = some b) (hcz : cOpd y2 = some c) (hu : P.underlying t = some (.slice e)) (hu2 : P.underlying u = some (.slice e2))
    (hi : P.info? e = some i) (hz : i.zero = some z) (hzs : z.cells.size = i.size)
    (hv : achain T A (.append i.size i.bytes b c) = some (v, A')) : ChainOk P ρ A w a ⟨dst, .call ⟨.builtin .append, #[y, y2], #[t, u]⟩, type, pos, after, guard⟩ v A' := by
  have hr := ev_rel hT hb
  have hrk := ev_rel hT hcz
  unfold ChainOk
  simp only [execOp_builtin, List.map_toArray, List.map_cons, List.map_nil]
  simp only [achain] at hv
  split at hv
  · rename_i hj
    rw [hj] at hrk
    generalize he : a.eval y2 = uu at hrk
    cases hrk with
    | nilslice =>
      have hy : Appends P u e i (.slice none 0 0) 0 [] w := ⟨by simp, .inl ⟨e2, hu2, fun _ => rfl, fun w' _ => by simp [Builtin.firstCells]⟩⟩
      obtain ⟨ρ', nx, v', w', h1, h2, h3, h4⟩ := aappend_sound (ty := type) (consts := #[y, y2].map fun | .const _ => true | _ => false) hu hi hz hzs hR hr hy .nil hv
      exact ⟨ρ', nx, v', w', h1, h2, h3, h4⟩
  · rename_i bb o n c1 l1 hj
    rw [hj] at hrk
    split at hv
    · rename_i new hnew
      obtain ⟨vs, l1, l2, l3⟩ := firstCells_sound (P := P) hR hrk (Nat.le_refl n) hnew
      have hy : Appends P u e i (a.eval y2) n vs w := by
        refine ⟨l1, .inl ⟨e2, hu2, ?_, l3⟩⟩
        intro w'
        generalize he : a.eval y2 = uu at hrk
        cases hrk with
        | slice g1 g0 g2 g3 g4 g5 => rfl
      obtain ⟨ρ', nx, v', w', h1, h2, h3, h4⟩ := aappend_sound (ty := type) (consts := #[y, y2].map fun | .const _ => true | _ => false) hu hi hz hzs hR hr hy l2 hv
      exact ⟨ρ', nx, v', w', h1, h2, h3, h4⟩
    · cases hv
  · cases hv

theorem snd_appendZ {t u e : TypeId} {i : TypeInfo} {zs : List AVal} {k : IntKind} {y y2 : Operand} {b c : XOpd} (hR : Rel ρ A w) (hT : TRel ρ T a.tmps) (hb : cOpd y = some b) (hcz : cOpd y2 = some c) (hu : P.underlying t = some (.slice e)) (hu2 : P.underlying u = some (.int k))
    (hi : P.info? e = some i) (hz : tyZeroCells P e = some zs) (hzl : zs.length = i.size)
    (hv : achain T A (.appendZ i.size i.bytes zs b c) = some (v, A')) : ChainOk P ρ A w a ⟨dst, .call ⟨.builtin .append, #[y, y2], #[t, u]⟩, type, pos, after, guard⟩ v A' := by
  obtain ⟨i', zv, hi', hiz, hzs⟩ := tyZeroCells_inv hz
  rw [hi] at hi'; cases hi'
  have hzr := cVals_rel hzs ρ
  have hr := ev_rel hT hb
  have hrk := ev_rel hT hcz
  unfold ChainOk
  simp only [execOp_builtin, List.map_toArray, List.map_cons, List.map_nil]
  simp only [achain] at hv
  split at hv
  · rename_i k' n hj
    rw [hj] at hrk
    split at hv
    · rename_i hc
      obtain ⟨h1, h2, h3, h4⟩ := hc
      obtain ⟨m, rfl⟩ : ∃ m : Nat, n = m := ⟨n.toNat, by omega⟩
      rw [Int.toNat_natCast] at hv
      have hlz : zv.cells.size = i.size := by have := hzr.1; rw [hzl] at this; simpa using this.symm
      have hy : Appends P u e i (a.eval y2) m (List.replicate m zv.cells.toList).flatten w := by
        refine ⟨by rw [length_flatten_replicate]; simp [hlz], .inr ⟨k', zv, ⟨_, hu2⟩, ?_, by omega, by omega, hiz, rfl⟩⟩
        · generalize he : a.eval y2 = uu at hrk
          cases hrk with
          | int => rfl
      obtain ⟨ρ', nx, v', w', h1, h2, h3, h4⟩ := aappend_sound (ty := type) (consts := #[y, y2].map fun | .const _ => true | _ => false) hu hi hiz hlz hR hr hy (hzr.flatten_replicate m) hv
      exact ⟨ρ', nx, v', w', h1, h2, h3, h4⟩
    · cases hv
  · cases hv

/-- An operation that turns memory comes to what the executor says. -/
theorem chain_sound {o : Oper} (hR : Rel ρ A w) (hT : TRel ρ T a.tmps) (hc : cOp P o.op = some x) (hv : achain T A x = some (v, A')) : ChainOk P ρ A w a o v A' := by
  obtain ⟨dst, op, type, pos, after, guard⟩ := o
  cases op with
  | store t y z => exact snd_store hR hT hc hv
  | mapUpdate t y z u => exact snd_mapUpdate hR hT hc hv
  | binOp op t y z yt =>
    simp only [cOp, cBin] at hc
    repeat' split at hc
    all_goals first
      | (cases hc; done)
      | (cases hc; simp [achain] at hv; done)
      | skip
    all_goals
      rename_i hp hq _ _ _ _
      cases hc
      exact snd_fbin hR hT hp hq hv
  | convert s d y =>
    simp only [cOp] at hc
    repeat' split at hc
    all_goals first
      | (cases hc; done)
      | (cases hc; simp [achain] at hv; done)
      | skip
    cases hc
    rename_i hb hs hd _ he hsd
    exact snd_cvid hR hT hb hs hd he hsd hv
  | call c =>
    obtain ⟨callee, args, ts⟩ := c
    cases callee with
    | builtin b =>
      replace hc : cBuiltin P b ts args.toList = some x := by simpa only [cOp] using hc
      unfold cBuiltin at hc
      split at hc
      case h_5 =>
        rename_i t u y y2 hts hargs
        repeat' split at hc
        all_goals first
          | (cases hc; done)
          | skip
        · cases hc
          have h1 := array_two hargs
          have h2 := array_two hts
          subst h1 h2
          exact snd_append hR hT (by assumption) (by assumption) (by assumption) (by assumption) (by assumption) (by assumption) (by assumption) hv
        · cases hc
          have h1 := array_two hargs
          have h2 := array_two hts
          subst h1 h2
          exact snd_appendZ hR hT (by assumption) (by assumption) (by assumption) (by assumption) (by assumption) (by assumption) (by assumption) hv
      case h_6 =>
        rename_i t u y y2 hts hargs
        repeat' split at hc
        all_goals first
          | (cases hc; done)
          | skip
        cases hc
        have h1 := array_two hargs
        have h2 := array_two hts
        subst h1 h2
        exact snd_copy hR hT (by assumption) (by assumption) (by assumption) (by assumption) hv
      case h_7 =>
        rename_i t y hts hargs
        repeat' split at hc
        all_goals first
          | (cases hc; done)
          | skip
        cases hc
        have h1 := array_one hargs
        have h2 := array_one hts
        subst h1 h2
        exact snd_clear hR hT (by assumption) (by assumption) (by assumption) (by assumption) hv
      case h_8 =>
        rename_i t u y y2 hts hargs
        repeat' split at hc
        all_goals first
          | (cases hc; done)
          | skip
        cases hc
        have h1 := array_two hargs
        have h2 := array_two hts
        subst h1 h2
        exact snd_delete hR hT (by assumption) (by assumption) (by assumption) (by assumption) hv
      all_goals
        repeat' split at hc
        all_goals first
          | (cases hc; done)
          | (cases hc; simp [achain] at hv; done)
    | value f =>
      simp only [cOp] at hc
      repeat' split at hc
      all_goals first
        | (cases hc; done)
        | (rename_i h1 _; cases h1; done)
        | (rename_i h1; cases h1; done)
        | (cases hc; simp [achain] at hv; done)
    | invoke r m =>
      simp only [cOp] at hc
      repeat' split at hc
      all_goals first
        | (cases hc; done)
        | (rename_i h1 _; cases h1; done)
        | (rename_i h1; cases h1; done)
        | (cases hc; simp [achain] at hv; done)
  | _ =>
    simp only [cOp] at hc
    repeat' split at hc
    all_goals first
      | (cases hc; done)
      | (cases hc; simp [achain] at hv; done)

end
end Ab
