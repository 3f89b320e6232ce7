/- Operations that look at no memory, the rest, and all of them. -/
import Derived.Test.YtdjhhdppeicpbaaAbPure2
namespace Ab
open Go

section
variable {P : Program} {ρ : Ren} {T : List AVal} {a : Act} {dst : Option Tmp} {type : TypeId} {pos : String} {after : Array Edge} {guard : Option (Nat × Bool)} {v : AVal} {x : XOp}

theorem snd_fieldAddr {s : TypeId} {y : Operand} {f : Nat} (hT : TRel ρ T a.tmps) (hc : cOp P (.fieldAddr s y f) = some x) (hv : apure T x = some v) : PureOk P ρ a ⟨dst, .fieldAddr s y f, type, pos, after, guard⟩ v := by
  simp only [cOp] at hc
  split at hc
  · rename_i fs b hu hb
    split at hc
    · rename_i fd hfd
      split at hc
      · rename_i i hi
        split at hc
        · cases hc
        · rename_i hsz
          cases hc
          have hr := ev_rel hT hb
          simp only [apure] at hv
          split at hv
          · rename_i c o hj
            cases hv
            rw [hj] at hr
            generalize he : a.eval y = u at hr
            cases hr with
            | @ptr _ _ en g1 =>
              refine ⟨.pointer (some ⟨en.cb, en.sh + (o + fd.offset), none⟩), .ptr g1, fun w => ?_⟩
              simp only [execOp, Instr.fieldAt, Sem.run_bind, run_underlying hu, Result.andThen, hfd, Sem.run_pure, he, Instr.sureAddr, fieldPlace, rsizeOf hi]
              rw [if_neg hsz]
              simp only [Sem.run_pure, addr_add, Nat.add_assoc]
          · cases hv
      · cases hc
    · cases hc
  · cases hc

theorem part_sound {t : TypeId} {ag : Bool} {n off : Nat} {cs : List AVal} {us : Array Value} {v : AVal} (ht : tyShape P t = some (ag, n)) (hr : VRels ρ cs us.toList) (hv : apart off n ag cs = some v) :
    ∃ u, VRel ρ v u ∧ ∀ w, (part t us off).run P w = .ok u w := by
  obtain ⟨d, i, hd, hi, rfl, rfl⟩ := tyShape_inv ht
  unfold apart at hv
  split at hv
  · rename_i hag
    split at hv
    · rename_i hl
      cases hv
      refine ⟨.agg (us.extract off (off + i.size)), .agg' ?_, fun w => ?_⟩
      · have := (hr.drop off).take i.size
        simp only [Array.toList_extract, List.extract_eq_take_drop]; rw [Nat.add_sub_cancel_left]; exact this
      · simp only [part, Sem.run_bind, risAgg hd, hag, Result.andThen, if_true, rsizeOf hi, Sem.run_pure]
    · cases hv
  · rename_i hag
    have hlt : off < us.toList.length := by
      rw [← hr.1]
      rcases Nat.lt_or_ge off cs.length with h | h
      · exact h
      · rw [List.getElem?_eq_none h] at hv; cases hv
    have hu : us[off]? = some us[off] := by
      have : off < us.size := by simpa using hlt
      simp [this]
    refine ⟨us[off]'(by rw [Array.length_toList] at hlt; exact hlt), hr.2 off v _ hv (by rw [Array.getElem?_toList]; exact hu), fun w => part_flat hd (by simp only [Bool.not_eq_true] at hag; exact hag) hu w⟩

theorem snd_field {s : TypeId} {y : Operand} {f : Nat} (hT : TRel ρ T a.tmps) (hc : cOp P (.field s y f) = some x) (hv : apure T x = some v) : PureOk P ρ a ⟨dst, .field s y f, type, pos, after, guard⟩ v := by
  simp only [cOp] at hc
  split at hc
  · rename_i fs b hu hb
    split at hc
    · rename_i fd hfd
      split at hc
      · rename_i ag n hsh
        cases hc
        have hr := ev_rel hT hb
        simp only [apure] at hv
        split at hv
        · rename_i cs hj
          rw [hj] at hr
          generalize he : a.eval y = u at hr
          cases hr with
          | @agg _ us l1 p1 =>
            obtain ⟨u, h1, h2⟩ := part_sound hsh (VRels.of_agg (.agg l1 p1)) hv
            refine ⟨u, h1, fun w => ?_⟩
            simp only [execOp, Instr.field, Sem.run_bind, run_underlying hu, Result.andThen, hfd, he, asAgg, Sem.run_pure, h2]
        · cases hv
      · cases hc
    · cases hc
  · cases hc

theorem snd_indexAddr {t : TypeId} {y z : Operand} (hT : TRel ρ T a.tmps) (hc : cOp P (.indexAddr t y z) = some x) (hv : apure T x = some v) : PureOk P ρ a ⟨dst, .indexAddr t y z, type, pos, after, guard⟩ v := by
  simp only [cOp] at hc
  split at hc
  · rename_i e b c hu hb hc'
    split at hc
    · rename_i i hi
      cases hc
      have hr := ev_rel hT hb
      have hr' := ev_rel hT hc'
      simp only [apure] at hv
      split at hv
      · rename_i p o len cap lx k n hj hk
        rw [hj] at hr; rw [hk] at hr'
        have hr' := vrel_int hr'
        split at hv
        · rename_i hn
          cases hv
          generalize he : a.eval y = u at hr
          cases hr with
          | slice g1 g0 g2 g3 g4 g5 =>
            rw [g5 (by omega)] at he
            refine ⟨_, .ptr g1, fun w => ?_⟩
            simp only [execOp, Instr.indexAt, Sem.run_bind, run_underlying hu, Result.andThen, he, hr', asIntOf, Sem.run_pure]
            rw [if_pos hn]
            simp only [Sem.run_bind, rsizeOf hi, Result.andThen, Sem.run_pure, addr_add, Nat.add_assoc]
        · cases hv
      · cases hv
    · cases hc
  · rename_i n0 e b c hu hb hc'
    split at hc
    · rename_i i hi
      cases hc
      have hr := ev_rel hT hb
      have hr' := ev_rel hT hc'
      simp only [apure] at hv
      split at hv
      · rename_i p o k n hj hk
        rw [hj] at hr; rw [hk] at hr'
        have hr' := vrel_int hr'
        split at hv
        · rename_i hn
          cases hv
          generalize he : a.eval y = u at hr
          cases hr with
          | ptr g1 =>
            refine ⟨_, .ptr g1, fun w => ?_⟩
            simp only [execOp, Instr.indexAt, Instr.sureAddr, Sem.run_bind, run_underlying hu, Result.andThen, he, hr', asIntOf, Sem.run_pure]
            rw [if_pos hn]
            simp only [Sem.run_bind, rsizeOf hi, Result.andThen, Sem.run_pure, addr_add, Nat.add_assoc]
        · cases hv
      · cases hv
    · cases hc
  · cases hc

theorem snd_index {t : TypeId} {y z : Operand} (hT : TRel ρ T a.tmps) (hc : cOp P (.index t y z) = some x) (hv : apure T x = some v) : PureOk P ρ a ⟨dst, .index t y z, type, pos, after, guard⟩ v := by
  simp only [cOp] at hc
  split at hc
  · rename_i n0 e b c hu hb hc'
    split at hc
    · rename_i ag sz hsh
      cases hc
      have hr := ev_rel hT hb
      have hr' := ev_rel hT hc'
      simp only [apure] at hv
      split at hv
      · rename_i cs k n hj hk
        rw [hj] at hr; rw [hk] at hr'
        have hr' := vrel_int hr'
        split at hv
        · rename_i hn
          generalize he : a.eval y = u at hr
          cases hr with
          | @agg _ us l1 p1 =>
            obtain ⟨u, h1, h2⟩ := part_sound hsh (VRels.of_agg (.agg l1 p1)) hv
            obtain ⟨d, i, hd, hi, _, hsz⟩ := tyShape_inv hsh
            refine ⟨u, h1, fun w => ?_⟩
            simp only [execOp, Instr.index, Sem.run_bind, run_underlying hu, Result.andThen, he, hr', asIntOf, Sem.run_pure]
            rw [if_pos hn]
            simp only [Sem.run_bind, rsizeOf hi, Result.andThen, ← hsz, h2]
        · cases hv
      · cases hv
    · cases hc
  · rename_i b c hu hb hc'
    cases hc
    have hr := ev_rel hT hb
    have hr' := ev_rel hT hc'
    simp only [apure] at hv
    split at hv
    · rename_i s k n hj hk
      rw [hj] at hr; rw [hk] at hr'
      have hr := vrel_str hr
      have hr' := vrel_int hr'
      split at hv
      · rename_i hn
        split at hv
        · rename_i q hq
          cases hv
          refine ⟨_, .int _ _, fun w => ?_⟩
          simp only [execOp, Instr.index, Sem.run_bind, run_underlying hu, Result.andThen, hr, hr', asIntOf, Sem.run_pure, hn, if_true, hq]
        · cases hv
      · cases hv
    · cases hv
  · cases hc

theorem snd_typeAssert {y : Operand} {xt t : TypeId} {ok : Bool} (hT : TRel ρ T a.tmps) (hc : cOp P (.typeAssert y xt t ok) = some x) (hv : apure T x = some v) : PureOk P ρ a ⟨dst, .typeAssert y xt t ok, type, pos, after, guard⟩ v := by
  simp only [cOp] at hc
  split at hc
  · rename_i b d z hb hu hz
    obtain ⟨i, zv, hi, hiz, hzv⟩ := tyZero_inv hz
    split at hc
    · cases hc
    · rename_i hnot
      cases hc
      have hr := ev_rel hT hb
      have hzr := cVal_rel hzv ρ
      simp only [apure] at hv
      split at hv
      · rename_i t' u hj
        rw [hj] at hr
        generalize he : a.eval y = uu at hr
        cases hr with
        | @iface _ _ u' hu' =>
          split at hv
          · rename_i htt
            subst htt
            cases hv
            refine ⟨if ok then .tuple #[u', .bool true] else u', ?_, fun w => ?_⟩
            · cases ok
              · exact hu'
              · exact .tuple' (.cons hu' (.cons (.bool true) .nil))
            · simp only [execOp, Instr.typeAssert, Sem.run_bind, run_underlying hu, Result.andThen, he]
              cases d <;> first | (simp only [if_true, Sem.run_pure]; done) | (exact absurd rfl (hnot _))
          · rename_i htt
            split at hv
            · rename_i hok
              cases hv
              subst hok
              refine ⟨.tuple #[zv, .bool false], .tuple' (.cons hzr (.cons (.bool false) .nil)), fun w => ?_⟩
              simp only [execOp, Instr.typeAssert, Sem.run_bind, run_underlying hu, Result.andThen, he]
              cases d <;> first | (simp only [htt, if_false, if_true, Sem.run_bind, rzeroValue hi hiz, Result.andThen, Sem.run_pure]; done) | (exact absurd rfl (hnot _))
            · cases hv
      · rename_i hj
        rw [hj] at hr
        generalize he : a.eval y = uu at hr
        cases hr with
        | nilIface =>
          split at hv
          · rename_i hok
            cases hv
            subst hok
            refine ⟨.tuple #[zv, .bool false], .tuple' (.cons hzr (.cons (.bool false) .nil)), fun w => ?_⟩
            simp only [execOp, Instr.typeAssert, Sem.run_bind, run_underlying hu, Result.andThen, he]
            cases d <;> first | (simp only [if_true, Sem.run_bind, rzeroValue hi hiz, Result.andThen, Sem.run_pure]; done) | (exact absurd rfl (hnot _))
          · cases hv
      · cases hv
  · cases hc

theorem snd_extract {y : Operand} {i : Nat} (hT : TRel ρ T a.tmps) (hc : cOp P (.extract y i) = some x) (hv : apure T x = some v) : PureOk P ρ a ⟨dst, .extract y i, type, pos, after, guard⟩ v := by
  simp only [cOp] at hc
  split at hc
  · rename_i b hb
    cases hc
    have hr := ev_rel hT hb
    simp only [apure] at hv
    split at hv
    · rename_i vs hj
      rw [hj] at hr
      generalize he : a.eval y = uu at hr
      cases hr with
      | @tuple _ us l1 p1 =>
        have hlt : i < us.size := by
          rw [← l1]
          rcases Nat.lt_or_ge i vs.length with h | h
          · exact h
          · rw [List.getElem?_eq_none h] at hv; cases hv
        refine ⟨us[i], p1 i v _ hv (by simp [hlt]), fun w => ?_⟩
        simp only [execOp, he, Instr.extract, Array.getElem?_eq_getElem hlt]
        rfl
    · cases hv
  · cases hc


theorem execOp_builtin (ev : Operand → Value) (b : Builtin) (args : Array Operand) (ts : Array TypeId) :
    execOp ev ⟨dst, .call ⟨.builtin b, args, ts⟩, type, pos, after, guard⟩ = builtin b ts type (args.map fun | .const _ => true | _ => false) (args.map ev) := rfl

theorem array_one {α : Type} {xs : Array α} {y : α} (h : xs.toList = [y]) : xs = #[y] := Array.ext' (by simpa using h)
theorem array_two {α : Type} {xs : Array α} {y z : α} (h : xs.toList = [y, z]) : xs = #[y, z] := Array.ext' (by simpa using h)
theorem array_none {α : Type} {xs : Array α} (h : xs.toList = []) : xs = #[] := Array.ext' (by simpa using h)

theorem snd_builtin {b : Builtin} {args : Array Operand} {ts : Array TypeId} (hT : TRel ρ T a.tmps) (hc : cBuiltin P b ts args.toList = some x) (hp : isPure x = true) (hv : apure T x = some v) :
    PureOk P ρ a ⟨dst, .call ⟨.builtin b, args, ts⟩, type, pos, after, guard⟩ v := by
  unfold cBuiltin at hc
  unfold PureOk
  simp only [execOp_builtin]
  split at hc
  · rename_i t y hts hargs
    rw [array_one hts, array_one hargs]
    split at hc
    · rename_i c d hcy hu
      have hr := ev_rel hT hcy
      split at hc
      · cases hc
        simp only [apure] at hv
        split at hv
        · rename_i s hj
          cases hv
          rw [hj] at hr; have hr := vrel_str hr
          exact ⟨_, .int _ _, fun w => by simp [builtin, Builtin.len_, run_underlying hu, hr, goInt]⟩
        · cases hv
      · cases hc
        simp only [apure] at hv
        split at hv
        · rename_i hj
          cases hv
          rw [hj] at hr
          generalize he : a.eval y = uu at hr
          cases hr with
          | slice g1 g0 g2 g3 g4 g5 => exact ⟨_, .int _ _, fun w => by simp [builtin, Builtin.len_, run_underlying hu, he, goInt]⟩
        · rename_i hj
          cases hv
          rw [hj] at hr
          generalize he : a.eval y = uu at hr
          cases hr with
          | nilslice => exact ⟨_, .int _ _, fun w => by simp [builtin, Builtin.len_, run_underlying hu, he, goInt]⟩
        · cases hv
      · cases hc
        simp only [apure] at hv; cases hv
        exact ⟨_, .int _ _, fun w => by simp [builtin, Builtin.len_, run_underlying hu, goInt]⟩
      · cases hc; simp [isPure] at hp
      · cases hc
    · cases hc
  · rename_i t y hts hargs
    rw [array_one hts, array_one hargs]
    split at hc
    · rename_i c e hcy hu
      have hr := ev_rel hT hcy
      cases hc
      simp only [apure] at hv
      split at hv
      · rename_i hj
        cases hv
        rw [hj] at hr
        generalize he : a.eval y = uu at hr
        cases hr with
        | slice g1 g0 g2 g3 g4 g5 =>
          have := g3 rfl; subst this
          exact ⟨_, .int _ _, fun w => by simp [builtin, Builtin.cap_, run_underlying hu, he, goInt]⟩
      · rename_i hj
        cases hv
        rw [hj] at hr
        generalize he : a.eval y = uu at hr
        cases hr with
        | nilslice => exact ⟨_, .int _ _, fun w => by simp [builtin, Builtin.cap_, run_underlying hu, he, goInt]⟩
      · cases hv
    · cases hc
  · rename_i t u y z hts hargs
    rw [array_two hts, array_two hargs]
    split at hc
    · rename_i c d hcy hcz
      have hr := ev_rel hT hcy
      have hr' := ev_rel hT hcz
      cases hc
      simp only [apure] at hv
      split at hv
      · rename_i k p k' q h1 h2
        cases hv
        rw [h1] at hr; rw [h2] at hr'
        have hr := vrel_int hr
        have hr' := vrel_int hr'
        refine ⟨_, .int _ _, fun w => ?_⟩
        simp [builtin, Builtin.min_, Builtin.min2, hr, hr']
      · cases hv
    · cases hc
  · rename_i t u y z hts hargs
    rw [array_two hts, array_two hargs]
    split at hc
    · rename_i c d hcy hcz
      have hr := ev_rel hT hcy
      have hr' := ev_rel hT hcz
      cases hc
      simp only [apure] at hv
      split at hv
      · rename_i k p k' q h1 h2
        cases hv
        rw [h1] at hr; rw [h2] at hr'
        have hr := vrel_int hr
        have hr' := vrel_int hr'
        refine ⟨_, .int _ _, fun w => ?_⟩
        simp [builtin, Builtin.max_, Builtin.max2, hr, hr']
      · cases hv
    · cases hc
  all_goals
    repeat' split at hc
    all_goals first
      | (cases hc; done)
      | (cases hc; simp [isPure] at hp; done)

/-- An operation that looks at no memory comes to what the executor says, in every world. -/
theorem pure_sound {o : Oper} (hT : TRel ρ T a.tmps) (hc : cOp P o.op = some x) (hp : isPure x = true) (hv : apure T x = some v) : PureOk P ρ a o v := by
  obtain ⟨dst, op, type, pos, after, guard⟩ := o
  cases op with
  | move y => exact snd_move hT hc hv
  | assign y => exact snd_assign hT hc hv
  | pick c y z => exact snd_pick hT hc hv
  | build t ps => exact snd_build hT hc hv
  | nilCheck y => exact snd_nilCheck hT hc hv
  | binOp op t y z yt => exact snd_bin hT hc hp hv
  | unOp op t y => exact snd_un hT hc hv
  | convert s d y => exact snd_convert hT hc hp hv
  | sliceToArrayPointer t y => exact snd_s2ap hT hc hv
  | makeInterface t y => exact snd_makeInterface hT hc hv
  | makeFunc f first caps => exact snd_makeFunc hT hc hv
  | slice t y lo hi mx => exact snd_slice hT hc hv
  | fieldAddr s y f => exact snd_fieldAddr hT hc hv
  | field s y f => exact snd_field hT hc hv
  | indexAddr t y z => exact snd_indexAddr hT hc hv
  | index t y z => exact snd_index hT hc hv
  | typeAssert y xt t ok => exact snd_typeAssert hT hc hv
  | extract y i => exact snd_extract hT hc hv
  | call c =>
    obtain ⟨callee, args, ts⟩ := c
    cases callee with
    | builtin b =>
      refine snd_builtin hT ?_ hp hv
      simpa only [cOp] using hc
    | value f =>
      simp only [cOp] at hc
      cases hcs : cOpds args.toList with
      | none => simp [hcs] at hc
      | some as =>
        simp only [hcs] at hc
        split at hc
        · cases hc; simp [isPure] at hp
        · rename_i h1 _
          cases h1
          split at hc
          · cases hc; simp [isPure] at hp
          · cases hc
        all_goals first | (cases hc; done) | (rename_i h1 _; cases h1; done) | (rename_i h1; cases h1; done) | contradiction
    | invoke r m =>
      simp only [cOp] at hc
      cases hcs : cOpds args.toList with
      | none => simp [hcs] at hc
      | some as =>
        simp only [hcs] at hc
        split at hc
        · cases hc; simp [isPure] at hp
        · cases hc
  | _ =>
    simp only [cOp] at hc
    repeat' split at hc
    all_goals first
      | (cases hc; done)
      | (cases hc; simp [isPure] at hp; done)

end
end Ab
