/- Operations that look at no memory, the others. -/
import Derived.Test.YtdjhhdppeicpbaaAbPure
namespace Ab
open Go

section
variable {P : Program} {ρ : Ren} {T : List AVal} {a : Act} {dst : Option Tmp} {type : TypeId} {pos : String} {after : Array Edge} {guard : Option (Nat × Bool)} {v : AVal} {x : XOp}

theorem snd_un {op : UnOp} {t : TypeId} {y : Operand} (hT : TRel ρ T a.tmps) (hc : cOp P (.unOp op t y) = some x) (hv : apure T x = some v) : PureOk P ρ a ⟨dst, .unOp op t y, type, pos, after, guard⟩ v := by
  simp only [cOp] at hc
  split at hc
  · rename_i z hz
    cases hc
    have hr := ev_rel hT hz
    simp only [apure, aun] at hv
    split at hv
    · rename_i k n hb
      rw [hb] at hr; have hr := vrel_int hr
      split at hv
      · cases hv; exact ⟨_, .int _ _, fun w => by simp [execOp, hr, Op.unary, Op.intArith]⟩
      · cases hv; exact ⟨_, .int _ _, fun w => by simp only [execOp, hr, Op.unary, Op.intBits, Sem.run_bind, Sem.run_pure, Result.andThen]⟩
      · cases hv
    · rename_i k n hb
      rw [hb] at hr; have hr := vrel_float hr
      split at hv
      · cases hv; exact ⟨_, .float _ _, fun w => by simp [execOp, hr, Op.unary]⟩
      · cases hv
    · rename_i p hb
      rw [hb] at hr; have hr := vrel_bool hr
      split at hv
      · cases hv; exact ⟨_, .bool _, fun w => by simp [execOp, hr, Op.unary]⟩
      · cases hv
    · cases hv
  · cases hc

theorem snd_convert {s d : TypeId} {y : Operand} (hT : TRel ρ T a.tmps) (hc : cOp P (.convert s d y) = some x) (hp : isPure x = true) (hv : apure T x = some v) : PureOk P ρ a ⟨dst, .convert s d y, type, pos, after, guard⟩ v := by
  simp only [cOp] at hc
  split at hc
  · rename_i b k' k hb hs hd
    cases hc
    have hr := ev_rel hT hb
    simp only [apure] at hv
    split at hv
    · rename_i j n hj
      rw [hj] at hr; have hr := vrel_int hr
      cases hv
      exact ⟨_, .int _ _, fun w => by simp only [execOp, convert, Sem.run_bind, run_underlying hs, run_underlying hd, Result.andThen, hr, Conv.intToInt, Sem.run_pure]⟩
    · cases hv
  · rename_i b k' k hb hs hd
    cases hc
    have hr := ev_rel hT hb
    simp only [apure] at hv
    split at hv
    · rename_i j n hj
      rw [hj] at hr; have hr := vrel_int hr
      cases hv
      exact ⟨_, .float _ _, fun w => by simp only [execOp, convert, Sem.run_bind, run_underlying hs, run_underlying hd, Result.andThen, hr, Conv.intToFloat, Sem.run_pure]⟩
    · cases hv
  · split at hc
    · cases hc; simp [isPure] at hp
    · cases hc
  · split at hc
    · split at hc
      · cases hc; simp [isPure] at hp
      · cases hc
    · cases hc
  · rename_i b hb hs hd
    cases hc
    have hr := ev_rel hT hb
    simp only [apure] at hv
    split at hv
    · rename_i u hj
      rw [hj] at hr; have hr := vrel_str hr
      cases hv
      exact ⟨_, .str _, fun w => by simp only [execOp, convert, Sem.run_bind, run_underlying hs, run_underlying hd, Result.andThen, hr, Sem.run_pure]⟩
    · cases hv
  · cases hc

theorem snd_s2ap {t : TypeId} {y : Operand} (hT : TRel ρ T a.tmps) (hc : cOp P (.sliceToArrayPointer t y) = some x) (hv : apure T x = some v) : PureOk P ρ a ⟨dst, .sliceToArrayPointer t y, type, pos, after, guard⟩ v := by
  simp only [cOp] at hc
  split at hc
  · rename_i b n e hb hu
    cases hc
    have hr := ev_rel hT hb
    simp only [apure] at hv
    split at hv
    · rename_i c o len cap lx hj
      rw [hj] at hr
      split at hv
      · rename_i hn
        cases hv
        generalize he : a.eval y = u at hr
        cases hr with
        | slice h1 h0 h2 h3 h4 h5 =>
          rw [h5 (by omega)] at he
          refine ⟨_, .ptr h1, fun w => ?_⟩
          simp only [execOp, Instr.arrayAt, Sem.run_bind, run_underlying hu, Result.andThen, he]
          rw [if_neg (by omega)]
          simp only [Sem.run_pure]
      · cases hv
    · cases hv
  · cases hc

theorem snd_makeInterface {t : TypeId} {y : Operand} (hT : TRel ρ T a.tmps) (hc : cOp P (.makeInterface t y) = some x) (hv : apure T x = some v) : PureOk P ρ a ⟨dst, .makeInterface t y, type, pos, after, guard⟩ v := by
  simp only [cOp] at hc
  split at hc
  · rename_i b d hb hu
    split at hc
    · cases hc
    · rename_i hnot
      cases hc
      simp only [apure] at hv
      split at hv
      · cases hv
      · cases hv
        refine ⟨_, .iface (ev_rel hT hb), fun w => ?_⟩
        simp only [execOp, Instr.makeInterface, Sem.run_bind, run_underlying hu, Result.andThen]
        cases d <;> first | rfl | (exact absurd rfl (hnot _))
  · cases hc

theorem snd_makeFunc {f : Fn} {first caps : Array Operand} (hT : TRel ρ T a.tmps) (hc : cOp P (.makeFunc f first caps) = some x) (hv : apure T x = some v) : PureOk P ρ a ⟨dst, .makeFunc f first caps, type, pos, after, guard⟩ v := by
  simp only [cOp] at hc
  split at hc
  · rename_i g cs hf1 hf2
    cases hc
    simp only [apure] at hv; cases hv
    have hfirst : first = #[] := by
      apply Array.ext'; simpa using hf1
    subst hfirst
    refine ⟨.func (.func g) #[] (caps.map a.eval), .func' ?_, fun w => ?_⟩
    · have := evs_rel hT hf2
      simpa using this
    · simp [execOp, Instr.makeFunc]
  · cases hc

theorem abound_sound {y : Operand} {b : XOpd} {n m : Nat} {code : BoundsCode} (hT : TRel ρ T a.tmps) (hb : cOpd y = some b) (h : abound T b n = some m) : m ≤ n ∧ ∀ w, (Instr.sliceBound (a.eval y) n code).run P w = .ok m w := by
  have hr := ev_rel hT hb
  unfold abound at h
  split at h
  · rename_i k i hi
    rw [hi] at hr; have hr := vrel_int hr
    split at h
    · rename_i hc
      cases h
      refine ⟨by omega, fun w => ?_⟩
      rw [hr, run_sliceBound w k i n code hc.1 hc.2]
    · cases h
  · cases h

theorem cOpt_inv {y : Option Operand} {b : Option XOpd} (h : cOpt y = some b) : (y = none ∧ b = none) ∨ ∃ z c, y = some z ∧ b = some c ∧ cOpd z = some c := by
  unfold cOpt at h
  split at h
  · cases h; exact .inl ⟨rfl, rfl⟩
  · split at h
    · rename_i z c hc; cases h; exact .inr ⟨_, _, rfl, rfl, hc⟩
    · cases h

theorem abounds_sound {lo hi mx : Option Operand} {l h m : Option XOpd} {len cap cap' : Nat} {L H M : Nat} {isS : Bool} (hT : TRel ρ T a.tmps) (h1 : cOpt lo = some l) (h2 : cOpt hi = some h) (h3 : cOpt mx = some m)
    (hlen : len ≤ cap) (hcap : cap ≤ cap') (hab : abounds T len cap l h m = some (L, H, M)) :
    ∃ M', L ≤ H ∧ H ≤ M ∧ M ≤ cap ∧ M ≤ M' ∧ (m.isSome = true → M' = M) ∧ (m = none → M = cap ∧ M' = cap') ∧
      ∀ w, (Instr.sliceBounds isS len cap' (lo.map a.eval) (hi.map a.eval) (mx.map a.eval)).run P w = .ok (L, H, M') w := by
  have up : ∀ {y : Operand} {b : XOpd} {n n' k : Nat} {code : BoundsCode}, cOpd y = some b → abound T b n = some k → n ≤ n' → ∀ w, (Instr.sliceBound (a.eval y) n' code).run P w = .ok k w := by
    intro y b n n' k code hy hb hn w
    have hr := ev_rel hT hy
    unfold abound at hb
    split at hb
    · rename_i kk i hi
      rw [hi] at hr; have hr := vrel_int hr
      split at hb
      · rename_i hc
        cases hb
        rw [hr, run_sliceBound w kk i n' code hc.1 (by omega)]
      · cases hb
    · cases hb
  have le : ∀ {b : XOpd} {n k : Nat}, abound T b n = some k → k ≤ n := by
    intro b n k hb
    unfold abound at hb
    split at hb
    · split at hb
      · cases hb; omega
      · cases hb
    · cases hb
  unfold abounds at hab
  rcases cOpt_inv h3 with ⟨rfl, rfl⟩ | ⟨mz, mc, rfl, rfl, hm⟩
  · simp only at hab
    rcases cOpt_inv h2 with ⟨rfl, rfl⟩ | ⟨hz, hc, rfl, rfl, hh⟩
    · simp only at hab
      rcases cOpt_inv h1 with ⟨rfl, rfl⟩ | ⟨lz, lc, rfl, rfl, hl⟩
      · cases hab
        exact ⟨cap', by omega, hlen, Nat.le_refl _, hcap, by simp, fun _ => ⟨rfl, rfl⟩, fun w => by simp [Instr.sliceBounds]⟩
      · simp only at hab
        split at hab
        · cases hab
        · rename_i k hk
          cases hab
          exact ⟨cap', le hk, hlen, Nat.le_refl _, hcap, by simp, fun _ => ⟨rfl, rfl⟩, fun w => by simp [Instr.sliceBounds, up hl hk (Nat.le_refl _)]⟩
    · simp only at hab
      split at hab
      · cases hab
      · rename_i j hj
        have hj1 := le hj
        rcases cOpt_inv h1 with ⟨rfl, rfl⟩ | ⟨lz, lc, rfl, rfl, hl⟩
        · cases hab
          exact ⟨cap', by omega, hj1, Nat.le_refl _, hcap, by simp, fun _ => ⟨rfl, rfl⟩, fun w => by cases isS <;> simp [Instr.sliceBounds, up hh hj hcap]⟩
        · simp only at hab
          split at hab
          · cases hab
          · rename_i k hk
            cases hab
            exact ⟨cap', le hk, hj1, Nat.le_refl _, hcap, by simp, fun _ => ⟨rfl, rfl⟩, fun w => by cases isS <;> simp [Instr.sliceBounds, up hh hj hcap, up hl hk (Nat.le_refl _)]⟩
  · simp only at hab
    rcases cOpt_inv h2 with ⟨rfl, rfl⟩ | ⟨hz, hc, rfl, rfl, hh⟩
    · cases hab
    · simp only at hab
      split at hab
      · cases hab
      · rename_i i hi
        have hi1 := le hi
        split at hab
        · cases hab
        · rename_i j hj
          have hj1 := le hj
          rcases cOpt_inv h1 with ⟨rfl, rfl⟩ | ⟨lz, lc, rfl, rfl, hl⟩
          · cases hab
            exact ⟨_, by omega, hj1, hi1, Nat.le_refl _, fun _ => rfl, by simp, fun w => by cases isS <;> simp [Instr.sliceBounds, up hm hi hcap, up hh hj (Nat.le_refl _)]⟩
          · simp only at hab
            split at hab
            · cases hab
            · rename_i k hk
              cases hab
              exact ⟨_, le hk, hj1, hi1, Nat.le_refl _, fun _ => rfl, by simp, fun w => by cases isS <;> simp [Instr.sliceBounds, up hm hi hcap, up hh hj (Nat.le_refl _), up hl hk (Nat.le_refl _)]⟩


theorem snd_slice {t : TypeId} {y : Operand} {lo hi mx : Option Operand} (hT : TRel ρ T a.tmps) (hc : cOp P (.slice t y lo hi mx) = some x) (hv : apure T x = some v) : PureOk P ρ a ⟨dst, .slice t y lo hi mx, type, pos, after, guard⟩ v := by
  simp only [cOp] at hc
  split at hc
  · rename_i d b l h m hu hb h1 h2 h3
    have hr := ev_rel hT hb
    split at hc
    · rename_i e
      split at hc
      · rename_i i hi'
        cases hc
        simp only [apure] at hv
        split at hv
        · rename_i c o len cap lx hj
          rw [hj] at hr
          generalize he : a.eval y = u at hr
          cases hr with
          | @slice _ _ o' _ _ _ cap' en g1 g0 g2 g3 g4 g5 =>
            split at hv
            · rename_i L H M hab
              split at hv
              · rename_i hlx
                cases hv
                obtain ⟨M', q1, q2, q3, q4, q5, q6, q7⟩ := abounds_sound (P := P) (isS := true) hT h1 h2 h3 g0 g2 hab
                simp only [Bool.or_eq_true, decide_eq_true_eq] at hlx
                have hM' : M' ≤ cap' := by
                  cases m with
                  | none => have := (q6 rfl).2; omega
                  | some z => have := q5 rfl; omega
                refine ⟨.slice (some ⟨en.cb, if M' = L then o' else o' + L * i.size, none⟩) (H - L) (M' - L), ?_, fun w => ?_⟩
                · refine .slice g1 (by omega) (by omega) ?_ ?_ ?_
                  · intro hz
                    cases m with
                    | none =>
                      simp only [Option.isSome_none, Bool.false_eq_true, if_false] at hz
                      have := (q6 rfl); have := g3 hz; omega
                    | some z => have := q5 rfl; omega
                  · intro hz
                    cases m with
                    | none =>
                      simp only [Option.isSome_none, Bool.false_eq_true, if_false] at hz ⊢
                      have hle : lx = i.size := by rcases hlx with h | h; exact absurd h hz; exact h
                      have h4 := g4 hz
                      have h6 := (q6 rfl).2
                      subst hle
                      subst h6
                      rw [← Nat.add_assoc, Nat.add_assoc, ← Nat.add_mul, show L + (M' - L) = M' by omega]
                      omega
                    | some z => simp at hz
                  · intro hz
                    rw [if_neg (by omega), g5 (by omega)]
                    omega
                · have hs := q7 w
                  simp only [execOp, Instr.sliceAt, Instr.slice, Sem.run_bind, run_underlying hu, Result.andThen, he, hs, rsizeOf hi', Sem.run_pure]
                  by_cases hm : M' = L
                  · simp [hm]
                  · simp only [hm, if_false, Option.map_some, addr_add]
              · cases hv
            · cases hv
        · rename_i hj
          rw [hj] at hr
          generalize he : a.eval y = u at hr
          cases hr with
          | nilslice =>
            split at hv
            · rename_i tr hab
              obtain ⟨L, H, M⟩ := tr
              cases hv
              obtain ⟨M', q1, q2, q3, q4, q5, q6, q7⟩ := abounds_sound (P := P) (isS := true) hT h1 h2 h3 (Nat.le_refl 0) (Nat.le_refl 0) hab
              have hM' : M' = 0 := by
                cases m with
                | none => exact (q6 rfl).2
                | some z => have := q5 rfl; omega
              have hL : L = 0 := by omega
              have hH : H = 0 := by omega
              subst hM' hL hH
              refine ⟨_, .nilslice, fun w => ?_⟩
              have hs := q7 w
              simp only [execOp, Instr.sliceAt, Instr.slice, Sem.run_bind, run_underlying hu, Result.andThen, he, hs, rsizeOf hi', Sem.run_pure]
              rfl
            · cases hv
        · cases hv
      · cases hc
    · split at hc
      · rename_i hm
        cases hc
        simp only [apure] at hv
        split at hv
        · rename_i u hj
          rw [hj] at hr; have hr := vrel_str hr
          split at hv
          · rename_i L H M hab
            cases hv
            rcases cOpt_inv h3 with ⟨rfl, _⟩ | ⟨_, _, _, h, _⟩
            · obtain ⟨M', q1, q2, q3, q4, q5, q6, q7⟩ := abounds_sound (P := P) (isS := false) hT h1 h2 (show cOpt (none : Option Operand) = some none from rfl) (Nat.le_refl u.size) (Nat.le_refl u.size) hab
              refine ⟨_, .str _, fun w => ?_⟩
              have hs := q7 w
              simp only [Option.map_none] at hs
              simp only [execOp, Instr.sliceAt, Instr.slice, Sem.run_bind, run_underlying hu, Result.andThen, hr, Option.map_none, hs, Option.isSome_none, Bool.false_eq_true, if_false, Sem.run_pure]
            · cases h
          · cases hv
        · cases hv
      · cases hc
    · rename_i n e
      split at hc
      · rename_i i hi'
        cases hc
        simp only [apure] at hv
        split at hv
        · rename_i c o hj
          rw [hj] at hr
          generalize he : a.eval y = u at hr
          cases hr with
          | @ptr _ _ en g1 =>
            split at hv
            · rename_i L H M hab
              cases hv
              obtain ⟨M', q1, q2, q3, q4, q5, q6, q7⟩ := abounds_sound (P := P) (isS := false) hT h1 h2 h3 (Nat.le_refl n) (Nat.le_refl n) hab
              have hM' : M' = M := by
                cases m with
                | none => have := (q6 rfl); omega
                | some z => exact q5 rfl
              subst hM'
              refine ⟨.slice (some ⟨en.cb, if M' = L then en.sh + o else en.sh + o + L * i.size, none⟩) (H - L) (M' - L), .slice g1 (by omega) (Nat.le_refl _) (fun _ => rfl) (by simp) (fun hz => by rw [if_neg (by omega)]; omega), fun w => ?_⟩
              have hs := q7 w
              simp only [execOp, Instr.sliceAt, Instr.sureAddr, Sem.run_bind, run_underlying hu, Result.andThen, he, hs, rsizeOf hi', Sem.run_pure]
              by_cases hm : M' = L
              · simp [hm]
              · simp only [hm, if_false, addr_add]
            · cases hv
        · cases hv
      · cases hc
    · cases hc
  · cases hc

end
end Ab
