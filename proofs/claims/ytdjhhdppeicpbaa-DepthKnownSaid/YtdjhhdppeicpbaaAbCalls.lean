/- Calls: results, deferred calls, and the executor's soundness. -/
import Derived.Test.YtdjhhdppeicpbaaAbCode
namespace Ab
open Go

theorem ResOk.trans {ρ ρ1 : Ren} {A A1 : AH} {w w1 w' : World} {r : Res} {e : Ending} (h : Step ρ A w ρ1 A1 w1) (k : ResOk ρ1 A1 w1 r e w') : ResOk ρ A w r e w' := by
  cases r with
  | stuck => exact k
  | ret v A' => obtain ⟨ρ', v', h1, h2, h3⟩ := k; exact ⟨ρ', v', h1, h2, h.trans h3⟩
  | pan v A' => obtain ⟨ρ', v', h1, h2, h3⟩ := k; exact ⟨ρ', v', h1, h2, h.trans h3⟩

theorem run_mapM_list {α β : Type} {P : Program} {w : World} (f : α → Sem β) : ∀ (xs : List α) (vs : List β), vs.length = xs.length → (∀ (j : Nat) (x : α) (v : β), xs[j]? = some x → vs[j]? = some v → (f x).run P w = .ok v w) → (xs.mapM f).run P w = .ok vs w
  | [], vs, hl, _ => by
    have : vs = [] := by simpa using hl
    subst this
    simp only [List.mapM_nil, Sem.run_pure]
  | x :: xs, [], hl, _ => by simp at hl
  | x :: xs, v :: vs, hl, h => by
    have ih := run_mapM_list f xs vs (by simpa using hl) fun j x v hx hv => h (j + 1) x v (by simpa using hx) (by simpa using hv)
    simp only [List.mapM_cons, Sem.run_bind, h 0 x v rfl rfl, Result.andThen, ih, Sem.run_pure]

/-- One result. -/
def resOf (tmps : Array Value) : ResultVar → Sem Value
  | .tmp t => pure (tmps.getD t undef)
  | .cell a t => do loadVar t (← asAddr (tmps.getD a undef))

theorem results_eq (fn : Func) (tmps : Array Value) : results fn tmps = (fn.results.mapM (resOf tmps) >>= fun vs => pure (if h : vs.size = 1 then vs[0] else .tuple vs)) := by
  unfold results
  congr 1

theorem run_results {P : Program} {w : World} {fn : Func} {tmps : Array Value} {us : List Value} (hl : us.length = fn.results.toList.length) (h : ∀ (j : Nat) (r : ResultVar) (u : Value), fn.results.toList[j]? = some r → us[j]? = some u → (resOf tmps r).run P w = .ok u w) :
    (results fn tmps).run P w = .ok (if h : us.toArray.size = 1 then us.toArray[0] else .tuple us.toArray) w := by
  rw [results_eq, Array.mapM_eq_mapM_toList]
  simp only [map_eq_pure_bind, Sem.run_bind, run_mapM_list _ _ _ hl h, Result.andThen, Sem.run_pure]

section
variable {P : Program} {ρ : Ren} {A : AH} {w : World} {T : List AVal}

theorem aresAll_sound {tmps : Array Value} (hR : Rel ρ A w) (hT : TRel ρ T tmps) : ∀ {rs : List ResultVar} {xs : List XRes} {vs : List AVal}, cRes P rs = some xs → aresAll T A xs = some vs →
    ∃ us : List Value, VRels ρ vs us ∧ us.length = rs.length ∧ ∀ (j : Nat) (r : ResultVar) (u : Value), rs[j]? = some r → us[j]? = some u →
      (resOf tmps r).run P w = .ok u w
  | [], xs, vs, hc, hv => by
    simp [cRes] at hc; subst hc
    simp [aresAll] at hv; subst hv
    exact ⟨[], .nil, rfl, by simp⟩
  | r :: rs, xs, vs, hc, hv => by
    simp only [cRes] at hc
    split at hc
    · rename_i x xs' hx hxs
      cases hc
      simp only [aresAll] at hv
      split at hv
      · cases hv
      · rename_i v hv1
        split at hv
        · cases hv
        · rename_i vs' hv2
          cases hv
          obtain ⟨us, h1, h2, h3⟩ := aresAll_sound hR hT hxs hv2
          have key : ∃ u, VRel ρ v u ∧ (resOf tmps r).run P w = .ok u w := by
            cases r with
            | tmp t =>
              cases hx
              simp only [ares1] at hv1
              cases hv1
              exact ⟨_, hT.get t, rfl⟩
            | cell a t =>
              simp only at hx
              split at hx
              · rename_i n hsh
                obtain ⟨d, i, hd, hi, hag, hsz⟩ := tyShape_inv hsh
                cases hx
                simp only [ares1] at hv1
                split at hv1
                · rename_i b o hj
                  have hr := hT.get a
                  rw [hj] at hr
                  split at hv1
                  · rename_i cs hcs
                    cases hv1
                    generalize he : tmps.getD a undef = u at hr
                    cases hr with
                    | ptr g1 =>
                      obtain ⟨vs, q1, q2, q3⟩ := hR.rd g1 hcs
                      exact ⟨.agg vs.toArray, .agg' (by simpa using q3), by simp only [resOf, he, asAddr, Sem.run_bind, Sem.run_pure, Result.andThen, run_loadVarN hd hag.symm hi (q1.trans hsz) q2]⟩
                  · cases hv1
                · cases hv1
              · rename_i n hsh
                obtain ⟨d, i, hd, hi, hag, hsz⟩ := tyShape_inv hsh
                cases hx
                simp only [ares1] at hv1
                split at hv1
                · rename_i b o hj
                  have hr := hT.get a
                  rw [hj] at hr
                  generalize he : tmps.getD a undef = u at hr
                  cases hr with
                  | ptr g1 =>
                    obtain ⟨vs, q1, q2⟩ := hR.rd1 g1 hv1
                    exact ⟨vs, q2, by simp only [resOf, he, asAddr, Sem.run_bind, Sem.run_pure, Result.andThen, run_loadVar1 hd hag.symm q1]⟩
                · cases hv1
              · cases hx
          obtain ⟨u, k1, k2⟩ := key
          refine ⟨u :: us, .cons k1 h1, by simp [h2], fun j r' u' hr hu => ?_⟩
          cases j with
          | zero => simp at hr hu; subst hr hu; exact k2
          | succ j => exact h3 j r' u' (by simpa using hr) (by simpa using hu)
    · cases hc

theorem ares_sound {tmps : Array Value} {fn : Func} {xf : XFunc} {v : AVal} (hR : Rel ρ A w) (hT : TRel ρ T tmps) (hc : cRes P fn.results.toList = some xf.results) (hv : ares xf T A = some v) :
    ∃ u, VRel ρ v u ∧ (results fn tmps).run P w = .ok u w := by
  unfold ares at hv
  have run : ∀ vs, aresAll T A xf.results = some vs → ∃ us : List Value, VRels ρ vs us ∧ (results fn tmps).run P w = .ok (if h : us.toArray.size = 1 then us.toArray[0] else .tuple us.toArray) w := by
    intro vs hvs
    obtain ⟨us, h1, h2, h3⟩ := aresAll_sound hR hT hc hvs
    exact ⟨us, h1, run_results h2 h3⟩
  split at hv
  · rename_i v1 hvs
    cases hv
    obtain ⟨us, h1, h2⟩ := run _ hvs
    have hl : us.length = 1 := by simpa using h1.1.symm
    obtain ⟨u, rfl⟩ : ∃ u, us = [u] := List.length_eq_one_iff.1 hl
    exact ⟨u, (VRels.uncons h1).1, by simpa using h2⟩
  · rename_i vs hnot hvs
    cases hv
    obtain ⟨us, h1, h2⟩ := run _ hvs
    have hl : us.toArray.size ≠ 1 := by
      intro h
      have h' : vs.length = 1 := by rw [h1.1]; simpa using h
      obtain ⟨x, rfl⟩ := List.length_eq_one_iff.1 h'
      exact hnot x rfl
    rw [dif_neg hl] at h2
    exact ⟨_, .tuple' (by simpa using h1), h2⟩
  · cases hv

/-- The frame below: it returns, or panics. -/
def MRel (ρ : Ren) : Option AVal → FrameMode → Prop
  | none, u => u = .returning
  | some v, u => ∃ v', u = .panicking [{ v := v', recovered := false }] ∧ VRel ρ v v'

def SRel (ρ : Ren) (m : Option AVal) : Bool → FrameMode → Prop
  | false, u => MRel ρ m u
  | true, u => ∃ v', u = .panicking [{ v := v', recovered := true }]

theorem MRel.mono {ρ ρ' : Ren} (h : ∀ b e, ρ b = some e → ρ' b = some e) {m : Option AVal} {u : FrameMode} (hm : MRel ρ m u) : MRel ρ' m u := by
  cases m with
  | none => exact hm
  | some v => obtain ⟨v', h1, h2⟩ := hm; exact ⟨v', h1, h2.mono h⟩

theorem SRel.mono {ρ ρ' : Ren} (h : ∀ b e, ρ b = some e → ρ' b = some e) {m : Option AVal} {r : Bool} {u : FrameMode} (hm : SRel ρ m r u) : SRel ρ' m r u := by
  cases r with
  | false => exact MRel.mono h hm
  | true => exact hm

def OutSOk (c₀ : Frame) (cs : List Frame) (ρ : Ren) (A : AH) (w : World) (m : Option AVal) (o : OutS) (e : Exit) (a : Act) (cs' : List Frame) (w' : World) : Prop :=
  match o with
  | .stuck => False
  | .norm T r A' => e = .normal ∧ ∃ ρ' u, cs' = { c₀ with mode := u } :: cs ∧ SRel ρ' m r u ∧ Step ρ A w ρ' A' w' ∧ ARel ρ' T [] a
  | .ret T r A' => e = .ret ∧ ∃ ρ' u, cs' = { c₀ with mode := u } :: cs ∧ SRel ρ' m r u ∧ Step ρ A w ρ' A' w' ∧ ARel ρ' T [] a

theorem OutSOk.trans {c₀ : Frame} {cs cs' : List Frame} {m : Option AVal} {ρ ρ1 : Ren} {A A1 : AH} {w w1 w' : World} {o : OutS} {e : Exit} {a : Act} (h : Step ρ A w ρ1 A1 w1) (k : OutSOk c₀ cs ρ1 A1 w1 m o e a cs' w') : OutSOk c₀ cs ρ A w m o e a cs' w' := by
  cases o with
  | stuck => exact k
  | norm T r A' => obtain ⟨h1, ρ', u, h2, h3, h4, h5⟩ := k; exact ⟨h1, ρ', u, h2, h3, h.trans h4, h5⟩
  | ret T r A' => obtain ⟨h1, ρ', u, h2, h3, h4, h5⟩ := k; exact ⟨h1, ρ', u, h2, h3, h.trans h4, h5⟩

theorem cOp_recover {op : Op} (h : cOp P op = some .recover) : ∃ ts, op = .call ⟨.builtin .recover, #[], ts⟩ := by
  cases op with
  | call c =>
    obtain ⟨callee, cargs, ts⟩ := c
    cases callee with
    | builtin b =>
      replace h : cBuiltin P b ts cargs.toList = some .recover := by simpa only [cOp] using h
      unfold cBuiltin at h
      split at h
      all_goals first
        | (cases h; done)
        | skip
      case h_9 =>
        rename_i hy
        exact ⟨ts, by rw [array_none hy]⟩
      all_goals
        repeat' split at h
        all_goals (cases h; done)
    | value y =>
      simp only [cOp] at h
      repeat' split at h
      all_goals first
        | (cases h; done)
        | (rename_i h1 _; cases h1; done)
        | (rename_i h1; cases h1; done)
    | invoke r m =>
      simp only [cOp] at h
      repeat' split at h
      all_goals first
        | (cases h; done)
        | (rename_i h1 _; cases h1; done)
        | (rename_i h1; cases h1; done)
  | _ =>
    simp only [cOp] at h
    repeat' split at h
    all_goals first
      | (cases h; done)
      | skip
    all_goals
      simp only [cBin] at h
      repeat' split at h
      all_goals (cases h; done)

theorem xopsS_sound (ops : Array Oper) (c₀ : Frame) (cs : List Frame) (m : Option AVal) (ρ : Ren) (A : AH) (w : World) (hR : Rel ρ A w) :
    ∀ (os : List Oper) (xs : List XOper) (k : Nat), (∀ j, ops[k + j]? = os[j]?) → cOpers P ops os = some xs → ∀ (T : List AVal) (r : Bool) (T' : List AVal) (r' : Bool) (a : Act) (u : FrameMode), SRel ρ m r u → ARel ρ T [] a →
      xopsS xs T m r = some (T', r') → wpOpsS P ops (OutSOk c₀ cs ρ A w m (.norm T' r' A)) (List.range' k os.length) a ({ c₀ with mode := u } :: cs) w := by
  intro os
  induction os with
  | nil =>
    intro xs k hk hc T r T' r' a u hS hA hx
    simp [cOpers] at hc; subst hc
    simp [xopsS] at hx
    obtain ⟨rfl, rfl⟩ := hx
    exact ⟨rfl, ρ, u, rfl, hS, Step.refl hR, hA⟩
  | cons o os ih =>
    intro xs k hk hc T r T' r' a u hS hA hx
    obtain ⟨op, g, xs', rfl, hop, hg, hcs⟩ := cOpers_cons hc
    have hk0 : ops[k]? = some o := by simpa using hk 0
    have hk' : ∀ j, ops[k + 1 + j]? = os[j]? := fun j => by
      have := hk (j + 1)
      rw [show k + (j + 1) = k + 1 + j by omega] at this
      simpa using this
    cases g with
    | some gg => simp [xopsS] at hx
    | none =>
      simp only [List.length_cons, List.range'_succ, wpOpsS, hk0]
      rw [wants_sound (b := true) hA.t hg rfl]
      simp only [if_true]
      unfold xopsS at hx
      split at hx
      · obtain ⟨ts, ho⟩ := cOp_recover hop
        have hrun : (execOp a.eval o).run P w = .ok .recover w := by simp [execOp, ho, resolve, invoke, builtin]
        rw [hrun]
        simp only
        split at hx
        · rename_i v _
          obtain ⟨v', hu, hv⟩ := hS
          have hrec : recoverD ({ c₀ with mode := u } :: cs) = some (v', { c₀ with mode := .panicking [{ v := v', recovered := true }] } :: cs) := by rw [hu]; rfl
          rw [hrec]
          exact ih xs' (k + 1) hk' hcs _ true _ _ _ (.panicking [{ v := v', recovered := true }]) ⟨v', rfl⟩ (hA.put o.dst hv) hx
        · rename_i hnot
          have hrec : recoverD ({ c₀ with mode := u } :: cs) = none := by
            cases r with
            | true => obtain ⟨v', hu⟩ := hS; rw [hu]; rfl
            | false =>
              cases m with
              | none => rw [show u = .returning from hS]; rfl
              | some v => exact absurd rfl (hnot v rfl)
          rw [hrec]
          exact ih xs' (k + 1) hk' hcs _ r _ _ _ u hS (hA.put o.dst .nilIface) hx
      · split at hx
        · rename_i hpure
          split at hx
          · rename_i v hv
            obtain ⟨v', h1, h2⟩ := pure_sound hA.t hop hpure hv
            rw [h2 w]
            exact ih xs' (k + 1) hk' hcs _ r _ _ _ u hS (hA.put o.dst h1) hx
          · cases hx
        · cases hx

variable {call : FuncId → List AVal → AH → Res}

theorem DRel.nil_eq {ρ : Ren} {ds : List Deferred} (h : DRel ρ [] ds) : ds = [] := by
  cases ds with
  | nil => rfl
  | cons d ds => exact h.elim

theorem wpS_of_xcode (hcall : CallOk P call) (hdraw : DrawOk P call) (lp : Nat) (c₀ : Frame) (cs : List Frame) {c : Code} {x : XCode} (hc : cCode P c = some x) {T : List AVal} {m : Option AVal} {r : Bool} {A : AH} {ρ : Ren} {a : Act} {w : World} {u : FrameMode}
    (hR : Rel ρ A w) (hS : SRel ρ m r u) (hA : ARel ρ T [] a) {o : OutS}
    (hx : (∃ T' A', xcode call lp x T [] A = .norm T' [] A' ∧ o = .norm T' r A') ∨ (∃ T' A', xcode call lp x T [] A = .ret T' [] A' ∧ o = .ret T' r A')) :
    c.wpS P (OutSOk c₀ cs ρ A w m o) a ({ c₀ with mode := u } :: cs) w := by
  have h := xcode_sound hcall hdraw lp c x hc T [] A ρ a w hR hA
  rcases hx with ⟨T', A', h1, rfl⟩ | ⟨T', A', h1, rfl⟩
  · rw [h1] at h
    refine wpS_of_wp (wp_mono (h (by simp)) fun e a' w' k => ?_)
    obtain ⟨rfl, ρ', k1, k2⟩ := k
    exact ⟨rfl, ρ', u, rfl, hS.mono (k1.ext hR), k1, k2⟩
  · rw [h1] at h
    refine wpS_of_wp (wp_mono (h (by simp)) fun e a' w' k => ?_)
    obtain ⟨rfl, ρ', k1, k2⟩ := k
    exact ⟨rfl, ρ', u, rfl, hS.mono (k1.ext hR), k1, k2⟩

theorem Code.wpS_mono {c : Code} {Q Q' : Exit → Act → List Frame → World → Prop} {a : Act} {cs : List Frame} {w : World} (h : c.wpS P Q a cs w) (hq : ∀ e a cs w, Q e a cs w → Q' e a cs w) : c.wpS P Q' a cs w :=
  fun b k h1 h2 => let ⟨e, a', cs', w', q, r⟩ := h b k h1 h2; ⟨e, a', cs', w', hq _ _ _ _ q, r⟩

theorem xcodeS_sound (hcall : CallOk P call) (hdraw : DrawOk P call) (lp : Nat) (c₀ : Frame) (cs : List Frame) (m : Option AVal) :
    ∀ (c : Code) (x : XCode), cCode P c = some x → ∀ (T : List AVal) (r : Bool) (A : AH) (ρ : Ren) (a : Act) (w : World) (u : FrameMode), Rel ρ A w → SRel ρ m r u → ARel ρ T [] a →
      xcodeS call lp x T m r A ≠ .stuck → c.wpS P (OutSOk c₀ cs ρ A w m (xcodeS call lp x T m r A)) a ({ c₀ with mode := u } :: cs) w := by
  intro c
  have plain : ∀ (c : Code) (x : XCode), cCode P c = some x → ∀ (T : List AVal) (r : Bool) (A : AH) (ρ : Ren) (a : Act) (w : World) (u : FrameMode), Rel ρ A w → SRel ρ m r u → ARel ρ T [] a →
      xcodeS call lp x T m r A = (match xcode call lp x T [] A with
        | .norm T [] A => .norm T r A
        | .ret T [] A => .ret T r A
        | _ => .stuck) → xcodeS call lp x T m r A ≠ .stuck → c.wpS P (OutSOk c₀ cs ρ A w m (xcodeS call lp x T m r A)) a ({ c₀ with mode := u } :: cs) w := by
    intro c x hc T r A ρ a w u hR hS hA heq hne
    rw [heq] at hne ⊢
    refine wpS_of_xcode hcall hdraw lp c₀ cs hc hR hS hA ?_
    split at hne
    · rename_i T' A' h1; rw [h1]; exact .inl ⟨T', A', rfl, rfl⟩
    · rename_i T' A' h1; rw [h1]; exact .inr ⟨T', A', rfl, rfl⟩
    · exact absurd rfl hne
  induction c with
  | seq c1 c2 ih1 ih2 =>
    intro x hc T r A ρ a w u hR hS hA hne
    simp only [cCode] at hc
    split at hc
    · rename_i x1 x2 h1 h2
      cases hc
      refine wpS_seq ?_
      simp only [xcodeS] at hne ⊢
      have hb1 := ih1 x1 h1 T r A ρ a w u hR hS hA
      generalize hout : xcodeS call lp x1 T m r A = out at hne hb1
      cases out with
      | stuck => exact absurd rfl hne
      | norm T1 r1 A1 =>
        refine Code.wpS_mono (hb1 (by simp)) fun e a' cs' w' h => ?_
        obtain ⟨rfl, ρ', u', rfl, k1, k2, k3⟩ := h
        exact Code.wpS_mono (ih2 x2 h2 T1 r1 A1 ρ' a' w' u' k2.rel k1 k3 hne) fun e a2 cs2 w2 h => OutSOk.trans k2 h
      | ret T1 r1 A1 => exact Code.wpS_mono (hb1 (by simp)) fun e a' cs' w' h => by obtain ⟨rfl, h2⟩ := h; exact ⟨rfl, h2⟩
    · cases hc
  | region id ops draw =>
    intro x hc T r A ρ a w u hR hS hA hne
    have hc' := hc
    cases draw with
    | false =>
      simp only [cCode] at hc
      split at hc
      · rename_i xs hxs
        cases hc
        by_cases hrec : hasRecover (.region xs) = true
        · simp only [xcodeS, hrec, if_true] at hne ⊢
          split at hne
          · rename_i T' r' hx
            refine wpS_region ?_
            have := xopsS_sound (P := P) ops c₀ cs m ρ A w hR ops.toList xs 0 (by simp) hxs T r T' r' a u hS hA hx
            simpa only [Array.length_toList, List.range_eq_range'] using this
          · exact absurd rfl hne
        · exact plain _ _ hc' T r A ρ a w u hR hS hA (by simp only [xcodeS, hrec, Bool.false_eq_true, if_false]; rcases xcode call lp (.region xs) T [] A with _ | ⟨_, _ | _, _⟩ | _ | ⟨_, _ | _, _⟩ | _ <;> rfl) hne
      · cases hc
    | true =>
      simp only [cCode, cDraw] at hc
      split at hc
      · cases hc
      · split at hc
        · cases hc
          exact plain _ _ hc' T r A ρ a w u hR hS hA rfl hne
        · cases hc
  | cond c c1 c2 ih1 ih2 =>
    intro x hc T r A ρ a w u hR hS hA hne
    have hc' := hc
    simp only [cCode] at hc
    split at hc
    · cases hc; exact plain _ _ hc' T r A ρ a w u hR hS hA rfl hne
    · cases hc
  | block id c ih =>
    intro x hc T r A ρ a w u hR hS hA hne
    have hc' := hc
    simp only [cCode] at hc
    split at hc
    · cases hc; exact plain _ _ hc' T r A ρ a w u hR hS hA rfl hne
    · cases hc
  | loop c ih =>
    intro x hc T r A ρ a w u hR hS hA hne
    have hc' := hc
    simp only [cCode] at hc
    split at hc
    · cases hc; exact plain _ _ hc' T r A ρ a w u hR hS hA rfl hne
    · cases hc
  | skip =>
    intro x hc T r A ρ a w u hR hS hA hne
    have hc' := hc
    simp [cCode] at hc; subst hc
    exact plain _ _ hc' T r A ρ a w u hR hS hA rfl hne
  | exit id =>
    intro x hc T r A ρ a w u hR hS hA hne
    have hc' := hc
    simp [cCode] at hc; subst hc
    exact plain _ _ hc' T r A ρ a w u hR hS hA rfl hne
  | ret =>
    intro x hc T r A ρ a w u hR hS hA hne
    have hc' := hc
    simp [cCode] at hc; subst hc
    exact plain _ _ hc' T r A ρ a w u hR hS hA rfl hne
  | _ =>
    intro x hc
    simp [cCode] at hc

/-- A function of the executor's, and the program's. -/
theorem cFunc_inv {f : FuncId} {xf : XFunc} (h : cFunc P f = some xf) : ∃ fn c, P.funcs[f]? = some fn ∧ fn.body = some c ∧ (fn.name == "runtime.NumGoroutine") = false ∧ xf.ntmps = fn.ntmps ∧ cCode P c = some xf.body ∧ cRes P fn.results.toList = some xf.results := by
  unfold cFunc at h
  split at h
  · cases h
  · rename_i fn hf
    split at h
    · cases h
    · rename_i c hb
      split at h
      · cases h
      · rename_i hn
        split at h
        · rename_i x rs hx hrs
          cases h
          exact ⟨fn, c, hf, hb, by simpa using hn, rfl, hx, hrs⟩
        · cases h

theorem run_callFunc_body {f : FuncId} {fn : Func} {c : Code} (hf : P.funcs[f]? = some fn) (hb : fn.body = some c) (hn : (fn.name == "runtime.NumGoroutine") = false) (args : Array Value) (w : World) :
    (callFunc f args).run P w = .ok (.enter f args) w := by
  simp only [callFunc, Sem.run_bind, run_program, Result.andThen, hf, hn, hb, Option.isNone_some, Bool.false_eq_true, if_false, Sem.run_pure]

theorem slots_rel {xf : XFunc} {args : List AVal} {args' : Array Value} {n : Nat} (hn : xf.ntmps = n) (h : VRels ρ args args'.toList) : ARel ρ (slots xf args) [] { tmps := args' ++ Array.replicate (n - args'.size) undef, defers := [] } := by
  refine ⟨?_, trivial⟩
  show VRels ρ _ _
  have hl : args.length = args'.size := by simpa using h.1
  simp only [slots, Array.toList_append, Array.toList_replicate, hn, hl]
  exact h.append (.replicate _ (.tuple' .nil))

structure EnvOk (P : Program) (E : XEnv) : Prop where
  fn : ∀ f xf, E.fn f = some xf → cFunc P f = some xf
  prim : ∀ f g, E.prim f = some g → ∀ args A v A', g args A = some (v, A') → ∀ (ρ : Ren) (w : World) (args' : Array Value), Rel ρ A w → VRels ρ args args'.toList → Does P f args' w (ResOk ρ A w (.ret v A'))

theorem leave_sound {E : XEnv} (hE : EnvOk P E) (hcall : CallOk P call) (hdraw : DrawOk P call) (lp : Nat) {fn : Func} {xf : XFunc} (hc : cRes P fn.results.toList = some xf.results) (T : List AVal) (tmps : Array Value) (ρ0 : Ren) (A0 : AH) (w0 : World) :
    ∀ (D : List ADef) (m : Option AVal) (A : AH) (ρ : Ren) (w : World) (u : FrameMode) (ds : List Deferred), Step ρ0 A0 w0 ρ A w → TRel ρ T tmps → DRel ρ D ds → MRel ρ m u → leave E call lp xf T D m A ≠ .stuck →
      Leaves P fn tmps (ResOk ρ0 A0 w0 (leave E call lp xf T D m A)) ds u w := by
  intro D
  induction D with
  | nil =>
    intro m A ρ w u ds hS hT hD hm hne
    cases hD.nil_eq
    cases m with
    | none =>
      cases hm
      simp only [leave] at hne ⊢
      split at hne
      · rename_i v hv
        obtain ⟨u, h1, h2⟩ := ares_sound hS.rel hT hc hv
        exact ⟨u, h2, ρ, u, rfl, h1, hS⟩
      · exact absurd rfl hne
    | some v =>
      obtain ⟨v', rfl, hv⟩ := hm
      simp only [leave]
      exact ⟨ρ, v', rfl, hv, hS⟩
  | cons d D ih =>
    intro m A ρ w u ds hS hT hD hm hne
    cases ds with
    | nil => exact hD.elim
    | cons d' ds =>
      obtain ⟨⟨args, caps, rfl, hargs, hcaps⟩, hD⟩ := hD
      have hR := hS.rel
      simp only [leave] at hne ⊢
      generalize hdc : dcall E call lp d m A = dc at hne
      cases dc with
      | none => exact absurd rfl hne
      | some mA =>
        obtain ⟨m', A'⟩ := mA
        simp only at hne ⊢
        unfold dcall at hdc
        split at hdc
        · cases hdc
        · rename_i xg hxg
          obtain ⟨gn, gc, hgf, hgb, hgn, hgt, hgc, hgr⟩ := cFunc_inv (hE.fn _ _ hxg)
          split at hdc
          · rename_i hemp
            have hres : gn.results = #[] := by
              have : xg.results = [] := by simpa using hemp
              rw [this] at hgr
              cases hr : gn.results.toList with
              | nil => exact array_none hr
              | cons r rs =>
                rw [hr] at hgr
                simp only [cRes] at hgr
                split at hgr <;> cases hgr
            have hu : u ≠ .run := by
              cases m with
              | none => rw [show u = .returning from hm]; simp
              | some v => obtain ⟨v', rfl, _⟩ := hm; simp
            refine leaves_cons (f := d.f) (args := args ++ caps) hu (by simp only [invoke]; exact run_callFunc_body hgf hgb hgn _ _) ?_
            refine callsD_of_wpS hgf hgb fun c₀ cs hc0 => ?_
            have hce : ({ c₀ with mode := u } : Frame) = c₀ := by subst hc0; rfl
            have hA0 : ARel ρ (slots xg (d.args ++ d.caps)) [] { tmps := (args ++ caps) ++ Array.replicate (gn.ntmps - (args ++ caps).size) undef, defers := [] } := slots_rel hgt (by simpa using hargs.append hcaps)
            have hb := xcodeS_sound hcall hdraw lp c₀ cs m gc xg.body hgc _ false A ρ _ w u hR hm hA0
            have fin : ∀ (T' : List AVal) (r : Bool) (o : OutS), xcodeS call lp xg.body (slots xg (d.args ++ d.caps)) m false A = o → (o = .norm T' r A' ∨ o = .ret T' r A') → m' = (if r then none else m) →
                gc.wpS P (bodyPostS P gn c₀ cs fun
                  | .returned _, u', w' => Leaves P fn tmps (ResOk ρ0 A0 w0 (leave E call lp xf T D m' A')) ds (settle u') w'
                  | .panicked chain, u', w' => Leaves P fn tmps (ResOk ρ0 A0 w0 (leave E call lp xf T D m' A')) ds (raised u' chain) w'
                  | .outgrown, _, w' => ResOk ρ0 A0 w0 (leave E call lp xf T D m' A') .outgrown w')
                  { tmps := (args ++ caps) ++ Array.replicate (gn.ntmps - (args ++ caps).size) undef, defers := [] } (c₀ :: cs) w := by
              intro T' r o ho hor hm'
              have step : ∀ (ρ' : Ren) (u' : FrameMode) (w' : World), SRel ρ' m r u' → Step ρ A w ρ' A' w' → Leaves P fn tmps (ResOk ρ0 A0 w0 (leave E call lp xf T D m' A')) ds (settle u') w' := by
                intro ρ' u' w' hs hst
                refine ih m' A' ρ' w' (settle u') ds (hS.trans hst) (hT.mono (hst.ext hR)) (hD.mono (hst.ext hR)) ?_ hne
                cases r with
                | true =>
                  obtain ⟨v', rfl⟩ := hs
                  rw [hm']; rfl
                | false =>
                  rw [hm']
                  cases m with
                  | none => rw [show u' = .returning from hs]; rfl
                  | some v => obtain ⟨v', rfl, hv⟩ := hs; exact ⟨v', rfl, hv⟩
              rw [ho] at hb
              rw [hce] at hb
              rcases hor with rfl | rfl
              · refine Code.wpS_mono (hb (by simp)) fun e a' cs' w' h => ?_
                obtain ⟨rfl, ρ', u', rfl, h1, h2, h3⟩ := h
                exact ⟨h3.d.nil_eq, u', rfl, _, results_none hres _ _ _, step ρ' u' w' h1 h2⟩
              · refine Code.wpS_mono (hb (by simp)) fun e a' cs' w' h => ?_
                obtain ⟨rfl, ρ', u', rfl, h1, h2, h3⟩ := h
                exact ⟨h3.d.nil_eq, u', rfl, _, results_none hres _ _ _, step ρ' u' w' h1 h2⟩
            split at hdc
            · rename_i T' r A2 hx
              cases hdc
              exact fin T' r _ hx (.inl rfl) rfl
            · rename_i T' r A2 hx
              cases hdc
              exact fin T' r _ hx (.inr rfl) rfl
            · cases hdc
          · cases hdc

theorem acall_sound {E : XEnv} (hE : EnvOk P E) (hdraw : ∀ call, CallOk P call → DrawOk P call) : ∀ n, CallOk P (acall E n) := by
  intro n
  induction n with
  | zero => intro f args A ρ w args' hR hV hne; exact absurd rfl hne
  | succ n ih =>
    intro f args A ρ w args' hR hV hne
    unfold acall at hne ⊢
    split at hne
    · rename_i g hg
      split at hne
      · rename_i v A' hgv
        exact hE.prim f g hg args A v A' hgv ρ w args' hR hV
      · exact absurd rfl hne
    · rename_i hg
      split at hne
      · exact absurd rfl hne
      · rename_i xf hxf
        obtain ⟨fn, c, hf, hb, hn, ht, hc, hr⟩ := cFunc_inv (hE.fn _ _ hxf)
        refine .inl ⟨run_callFunc_body hf hb hn _ _, ?_⟩
        have hA0 : ARel ρ (slots xf args) [] { tmps := args' ++ Array.replicate (fn.ntmps - args'.size) undef, defers := [] } := slots_rel ht hV
        have hb1 := xcode_sound ih (hdraw _ ih) n c xf.body hc (slots xf args) [] A ρ _ w hR hA0
        refine calls_of_wp_defers hf hb ?_
        generalize hout : xcode (acall E n) n xf.body (slots xf args) [] A = out at hne hb1
        cases out with
        | stuck => exact absurd rfl hne
        | norm T1 D1 A1 =>
          refine wp_mono (hb1 (by simp)) fun e a' w' h => ?_
          obtain ⟨rfl, ρ', h1, h2⟩ := h
          exact leave_sound hE ih (hdraw _ ih) n hr T1 a'.tmps ρ A w D1 none A1 ρ' w' .returning a'.defers h1 h2.t h2.d rfl hne
        | exit id T1 D1 A1 => exact absurd rfl hne
        | ret T1 D1 A1 =>
          refine wp_mono (hb1 (by simp)) fun e a' w' h => ?_
          obtain ⟨rfl, ρ', h1, h2⟩ := h
          exact leave_sound hE ih (hdraw _ ih) n hr T1 a'.tmps ρ A w D1 none A1 ρ' w' .returning a'.defers h1 h2.t h2.d rfl hne
        | pan v T1 D1 A1 =>
          refine wp_mono (hb1 (by simp)) fun e a' w' h => ?_
          obtain ⟨v', rfl, ρ', h1, h2, h3⟩ := h
          exact leave_sound hE ih (hdraw _ ih) n hr T1 a'.tmps ρ A w D1 (some v) A1 ρ' w' _ a'.defers h1 h2.t h2.d ⟨v', rfl, h3⟩ hne

end
end Ab
