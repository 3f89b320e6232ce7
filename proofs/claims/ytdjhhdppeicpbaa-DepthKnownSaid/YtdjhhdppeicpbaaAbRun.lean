/- Regions whose order is the text's, and the codes around them. -/
import Derived.Test.YtdjhhdppeicpbaaAbCall
namespace Ab
open Go

/-- The deferred calls. -/
def DRel1 (ρ : Ren) (d : ADef) (d' : Deferred) : Prop := ∃ args caps : Array Value, d' = { target := .fn (.func d.f) caps, args } ∧ VRels ρ d.args args.toList ∧ VRels ρ d.caps caps.toList

def DRel (ρ : Ren) : List ADef → List Deferred → Prop
  | [], [] => True
  | d :: ds, d' :: ds' => DRel1 ρ d d' ∧ DRel ρ ds ds'
  | _, _ => False

theorem DRel1.mono {ρ ρ' : Ren} (h : ∀ b e, ρ b = some e → ρ' b = some e) {d : ADef} {d' : Deferred} (hd : DRel1 ρ d d') : DRel1 ρ' d d' :=
  let ⟨args, caps, h1, h2, h3⟩ := hd; ⟨args, caps, h1, h2.mono h, h3.mono h⟩

theorem DRel.mono {ρ ρ' : Ren} (h : ∀ b e, ρ b = some e → ρ' b = some e) : ∀ {ds : List ADef} {ds' : List Deferred}, DRel ρ ds ds' → DRel ρ' ds ds'
  | [], [], _ => trivial
  | _ :: _, _ :: _, hd => ⟨hd.1.mono h, DRel.mono h hd.2⟩
  | [], _ :: _, hd => hd.elim
  | _ :: _, [], hd => hd.elim

structure ARel (ρ : Ren) (T : List AVal) (D : List ADef) (a : Act) : Prop where
  t : TRel ρ T a.tmps
  d : DRel ρ D a.defers

theorem ARel.mono {ρ ρ' : Ren} (h : ∀ b e, ρ b = some e → ρ' b = some e) {T : List AVal} {D : List ADef} {a : Act} (hA : ARel ρ T D a) : ARel ρ' T D a := ⟨hA.t.mono h, hA.d.mono h⟩

theorem Act.defers_put (a : Act) (d : Option Tmp) (v : Value) : (a.put d v).defers = a.defers := by cases d <;> rfl

theorem ARel.put {ρ : Ren} {T : List AVal} {D : List ADef} {a : Act} (h : ARel ρ T D a) (d : Option Tmp) {x : AVal} {v : Value} (hv : VRel ρ x v) : ARel ρ (put T d x) D (a.put d v) :=
  ⟨h.t.put d hv, by rw [Act.defers_put]; exact h.d⟩

theorem TRel.junk {ρ : Ren} {T : List AVal} {tmps : Array Value} (h : TRel ρ T tmps) (d : Option Nat) : TRel ρ (Ab.put T d .junk) tmps := by
  cases d with
  | none => exact h
  | some d =>
    refine ⟨by simpa [Ab.put] using h.1, fun i a v hi hv => ?_⟩
    simp only [Ab.put, List.getElem?_set] at hi
    split at hi
    · split at hi
      · cases hi; exact .junk _
      · cases hi
    · exact h.2 i a v hi hv

theorem TRel.forget {ρ : Ren} {tmps : Array Value} : ∀ (ops : List XOper) {T : List AVal}, TRel ρ T tmps → TRel ρ (forget T ops) tmps
  | [], _, h => h
  | o :: rest, _, h => TRel.forget rest (h.junk o.dst)

/-- What the executor's outcome promises. -/
def OutOk (ρ : Ren) (A : AH) (w : World) (o : Out) (e : Exit) (a : Act) (w' : World) : Prop :=
  match o with
  | .stuck => False
  | .norm T D A' => e = .normal ∧ ∃ ρ', Step ρ A w ρ' A' w' ∧ ARel ρ' T D a
  | .exit id T D A' => e = .exit id ∧ ∃ ρ', Step ρ A w ρ' A' w' ∧ ARel ρ' T D a
  | .ret T D A' => e = .ret ∧ ∃ ρ', Step ρ A w ρ' A' w' ∧ ARel ρ' T D a
  | .pan v T D A' => ∃ v', e = .panic [{ v := v', recovered := false }] ∧ ∃ ρ', Step ρ A w ρ' A' w' ∧ ARel ρ' T D a ∧ VRel ρ' v v'

theorem OutOk.trans {ρ ρ1 : Ren} {A A1 : AH} {w w1 w' : World} {o : Out} {e : Exit} {a : Act} (h : Step ρ A w ρ1 A1 w1) (k : OutOk ρ1 A1 w1 o e a w') : OutOk ρ A w o e a w' := by
  cases o with
  | stuck => exact k
  | norm T D A' => obtain ⟨h1, ρ', h2, h3⟩ := k; exact ⟨h1, ρ', h.trans h2, h3⟩
  | exit id T D A' => obtain ⟨h1, ρ', h2, h3⟩ := k; exact ⟨h1, ρ', h.trans h2, h3⟩
  | ret T D A' => obtain ⟨h1, ρ', h2, h3⟩ := k; exact ⟨h1, ρ', h.trans h2, h3⟩
  | pan v T D A' => obtain ⟨v', h1, ρ', h2, h3⟩ := k; exact ⟨v', h1, ρ', h.trans h2, h3⟩

theorem getD_some {xs : Array Value} {i : Nat} {v : Value} (h : xs.getD i undef = v) (hv : v ≠ undef) : xs[i]? = some v := by
  by_cases hi : i < xs.size
  · simp [Array.getD, hi] at h; simp [hi, h]
  · simp [Array.getD, hi] at h; exact absurd h.symm hv

theorem wants_sound {ρ : Ren} {T : List AVal} {a : Act} {ops : Array Oper} {o : Oper} {g : Option (Nat × Bool)} {b : Bool} (hT : TRel ρ T a.tmps) (hg : cGuard ops o.guard = some g) (hw : wants T g = some b) : Region.wanted o (yielded ops a.tmps) = b := by
  unfold Region.wanted
  cases hog : o.guard with
  | none => rw [hog] at hg; cases hg; cases hw; rfl
  | some jb =>
    obtain ⟨j, want⟩ := jb
    rw [hog] at hg
    simp only [cGuard] at hg
    split at hg
    · rename_i t ht
      cases hg
      simp only [wants] at hw
      have hr := hT.get t
      simp only [yielded, ht, Option.bind_some]
      split at hw
      · rename_i c hc
        cases hw
        rw [hc] at hr
        generalize he : a.tmps.getD t undef = u at hr
        cases hr with
        | bool =>
          rw [getD_some he (by simp [undef])]
          cases c <;> cases want <;> rfl
      · rename_i hc
        cases hw
        rw [hc] at hr
        generalize he : a.tmps.getD t undef = u at hr
        cases hr with
        | @tuple _ vs h1 h2 =>
          by_cases hi : t < a.tmps.size
          · simp only [Array.getD, hi, dif_pos] at he
            rw [Array.getElem?_eq_getElem hi]
            have he' : a.tmps[t] = .tuple vs := he
            rw [he']; rfl
          · rw [Array.getElem?_eq_none (Nat.le_of_not_lt hi)]; rfl
      · cases hw
    · cases hg

theorem cOpers_cons {P : Program} {ops : Array Oper} {o : Oper} {os : List Oper} {xs : List XOper} (h : cOpers P ops (o :: os) = some xs) : ∃ op g xs', xs = ⟨o.dst, op, g⟩ :: xs' ∧ cOp P o.op = some op ∧ cGuard ops o.guard = some g ∧ cOpers P ops os = some xs' := by
  simp only [cOpers, cOper] at h
  cases h1 : cOp P o.op with
  | none => simp [h1] at h
  | some op =>
    cases h2 : cGuard ops o.guard with
    | none => simp [h1, h2] at h
    | some g =>
      cases h3 : cOpers P ops os with
      | none => simp [h1, h2, h3] at h
      | some xs' =>
        simp [h1, h2, h3] at h
        exact ⟨op, g, xs', h.symm, rfl, rfl, rfl⟩

/-- What one operation needs of the executor's answers. -/
theorem upon_gives {P : Program} {o : Oper} {a : Act} {next : Act → World → Prop} {Q : Exit → Act → World → Prop} {n : Next} {v : Value} {w : World} (h : Gives n v) (hn : next (a.put o.dst v) w) : o.upon P a next Q (.ok n w) := by
  rcases h with rfl | ⟨rfl, rfl⟩ <;> exact hn

theorem upon_does {P : Program} {o : Oper} {a : Act} {next : Act → World → Prop} {Q : Exit → Act → World → Prop} {w : World} {f : FuncId} {args : Array Value} {R : Ending → World → Prop}
    (hd : Does P f args w R) (h1 : ∀ v w', R (.returned v) w' → next (a.put o.dst v) w') (h2 : ∀ c w', R (.panicked c) w' → Q (.panic c) a w') (h3 : ∀ w', ¬ R .outgrown w') : o.upon P a next Q ((callFunc f args).run P w) := by
  rcases hd with ⟨e1, e2⟩ | ⟨v, w', e1, e2⟩
  · rw [e1]
    refine e2.mono fun e w' hR => ?_
    cases e with
    | returned v => exact h1 v w' hR
    | panicked c => exact h2 c w' hR
    | outgrown => exact absurd hR (h3 w')
  · rw [e1]; exact h1 _ _ e2

theorem cOp_defer {P : Program} {op : Op} {x : XOpd} {args : List XOpd} (h : cOp P op = some (.defer x args)) : ∃ y cargs ts, op = .defer ⟨.value y, cargs, ts⟩ ∧ cOpd y = some x ∧ cOpds cargs.toList = some args := by
  cases op with
  | defer c =>
    obtain ⟨callee, cargs, ts⟩ := c
    cases callee with
    | value y =>
      simp only [cOp] at h
      cases hcs : cOpds cargs.toList with
      | none => simp [hcs] at h
      | some as =>
        cases hy : cOpd y with
        | none => simp [hcs, hy] at h
        | some b => simp [hcs, hy] at h; obtain ⟨rfl, rfl⟩ := h; exact ⟨y, cargs, ts, rfl, hy, hcs⟩
    | builtin b => simp [cOp] at h
    | invoke r m => simp [cOp] at h
  | call c =>
    obtain ⟨callee, cargs, ts⟩ := c
    simp only [cOp] at h
    repeat' split at h
    all_goals first
      | (cases h; done)
      | skip
    simp only [cBuiltin] at h
    repeat' split at h
    all_goals (cases h; done)
  | _ =>
    simp only [cOp] at h
    repeat' split at h
    all_goals first
      | (cases h; done)
      | skip
    all_goals
      simp only [cBin] at h
      repeat' split at h
      all_goals (cases h; done)

theorem cOp_panic {P : Program} {op : Op} {x : XOpd} (h : cOp P op = some (.panic x)) : ∃ y, cOpd y = some x ∧ (op = .panic y ∨ ∃ ts, op = .call ⟨.builtin .panic, #[y], ts⟩) := by
  cases op with
  | panic y =>
    simp only [cOp] at h
    cases hy : cOpd y with
    | none => simp [hy] at h
    | some b => simp [hy] at h; subst h; exact ⟨y, hy, .inl rfl⟩
  | call c =>
    obtain ⟨callee, cargs, ts⟩ := c
    cases callee with
    | builtin b =>
      replace h : cBuiltin P b ts cargs.toList = some (.panic x) := by simpa only [cOp] using h
      unfold cBuiltin at h
      split at h
      all_goals first
        | (cases h; done)
        | skip
      case h_10 =>
        rename_i y hy
        split at h
        · rename_i b hb
          cases h
          exact ⟨y, hb, .inr ⟨ts, by rw [array_one hy]⟩⟩
        · cases h
      all_goals
        repeat' split at h
        all_goals (cases h; done)
    | value y =>
      simp only [cOp] at h
      repeat' split at h
      all_goals first
        | (cases h; done)
        | (rename_i h1 _; cases h1; done)
        | (rename_i h1; cases h1; done)
    | invoke r m =>
      simp only [cOp] at h
      repeat' split at h
      all_goals first
        | (cases h; done)
        | (rename_i h1 _; cases h1; done)
        | (rename_i h1; cases h1; done)
  | _ =>
    simp only [cOp] at h
    repeat' split at h
    all_goals first
      | (cases h; done)
      | skip
    all_goals
      simp only [cBin] at h
      repeat' split at h
      all_goals (cases h; done)

section
variable {P : Program} {call : FuncId → List AVal → AH → Res}

theorem xops_sound (hcall : CallOk P call) (ops : Array Oper) (all : List XOper) (ρ0 : Ren) (A0 : AH) (w0 : World) :
    ∀ (os : List Oper) (xs : List XOper) (k : Nat), (∀ j, ops[k + j]? = os[j]?) → cOpers P ops os = some xs → ∀ (T : List AVal) (D : List ADef) (A : AH) (ρ : Ren) (a : Act) (w : World), Step ρ0 A0 w0 ρ A w → ARel ρ T D a →
      xops call all xs T D A ≠ .stuck → wpOps P ops (OutOk ρ0 A0 w0 (xops call all xs T D A)) (List.range' k os.length) a w := by
  intro os
  induction os with
  | nil =>
    intro xs k hk hc T D A ρ a w hS hA hne
    simp [cOpers] at hc; subst hc
    exact ⟨rfl, ρ, hS, hA⟩
  | cons o os ih =>
    intro xs k hk hc T D A ρ a w hS hA hne
    obtain ⟨op, g, xs', rfl, hop, hg, hcs⟩ := cOpers_cons hc
    have hk0 : ops[k]? = some o := by simpa using hk 0
    have hk' : ∀ j, ops[k + 1 + j]? = os[j]? := fun j => by
      have := hk (j + 1)
      rw [show k + (j + 1) = k + 1 + j by omega] at this
      simpa using this
    have hR := hS.rel
    simp only [List.length_cons, List.range'_succ, wpOps, hk0]
    generalize hout : xops call all (⟨o.dst, op, g⟩ :: xs') T D A = out at hne
    unfold xops at hout
    simp only at hout
    split at hout
    · subst hout; exact absurd rfl hne
    · rename_i hw
      rw [wants_sound hA.t hg hw]
      simp only [Bool.false_eq_true, if_false]
      subst hout
      exact ih xs' (k + 1) hk' hcs _ _ _ _ _ _ hS (hA.put o.dst (.tuple' .nil)) hne
    · rename_i hw
      rw [wants_sound hA.t hg hw]
      simp only [if_true]
      left
      unfold Oper.wp
      split at hout
      · rename_i hpure
        split at hout
        · rename_i v hv
          obtain ⟨v', h1, h2⟩ := pure_sound hA.t hop hpure hv
          rw [h2 w]; subst hout
          exact ih xs' (k + 1) hk' hcs _ _ _ _ _ _ hS (hA.put o.dst h1) hne
        · subst hout; exact absurd rfl hne
      split at hout
      · rename_i hread
        split at hout
        · rename_i v hv
          obtain ⟨v', h1, h2⟩ := read_sound hR hA.t hop hread hv
          rw [h2]; subst hout
          exact ih xs' (k + 1) hk' hcs _ _ _ _ _ _ hS (hA.put o.dst h1) hne
        · subst hout; exact absurd rfl hne
      split at hout
      · rename_i hfree
        split at hout
        · rename_i x kk hv
          obtain ⟨ob, csz, v', h1, h2⟩ := free_sound (w := w) hA.t hop hfree hv
          obtain ⟨h3, h4⟩ := h2 A.next (hR.fresh _ (Nat.le_refl _))
          rw [h1]; subst hout
          have hN := hR.new h3
          exact ih xs' (k + 1) hk' hcs _ _ _ _ _ _ (hS.trans hN) ((hA.mono (hN.ext hR)).put o.dst h4) hne
        · subst hout; exact absurd rfl hne
      split at hout
      · rename_i hcl
        split at hout
        · subst hout; exact absurd rfl hne
        · rename_i f args hv
          obtain ⟨args', h1, h2⟩ := acallee_sound hR hA.t hop hv
          rw [h2]
          split at hout
          · subst hout; exact absurd rfl hne
          · rename_i v A' hres
            have hd := hcall f args A ρ w args' hR h1 (by rw [hres]; simp)
            rw [hres] at hd
            refine upon_does hd ?_ ?_ ?_
            · rintro u w' ⟨ρ', v', e1, e2, e3⟩
              cases e1; subst hout
              exact ih xs' (k + 1) hk' hcs _ _ _ _ _ _ (hS.trans e3) ((hA.mono (e3.ext hR)).put o.dst e2) hne
            · rintro c w' ⟨ρ', v', e1, _⟩; cases e1
            · rintro w' ⟨ρ', v', e1, _⟩; cases e1
          · rename_i v A' hres
            have hd := hcall f args A ρ w args' hR h1 (by rw [hres]; simp)
            rw [hres] at hd
            refine upon_does hd ?_ ?_ ?_
            · rintro u w' ⟨ρ', v', e1, _⟩; cases e1
            · rintro c w' ⟨ρ', v', e1, e2, e3⟩
              cases e1; subst hout
              have hA' := hA.mono (e3.ext hR)
              exact ⟨v', rfl, ρ', hS.trans e3, ⟨hA'.t.forget all, hA'.d⟩, e2⟩
            · rintro w' ⟨ρ', v', e1, _⟩; cases e1
      split at hout
      · rename_i x args _ _ _ _
        split at hout
        · rename_i f caps hj
          obtain ⟨y, cargs, ts, ho, hy, hcs2⟩ := cOp_defer hop
          have hr := ev_rel hA.t hy
          have hrs := evs_rel hA.t hcs2
          rw [hj] at hr
          generalize he : a.eval y = u at hr
          cases hr with
          | @func _ _ vs h1 h2 =>
            have hrun : (execOp a.eval o).run P w = .ok (.defer { target := .fn (.func f) vs, args := cargs.map a.eval }) w := by
              simp [execOp, ho, resolve, Deferred.ofValue, he]
            rw [hrun]; subst hout
            have hA' : ARel ρ T (⟨f, args.map (ev T), caps⟩ :: D) { a with defers := { target := .fn (.func f) vs, args := cargs.map a.eval } :: a.defers } :=
              ⟨hA.t, ⟨_, _, rfl, by simpa using hrs, ⟨by simpa using h1, fun i a v hi hv => h2 i a v hi (by simpa using hv)⟩⟩, hA.d⟩
            exact ih xs' (k + 1) hk' hcs _ _ _ _ _ _ hS (hA'.put o.dst (.tuple' .nil)) hne
        · subst hout; exact absurd rfl hne
      · rename_i x _ _ _ _
        split at hout
        · rename_i t v hj
          obtain ⟨y, hy, ho⟩ := cOp_panic hop
          have hr := ev_rel hA.t hy
          rw [hj] at hr
          generalize he : a.eval y = u at hr
          cases hr with
          | @iface _ _ u1 hu1 =>
            have hrun : (execOp a.eval o).run P w = .halt (.panic (.iface t u1)) w := by
              rcases ho with ho | ⟨ts, ho⟩
              · simp [execOp, ho, Instr.panic, he]
              · simp [execOp, ho, resolve, invoke, builtin, Instr.panic, he]
            rw [hrun]; subst hout
            exact ⟨_, rfl, ρ, hS, ⟨hA.t.forget all, hA.d⟩, .iface hu1⟩
        · subst hout; exact absurd rfl hne
      · rename_i hnd hnp
        split at hout
        · rename_i v A' hv
          obtain ⟨ρ', n, v', w', h1, h2, h3, h4⟩ := chain_sound hR hA.t hop hv
          rw [h1]; subst hout
          exact upon_gives h2 (ih xs' (k + 1) hk' hcs _ _ _ _ _ _ (hS.trans h4) ((hA.mono (h4.ext hR)).put o.dst h3) hne)
        · subst hout; exact absurd rfl hne

end
end Ab
