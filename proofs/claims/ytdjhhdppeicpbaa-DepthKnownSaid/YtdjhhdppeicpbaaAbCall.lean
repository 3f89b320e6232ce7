/- Who is called, and what a call comes to. -/
import Derived.Test.YtdjhhdppeicpbaaAbChain3
namespace Ab
open Go

/-- A function, called with all its arguments: it is entered, or answers at once. -/
def Does (P : Program) (f : FuncId) (args : Array Value) (w : World) (R : Ending → World → Prop) : Prop :=
  ((callFunc f args).run P w = .ok (.enter f args) w ∧ Calls P f args w R) ∨ ∃ v w', (callFunc f args).run P w = .ok (.value v) w' ∧ R (.returned v) w'

theorem Does.mono {P : Program} {f : FuncId} {args : Array Value} {w : World} {R R' : Ending → World → Prop} (h : Does P f args w R) (hr : ∀ e w', R e w' → R' e w') : Does P f args w R' := by
  rcases h with ⟨h1, h2⟩ | ⟨v, w', h1, h2⟩
  · exact .inl ⟨h1, h2.mono hr⟩
  · exact .inr ⟨v, w', h1, hr _ _ h2⟩

/-- What a call of the executor's promises. -/
def ResOk (ρ : Ren) (A : AH) (w : World) (r : Res) (e : Ending) (w' : World) : Prop :=
  match r with
  | .stuck => False
  | .ret v A' => ∃ ρ' v', e = .returned v' ∧ VRel ρ' v v' ∧ Step ρ A w ρ' A' w'
  | .pan v A' => ∃ ρ' v', e = .panicked [{ v := v', recovered := false }] ∧ VRel ρ' v v' ∧ Step ρ A w ρ' A' w'

def CallOk (P : Program) (call : FuncId → List AVal → AH → Res) : Prop :=
  ∀ (f : FuncId) (args : List AVal) (A : AH) (ρ : Ren) (w : World) (args' : Array Value), Rel ρ A w → VRels ρ args args'.toList → call f args A ≠ .stuck →
    Does P f args' w (ResOk ρ A w (call f args A))

section
variable {P : Program} {ρ : Ren} {A : AH} {w : World} {T : List AVal} {a : Act} {dst : Option Tmp} {type : TypeId} {pos : String} {after : Array Edge} {guard : Option (Nat × Bool)} {v : AVal} {x : XOp}

theorem methodRow_info {name : String} {t t' : TypeId} {i : TypeInfo} {f : FuncId} {m : Option Nat} (h : methodRow P name t i = some (t', f, m)) : t' = t := by
  unfold methodRow at h
  repeat' split at h
  all_goals first
    | (cases h; done)
    | (cases h; rfl)

theorem methodTable_row {name : String} {t : TypeId} {f : FuncId} {m : Option Nat} {r : TypeId × FuncId × Option Nat} (h : (methodTable P name).find? (·.1 == t) = some r) (hr : r = (t, f, m) ∨ r.2 = (f, m)) :
    ∃ i, P.info? t = some i ∧ methodRow P name t i = some (t, f, m) := by
  have h1 := List.mem_of_find?_eq_some h
  have h2 := List.find?_some h
  have h3 : r.1 = t := by simpa using h2
  obtain ⟨t', f', m'⟩ := r
  have h4 : f' = f ∧ m' = m := by rcases hr with hr | hr <;> (cases hr; exact ⟨rfl, rfl⟩)
  obtain ⟨rfl, rfl⟩ := h4
  simp only at h3
  subst h3
  unfold methodTable at h1
  obtain ⟨⟨i, t2⟩, h5, h6⟩ := List.mem_filterMap.1 h1
  have h7 := methodRow_info h6
  subst h7
  have h8 : P.types.toList[t']? = some i := by
    have := List.mem_zipIdx_iff_getElem?.1 h5
    simpa using this
  have h9 : P.types[t']? = some i := by simpa using h8
  have hlt : t' < P.types.size := by
    rcases Nat.lt_or_ge t' P.types.size with h | h
    · exact h
    · simp [Array.getElem?_eq_none h] at h9
  refine ⟨i, ?_, h6⟩
  show Tables.info? P.toTables t' = some i
  unfold Tables.info?
  rw [if_pos hlt]; exact h9

theorem run_wrapNilChk (ts : Array TypeId) (t : TypeId) (p : Addr) (x y : ByteArray) (w : World) : (Builtin.ssaWrapNilChk_ ts t #[.pointer (some p), .string x, .string y]).run P w = .ok (.pointer (some p)) w := rfl

theorem run_method {name : String} {t : TypeId} {i : TypeInfo} {f : FuncId} {m : Option Nat} {u : Value} {r : AVal} (hi : P.info? t = some i) (hm : methodRow P name t i = some (t, f, m)) (hR : Rel ρ A w) (hv : VRel ρ v u) (hr : areceiver A v m = some r) (n : Nat) :
    ∃ r', VRel ρ r r' ∧ (method (n + 1) t u name).run P w = .ok (f, r') w := by
  unfold methodRow at hm
  split at hm
  · rename_i mm hfind
    split at hm
    · rename_i hpath
      have hp : mm.path.toList = [] := by simpa using hpath
      have hrun : ∀ r', (∀ fn pr, mm.func = some (fn, pr) → (receiverAt t (.val u) pr (some ((name.splitOn ".").getLastD name))).run P w = .ok r' w ∧ fn = f) → (∃ fn pr, mm.func = some (fn, pr)) → (method (n + 1) t u name).run P w = .ok (f, r') w := by
        rintro r' h ⟨fn, pr, hf⟩
        obtain ⟨h1, rfl⟩ := h fn pr hf
        simp only [method, Sem.run_bind, rtypeInfo hi, Result.andThen, hfind, hp, follow, Sem.run_pure, hf, hpath, if_true, h1]
      split at hm
      · rename_i f' e hf hu
        cases hm
        simp only [areceiver] at hr
        split at hr
        · cases hr
        · cases hr
          refine ⟨u, hv, hrun u (fun fn pr h => ?_) ⟨_, _, hf⟩⟩
          rw [hf] at h; cases h
          exact ⟨by simp only [receiverAt, Sem.run_bind, run_underlying hu, Result.andThen, Place.get, Sem.run_pure], rfl⟩
      · rename_i f' e hf hu
        split at hm
        · rename_i k hsh
          obtain ⟨d, i', hd, hi', hag, hsz⟩ := tyShape_inv hsh
          cases hm
          simp only [areceiver] at hr
          split at hr
          · rename_i b o
            split at hr
            · rename_i cs hcs
              cases hr
              cases hv with
              | ptr g1 =>
                obtain ⟨vs, q1, q2, q3⟩ := hR.rd g1 hcs
                refine ⟨.agg vs.toArray, .agg' (by simpa using q3), hrun _ (fun fn pr h => ?_) ⟨_, _, hf⟩⟩
                rw [hf] at h; cases h
                refine ⟨?_, rfl⟩
                simp only [receiverAt, Sem.run_bind, run_underlying hu, Result.andThen, Place.get, Sem.run_pure, run_wrapNilChk, strVal, asAddr, run_loadVarN hd hag.symm hi' (q1.trans hsz) q2]
            · cases hr
          · cases hr
        · rename_i hsh
          obtain ⟨d, i', hd, hi', hag, hsz⟩ := tyShape_inv hsh
          cases hm
          simp only [areceiver] at hr
          split at hr
          · rename_i b o
            cases hv with
            | ptr g1 =>
              obtain ⟨vs, q1, q2⟩ := hR.rd1 g1 hr
              refine ⟨vs, q2, hrun _ (fun fn pr h => ?_) ⟨_, _, hf⟩⟩
              rw [hf] at h; cases h
              refine ⟨?_, rfl⟩
              simp only [receiverAt, Sem.run_bind, run_underlying hu, Result.andThen, Place.get, Sem.run_pure, run_wrapNilChk, strVal, asAddr, run_loadVar1 hd hag.symm q1]
          · cases hr
        · cases hm
      · rename_i f' d hnp hf hu
        cases hm
        simp only [areceiver] at hr
        split at hr
        · cases hr
        · cases hr
          refine ⟨u, hv, hrun u (fun fn pr h => ?_) ⟨_, _, hf⟩⟩
          rw [hf] at h; cases h
          refine ⟨?_, rfl⟩
          simp only [receiverAt, Sem.run_bind, run_underlying hu, Result.andThen]
          cases d <;> first
            | exact absurd rfl (hnp _ _ rfl)
            | exact absurd rfl (hnp _ rfl)
            | exact absurd hf (hnp _ _ · rfl)
            | exact absurd rfl (hnp _ · rfl)
            | (simp only [Place.get, Sem.run_pure]; done)
      · cases hm
    · cases hm
  · cases hm

theorem acallee_sound {o : Oper} {f : FuncId} {args : List AVal} (hR : Rel ρ A w) (hT : TRel ρ T a.tmps) (hc : cOp P o.op = some x) (hv : acallee T A x = some (f, args)) :
    ∃ args' : Array Value, VRels ρ args args'.toList ∧ (execOp a.eval o).run P w = (callFunc f args').run P w := by
  obtain ⟨dst, op, type, pos, after, guard⟩ := o
  cases op with
  | call c =>
    obtain ⟨callee, cargs, ts⟩ := c
    cases callee with
    | builtin b =>
      replace hc : cBuiltin P b ts cargs.toList = some x := by simpa only [cOp] using hc
      unfold cBuiltin at hc
      repeat' split at hc
      all_goals first
        | (cases hc; done)
        | (cases hc; simp [acallee] at hv; done)
    | value y =>
      simp only [cOp] at hc
      cases hcs : cOpds cargs.toList with
      | none => simp [hcs] at hc
      | some as =>
        simp only [hcs] at hc
        have hrs := evs_rel hT hcs
        split at hc
        · rename_i g as' h1 h2
          cases hc; cases h1; cases h2
          simp only [acallee] at hv
          cases hv
          refine ⟨cargs.map a.eval, by simpa using hrs, ?_⟩
          have ef : a.eval (.func f) = .func (.func f) #[] #[] := rfl
          simp [execOp, resolve, Deferred.ofValue, invoke, ef]
        · rename_i h1 h2
          cases h1; cases h2
          split at hc
          · rename_i b hb
            cases hc
            have hr := ev_rel hT hb
            simp only [acallee] at hv
            split at hv
            · rename_i g caps hj
              cases hv
              rw [hj] at hr
              generalize he : a.eval y = u at hr
              cases hr with
              | @func _ _ vs h1 h2 =>
                refine ⟨cargs.map a.eval ++ vs, ?_, ?_⟩
                · rw [Array.toList_append, Array.toList_map]
                  exact hrs.append ⟨by simpa using h1, fun i a v hi hv => h2 i a v hi (by simpa using hv)⟩
                · simp [execOp, resolve, Deferred.ofValue, invoke, he]
            · cases hv
          · cases hc
        all_goals first | (cases hc; done) | (rename_i h1 _; cases h1; done) | (rename_i h1; cases h1; done) | contradiction
    | invoke rv m =>
      simp only [cOp] at hc
      cases hcs : cOpds cargs.toList with
      | none => simp [hcs] at hc
      | some as =>
        simp only [hcs] at hc
        have hrs := evs_rel hT hcs
        split at hc
        · rename_i b hb
          cases hc
          have hr := ev_rel hT hb
          simp only [acallee] at hv
          split at hv
          · rename_i t v1 hj
            rw [hj] at hr
            generalize he : a.eval rv = u at hr
            cases hr with
            | @iface _ _ u1 hu1 =>
              split at hv
              · rename_i t' f' mm hfind
                split at hv
                · rename_i rr hrr
                  cases hv
                  obtain ⟨i, hi, hrow⟩ := methodTable_row (t := t) (f := f) (m := mm) hfind (.inr rfl)
                  obtain ⟨r', q1, q2⟩ := run_method hi hrow hR hu1 hrr (P.types.size + 99)
                  refine ⟨#[r'] ++ cargs.map a.eval, ?_, ?_⟩
                  · simpa using VRels.cons q1 hrs
                  · have q2' : (method (P.types.size + Made.depth) t u1 m).run P w = .ok (f, r') w := q2
                    have e0 : (#[Value.iface t u1] ++ cargs.map a.eval)[0]? = some (.iface t u1) := by rw [Array.getElem?_append_left (by simp)]; rfl
                    have e1 : (#[Value.iface t u1] ++ cargs.map a.eval).extract 1 (#[Value.iface t u1] ++ cargs.map a.eval).size = cargs.map a.eval := by
                      apply Array.ext'
                      simp
                      exact List.take_of_length_le (by simp)
                    simp only [execOp, resolve, invoke, he, Sem.run_bind, Sem.run_pure, Result.andThen, e0, e1, callMethod, run_program, q2']
                · cases hv
              · cases hv
          · cases hv
        · cases hc
  | _ =>
    simp only [cOp] at hc
    repeat' split at hc
    all_goals first
      | (cases hc; done)
      | (cases hc; simp [acallee] at hv; done)
      | skip
    all_goals
      simp only [cBin] at hc
      repeat' split at hc
      all_goals first
        | (cases hc; done)
        | (cases hc; simp [acallee] at hv; done)

end
end Ab
