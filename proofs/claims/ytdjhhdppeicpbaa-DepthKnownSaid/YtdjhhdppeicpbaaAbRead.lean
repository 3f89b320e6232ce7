/- Operations that only read memory. -/
import Derived.Test.YtdjhhdppeicpbaaAbPure3
namespace Ab
open Go

def ReadOk (P : Program) (ρ : Ren) (w : World) (a : Act) (o : Oper) (v : AVal) : Prop :=
  ∃ v', VRel ρ v v' ∧ (execOp a.eval o).run P w = .ok (.value v') w

theorem run_loadVar1 {P : Program} {t : TypeId} {d : TypeDesc} (hd : P.underlying t = some d) (hag : isAggD d = false) {w : World} {p : Addr} {v : Value} (hc : w.cell? p = some v) :
    (loadVar t p).run P w = .ok v w := by
  simp only [loadVar, Sem.run_bind, risAgg hd, hag, Result.andThen, Bool.false_eq_true, if_false]
  simp [hc]

theorem run_loadVarN {P : Program} {t : TypeId} {d : TypeDesc} {i : TypeInfo} (hd : P.underlying t = some d) (hag : isAggD d = true) (hi : P.info? t = some i) {w : World} {p : Addr} {vs : List Value} (hl : vs.length = i.size)
    (hc : ∀ j v, vs[j]? = some v → w.cell? (p.add j) = some v) : (loadVar t p).run P w = .ok (.agg vs.toArray) w := by
  simp only [loadVar, Sem.run_bind, risAgg hd, hag, Result.andThen, if_true, rsizeOf hi]
  rw [← hl]
  simp only [run_loadCells_list w p vs hc, Sem.run_pure]

theorem keyEq_sound {P : Program} {ρ : Ren} {ki : Bool} {k k' : AVal} {u u' : Value} {b : Bool} {kt : TypeId} {d : TypeDesc} (hkt : keyKind P kt = some ki) (hd : P.underlying kt = some d) (h : keyEq ki k k' = some b) (hk : VRel ρ k u) (hk' : VRel ρ k' u') :
    Instr.sameNow d u u' = some b := by
  unfold keyKind at hkt
  rw [hd] at hkt
  unfold keyEq at h
  split at h
  · cases vrel_int hk; cases vrel_int hk'
    split at hkt
    · rename_i hh; cases hh
      simpa [Instr.sameNow] using h
    · cases hkt
    · cases hkt
  · cases vrel_str hk; cases vrel_str hk'
    split at hkt
    · cases hkt
    · rename_i hh; cases hh
      simpa [Instr.sameNow] using h
    · cases hkt
  · cases h

theorem findKey_sound {P : Program} {ρ : Ren} {ki : Bool} {k : AVal} {u : Value} {kt : TypeId} {d : TypeDesc} (hkt : keyKind P kt = some ki) (hd : P.underlying kt = some d) (hk : VRel ρ k u) :
    ∀ (es : List (AVal × AVal × Nat)) (es' : List MapEntry) (i : Nat) (r : Option (Nat × AVal)), VRels ρ (es.map (·.1)) (es'.map (·.key)) → VRels ρ (es.map (·.2.1)) (es'.map (·.val)) → findKey ki k es i = some r →
      ∃ r', Instr.findNow d u es' i = some r' ∧ (r = none → r' = none) ∧ (∀ j v, r = some (j, v) → i ≤ j ∧ j - i < es.length ∧ ∃ v', r' = some (j, v') ∧ VRel ρ v v' ∧ ∃ e e', es[j - i]? = some e ∧ es'[j - i]? = some e' ∧ keyEq ki k e.1 = some true)
  | [], es', i, r, h1, h2, h => by
    have : es' = [] := by have := h1.1; simpa using this.symm
    subst this
    simp [findKey] at h; subst h
    exact ⟨none, rfl, fun _ => rfl, by simp⟩
  | e :: es, [], i, r, h1, h2, h => by have := h1.1; simp at this
  | e :: es, e' :: es', i, r, h1, h2, h => by
    obtain ⟨k1, k2⟩ := VRels.uncons (a := e.1) (v := e'.key) (by simpa using h1)
    obtain ⟨v1, v2⟩ := VRels.uncons (a := e.2.1) (v := e'.val) (by simpa using h2)
    simp only [findKey] at h
    split at h
    · rename_i hb
      cases h
      refine ⟨some (i, e'.val), ?_, by simp, ?_⟩
      · simp only [Instr.findNow, keyEq_sound hkt hd hb hk k1]
      · rintro j v hjv
        cases hjv
        exact ⟨Nat.le_refl _, by simp, _, rfl, v1, e, e', by simp, by simp, hb⟩
    · rename_i hb
      obtain ⟨r', e1, e2, e3⟩ := findKey_sound hkt hd hk es es' (i + 1) r k2 v2 h
      refine ⟨r', ?_, e2, ?_⟩
      · simp only [Instr.findNow, keyEq_sound hkt hd hb hk k1]; exact e1
      · intro j v hjv
        obtain ⟨f1, f2, v', f3, f4, g, g', f5, f6, f7⟩ := e3 j v hjv
        refine ⟨by omega, by simp; omega, v', f3, f4, g, g', ?_, ?_, f7⟩
        · rw [show j - i = (j - (i + 1)) + 1 by omega]; simpa using f5
        · rw [show j - i = (j - (i + 1)) + 1 by omega]; simpa using f6
    · cases h

theorem run_checkKey {P : Program} {kt : TypeId} {ki : Bool} (hkt : keyKind P kt = some ki) (b : Bool) (u : Value) (w : World) : (Instr.checkKey b 10000 kt u).run P w = .ok () w := by
  have : ∀ n, (Instr.checkKey b (n + 1) kt u).run P w = .ok () w := by
    intro n
    unfold keyKind at hkt
    split at hkt
    · rename_i h; simp [Instr.checkKey, run_underlying h]
    · rename_i h; simp [Instr.checkKey, run_underlying h]
    · cases hkt
  exact this 9999

theorem keyKind_inv {P : Program} {kt : TypeId} {ki : Bool} (hkt : keyKind P kt = some ki) : ∃ d, P.underlying kt = some d := by
  unfold keyKind at hkt
  split at hkt
  · rename_i h; exact ⟨_, h⟩
  · rename_i h; exact ⟨_, h⟩
  · cases hkt

section
variable {P : Program} {ρ : Ren} {A : AH} {w : World} {T : List AVal} {a : Act} {dst : Option Tmp} {type : TypeId} {pos : String} {after : Array Edge} {guard : Option (Nat × Bool)} {v : AVal} {x : XOp}

theorem snd_load {t : TypeId} {y : Operand} (hR : Rel ρ A w) (hT : TRel ρ T a.tmps) (hc : cOp P (.load t y) = some x) (hv : aread T A x = some v) : ReadOk P ρ w a ⟨dst, .load t y, type, pos, after, guard⟩ v := by
  simp only [cOp] at hc
  split at hc
  · rename_i n b hsh hb
    obtain ⟨d, i, hd, hi, hag, hsz⟩ := tyShape_inv hsh
    cases hc
    have hr := ev_rel hT hb
    simp only [aread] at hv
    split at hv
    · rename_i c o hj
      rw [hj] at hr
      split at hv
      · rename_i cs hcs
        cases hv
        generalize he : a.eval y = u at hr
        cases hr with
        | ptr g1 =>
          obtain ⟨vs, q1, q2, q3⟩ := hR.rd g1 hcs
          refine ⟨.agg vs.toArray, .agg' (by simpa using q3), ?_⟩
          simp only [execOp, Instr.loadAt, he, Instr.sureAddr, Sem.run_bind, Sem.run_pure, Result.andThen, run_loadVarN hd hag.symm hi (q1.trans hsz) q2]
      · cases hv
    · cases hv
  · rename_i n b hsh hb
    obtain ⟨d, i, hd, hi, hag, hsz⟩ := tyShape_inv hsh
    cases hc
    have hr := ev_rel hT hb
    simp only [aread] at hv
    split at hv
    · rename_i c o hj
      rw [hj] at hr
      generalize he : a.eval y = u at hr
      cases hr with
      | ptr g1 =>
        obtain ⟨u, q1, q2⟩ := hR.rd1 g1 hv
        refine ⟨u, q2, ?_⟩
        simp only [execOp, Instr.loadAt, he, Instr.sureAddr, Sem.run_bind, Sem.run_pure, Result.andThen, run_loadVar1 hd hag.symm q1]
    · cases hv
  · cases hc

theorem snd_lookup {t : TypeId} {y z : Operand} {ok : Bool} (hR : Rel ρ A w) (hT : TRel ρ T a.tmps) (hc : cOp P (.lookup t y z ok) = some x) (hv : aread T A x = some v) : ReadOk P ρ w a ⟨dst, .lookup t y z ok, type, pos, after, guard⟩ v := by
  simp only [cOp] at hc
  split at hc
  · rename_i kt e b c hu hb hcz
    split at hc
    · rename_i ki za hki hza
      cases hc
      obtain ⟨i, zv, hi, hiz, hzv⟩ := tyZero_inv hza
      obtain ⟨dk, hdk⟩ := keyKind_inv hki
      have hzr := cVal_rel hzv ρ
      have hr := ev_rel hT hb
      have hrk := ev_rel hT hcz
      simp only [aread] at hv
      split at hv
      · rename_i hj
        rw [hj] at hr
        generalize he : a.eval y = u at hr
        cases hr with
        | nilmap =>
          cases hv
          refine ⟨if ok then .tuple #[zv, .bool false] else zv, ?_, ?_⟩
          · cases ok
            · exact hzr
            · exact .tuple' (.cons hzr (.cons (.bool false) .nil))
          · simp only [execOp, Instr.lookup, Sem.run_bind, run_underlying hu, Result.andThen, he, Sem.run_pure, run_checkKey hki, Instr.findKey, run_underlying hdk, Instr.findNow, rzeroValue hi hiz]
      · rename_i bm hj
        rw [hj] at hr
        generalize he : a.eval y = u at hr
        cases hr with
        | map g1 =>
          split at hv
          · rename_i es clock hx
            obtain ⟨es', hh, m1, m2, m3⟩ := hR.blk _ _ _ g1 hx
            split at hv
            · rename_i j vv hf
              cases hv
              obtain ⟨r', q1, q2, q3⟩ := findKey_sound hki hdk hrk es es'.toList 0 _ m1 m2 hf
              obtain ⟨_, _, v', rfl, hvv, _⟩ := q3 j vv rfl
              refine ⟨if ok then .tuple #[v', .bool true] else v', ?_, ?_⟩
              · cases ok
                · exact hvv
                · exact .tuple' (.cons hvv (.cons (.bool true) .nil))
              · simp only [execOp, Instr.lookup, Sem.run_bind, run_underlying hu, Result.andThen, he, getObj, Sem.run, hh, Sem.run_pure, run_checkKey hki, Instr.findKey, run_underlying hdk, q1]
            · rename_i hf
              cases hv
              obtain ⟨r', q1, q2, q3⟩ := findKey_sound hki hdk hrk es es'.toList 0 _ m1 m2 hf
              have := q2 rfl; subst this
              refine ⟨if ok then .tuple #[zv, .bool false] else zv, ?_, ?_⟩
              · cases ok
                · exact hzr
                · exact .tuple' (.cons hzr (.cons (.bool false) .nil))
              · simp only [execOp, Instr.lookup, Sem.run_bind, run_underlying hu, Result.andThen, he, getObj, Sem.run, hh, Sem.run_pure, run_checkKey hki, Instr.findKey, run_underlying hdk, q1, rzeroValue hi hiz]
            · cases hv
          · cases hv
      · cases hv
    · cases hc
  · cases hc


theorem asBytes_run {f : Value → ByteArray → Sem (ForInStep ByteArray)} (hf : ∀ n r, f (.int .u8 n) r = pure (ForInStep.yield (r.push (UInt8.ofNat n.toNat)))) : ∀ {cs : List AVal} {bs : List UInt8} {vs : List Value} (acc : ByteArray) (w : World), asBytes cs = some bs → VRels ρ cs vs →
    (forIn vs acc f).run P w = .ok ⟨⟨acc.data.toList ++ bs⟩⟩ w
  | [], bs, vs, acc, w, h, hr => by
    simp [asBytes] at h; subst h
    have : vs = [] := by have := hr.1; simpa using this.symm
    subst this
    simp
  | c :: cs, bs, [], acc, w, h, hr => by have := hr.1; simp at this
  | c :: cs, bs, v :: vs, acc, w, h, hr => by
    obtain ⟨h1, h2⟩ := hr.uncons
    unfold asBytes at h
    split at h
    · rename_i heq; cases heq
    · rename_i n rest heq
      cases heq
      split at h
      · rename_i bs' hbs
        cases h
        cases vrel_int h1
        have ih := asBytes_run hf (acc.push (UInt8.ofNat n.toNat)) w hbs h2
        simp only [List.forIn_cons, Sem.run_bind, hf, Sem.run_pure, Result.andThen]
        rw [ih]
        simp [ByteArray.push]
      · cases h
    · cases h

theorem snd_bytesToString {s d : TypeId} {y : Operand} (hR : Rel ρ A w) (hT : TRel ρ T a.tmps) (hc : cOp P (.convert s d y) = some x) (hrd : isRead x = true) (hv : aread T A x = some v) : ReadOk P ρ w a ⟨dst, .convert s d y, type, pos, after, guard⟩ v := by
  simp only [cOp] at hc
  split at hc
  · cases hc; simp [isRead] at hrd
  · cases hc; simp [isRead] at hrd
  · rename_i b e hb hs hd
    split at hc
    · rename_i he
      cases hc
      have hr := ev_rel hT hb
      simp only [aread] at hv
      split at hv
      · rename_i hj
        cases hv
        rw [hj] at hr
        generalize hey : a.eval y = u at hr
        cases hr with
        | nilslice =>
          refine ⟨_, .str _, ?_⟩
          simp only [execOp, convert, Sem.run_bind, run_underlying hs, run_underlying hd, Result.andThen, hey, run_underlying he, Conv.bytesToString, Sem.run_pure]
      · rename_i c o len cap lx hj
        rw [hj] at hr
        split at hv
        · rename_i cs hcs
          split at hv
          · rename_i bs hbs
            cases hv
            generalize hey : a.eval y = u at hr
            cases hr with
            | @slice _ _ o' _ _ _ cap' en g1 g0 g2 g3 g4 g5 =>
              obtain ⟨vs, q1, q2, q3⟩ := hR.rd g1 hcs
              have q2' : ∀ j v, vs[j]? = some v → w.cell? ((⟨en.cb, o', none⟩ : Addr).add j) = some v := by
                intro j v hjv
                have hlt : j < vs.length := by
                  rcases Nat.lt_or_ge j vs.length with h | h
                  · exact h
                  · rw [List.getElem?_eq_none h] at hjv; cases hjv
                rw [g5 (by omega)]; exact q2 j v hjv
              refine ⟨_, .str _, ?_⟩
              have hload := run_loadCells_list (P := P) w ⟨en.cb, o', none⟩ vs q2'
              rw [q1] at hload
              simp only [execOp, convert, Sem.run_bind, run_underlying hs, run_underlying hd, Result.andThen, hey, run_underlying he, Conv.bytesToString, hload]
              rw [List.forIn_toArray]
              rw [asBytes_run (P := P) (fun _ _ => rfl) ByteArray.empty w hbs q3]
              rfl
          · cases hv
        · cases hv
      · cases hv
    · cases hc
  · repeat' split at hc
    all_goals first | (cases hc; done) | (cases hc; simp [isRead] at hrd; done)
  · cases hc; simp [isRead] at hrd
  · cases hc

theorem snd_lenMap {t : TypeId} {y : Operand} {dk e : TypeId} {b : XOpd} (hR : Rel ρ A w) (hT : TRel ρ T a.tmps) (hu : P.underlying t = some (.map dk e)) (hb : cOpd y = some b) (hv : aread T A (.blenm b) = some v) {args : Array Operand} {ts : Array TypeId} (ha : args = #[y]) (hts : ts = #[t]) :
    ReadOk P ρ w a ⟨dst, .call ⟨.builtin .len, args, ts⟩, type, pos, after, guard⟩ v := by
  subst ha hts
  have hr := ev_rel hT hb
  unfold ReadOk
  simp only [execOp_builtin]
  simp only [aread] at hv
  split at hv
  · rename_i hj
    rw [hj] at hr
    cases hv
    generalize he : a.eval y = u at hr
    cases hr with
    | nilmap => exact ⟨_, .int _ _, by simp [builtin, Builtin.len_, run_underlying hu, he, goInt]⟩
  · rename_i bm hj
    rw [hj] at hr
    generalize he : a.eval y = u at hr
    cases hr with
    | map g1 =>
      split at hv
      · rename_i es clock hx
        cases hv
        obtain ⟨es', hh, m1, m2, m3⟩ := hR.blk _ _ _ g1 hx
        have hl : es.length = es'.size := by have := m1.1; simpa using this
        refine ⟨_, .int _ _, ?_⟩
        simp [builtin, Builtin.len_, run_underlying hu, he, getObj, Sem.run, hh, goInt, hl]
      · cases hv
  · cases hv


/-- An operation that only reads memory comes to what the executor says. -/
theorem read_sound {o : Oper} (hR : Rel ρ A w) (hT : TRel ρ T a.tmps) (hc : cOp P o.op = some x) (hp : isRead x = true) (hv : aread T A x = some v) : ReadOk P ρ w a o v := by
  obtain ⟨dst, op, type, pos, after, guard⟩ := o
  cases op with
  | load t y => exact snd_load hR hT hc hv
  | lookup t y z ok => exact snd_lookup hR hT hc hv
  | convert s d y => exact snd_bytesToString hR hT hc hp hv
  | call c =>
    obtain ⟨callee, args, ts⟩ := c
    cases callee with
    | builtin b =>
      replace hc : cBuiltin P b ts args.toList = some x := by simpa only [cOp] using hc
      unfold cBuiltin at hc
      split at hc
      · rename_i t y hts hargs
        split at hc
        · rename_i b' d hb hu
          split at hc
          · cases hc; simp [isRead] at hp
          · cases hc; simp [isRead] at hp
          · cases hc; simp [isRead] at hp
          · cases hc
            exact snd_lenMap hR hT hu hb hv (array_one hargs) (array_one hts)
          · cases hc
        · cases hc
      all_goals
        repeat' split at hc
        all_goals first
          | (cases hc; done)
          | (cases hc; simp [isRead] at hp; done)
    | value f =>
      simp only [cOp] at hc
      cases hcs : cOpds args.toList with
      | none => simp [hcs] at hc
      | some as =>
        simp only [hcs] at hc
        split at hc
        · cases hc; simp [isRead] at hp
        · rename_i h1 _
          cases h1
          split at hc
          · cases hc; simp [isRead] at hp
          · cases hc
        all_goals first | (cases hc; done) | (rename_i h1 _; cases h1; done) | (rename_i h1; cases h1; done) | contradiction
    | invoke r m =>
      simp only [cOp] at hc
      cases hcs : cOpds args.toList with
      | none => simp [hcs] at hc
      | some as =>
        simp only [hcs] at hc
        split at hc
        · cases hc; simp [isRead] at hp
        · cases hc
  | binOp op t y z yt =>
    simp only [cOp, cBin] at hc
    repeat' split at hc
    all_goals first
      | (cases hc; done)
      | (cases hc; simp [isRead] at hp; done)
  | _ =>
    simp only [cOp] at hc
    repeat' split at hc
    all_goals first
      | (cases hc; done)
      | (cases hc; simp [isRead] at hp; done)

end
end Ab
