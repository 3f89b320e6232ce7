/- Operations that turn memory, but calls. -/
import Derived.Test.YtdjhhdppeicpbaaAbFree
namespace Ab
open Go

def Gives (n : Next) (v : Value) : Prop := n = .value v ∨ (n = .skip ∧ v = undef)

def ChainOk (P : Program) (ρ : Ren) (A : AH) (w : World) (a : Act) (o : Oper) (v : AVal) (A' : AH) : Prop :=
  ∃ ρ' n v' w', (execOp a.eval o).run P w = .ok n w' ∧ Gives n v' ∧ VRel ρ' v v' ∧ Step ρ A w ρ' A' w'

theorem read_nan32 (n : Nat) (h1 : 2139095040 < n % 2147483648) : ∃ s f, Ieee.single.read n = .nan s f := by
  unfold Ieee.Format.read
  have e1 : Ieee.single.signWeight = 2147483648 := by decide
  have e2 : Ieee.single.binade = 8388608 := by decide
  have e3 : Ieee.single.infRung = 2139095040 := by decide
  simp only [e1, e2, e3]
  rw [if_neg (by omega), if_neg (by omega), if_neg (by omega)]
  exact ⟨_, _, rfl⟩

theorem read_nan64 (n : Nat) (h1 : 9218868437227405312 < n % 9223372036854775808) : ∃ s f, Ieee.double.read n = .nan s f := by
  unfold Ieee.Format.read
  have e1 : Ieee.double.signWeight = 9223372036854775808 := by decide
  have e2 : Ieee.double.binade = 4503599627370496 := by decide
  have e3 : Ieee.double.infRung = 9218868437227405312 := by decide
  simp only [e1, e2, e3]
  rw [if_neg (by omega), if_neg (by omega), if_neg (by omega)]
  exact ⟨_, _, rfl⟩

theorem nanBits_read (k : FloatKind) (x y t : Nat) : ∃ s f, k.format.read ((Question.nanBits k x y).cut t) = .nan s f := by
  cases k
  · refine read_nan32 _ ?_
    simp only [Question.cut]
    have h : t / 2 % (2 ^ 23 - 1) < 2 ^ 23 - 1 := Nat.mod_lt _ (by decide)
    have h2 : t % 2 = 0 ∨ t % 2 = 1 := by omega
    rcases h2 with h2 | h2 <;> rw [h2] <;> omega
  · refine read_nan64 _ ?_
    simp only [Question.cut]
    have h : t / 2 % (2 ^ 52 - 1) < 2 ^ 52 - 1 := Nat.mod_lt _ (by decide)
    have h2 : t % 2 = 0 ∨ t % 2 = 1 := by omega
    rcases h2 with h2 | h2 <;> rw [h2] <;> omega

theorem nan_orders {k : FloatKind} {n : Nat} (h : ∃ s f, k.format.read n = .nan s f) (m : Nat) : k.format.order n m = none ∧ k.format.order m n = none := by
  obtain ⟨s, f, h⟩ := h
  constructor
  · simp [Ieee.Format.order, h, Ieee.Datum.order]
  · simp only [Ieee.Format.order, h]
    cases k.format.read m <;> rfl

section
variable {P : Program} {ρ : Ren} {A A' : AH} {w : World} {T : List AVal} {a : Act} {dst : Option Tmp} {type : TypeId} {pos : String} {after : Array Edge} {guard : Option (Nat × Bool)} {v : AVal} {x : XOp}

theorem snd_store {t : TypeId} {y z : Operand} (hR : Rel ρ A w) (hT : TRel ρ T a.tmps) (hc : cOp P (.store t y z) = some x) (hv : achain T A x = some (v, A')) : ChainOk P ρ A w a ⟨dst, .store t y z, type, pos, after, guard⟩ v A' := by
  simp only [cOp] at hc
  split at hc
  · rename_i n p q hsh hp hq
    obtain ⟨d, i, hd, hi, hag, hsz⟩ := tyShape_inv hsh
    cases hc
    have hr := ev_rel hT hp
    have hr' := ev_rel hT hq
    simp only [achain] at hv
    split at hv
    · rename_i b o cs h1 h2
      rw [h1] at hr; rw [h2] at hr'
      split at hv
      · rename_i hl
        split at hv
        · rename_i A1 hw
          cases hv
          generalize he1 : a.eval y = u1 at hr
          generalize he2 : a.eval z = u2 at hr'
          cases hr with
          | ptr g1 =>
            cases hr' with
            | @agg _ us l1 p1 =>
              obtain ⟨w', e1, e2⟩ := hR.wr P g1 hw (VRels.of_agg (.agg l1 p1))
              refine ⟨ρ, .skip, undef, w', ?_, .inr ⟨rfl, rfl⟩, .tuple' .nil, e2⟩
              simp only [execOp, Instr.storeAt, he1, he2, Instr.sureAddr, Sem.run_bind, Sem.run_pure, Result.andThen, storeVar, rsizeOf hi]
              rw [if_neg (by simp only [Value.cells]; omega)]
              simp only [Value.cells, e1]
        · cases hv
      · cases hv
    · cases hv
  · rename_i p q hsh hp hq
    obtain ⟨d, i, hd, hi, hag, hsz⟩ := tyShape_inv hsh
    cases hc
    have hr := ev_rel hT hp
    have hr' := ev_rel hT hq
    simp only [achain] at hv
    split at hv
    · rename_i b o h1
      rw [h1] at hr
      split at hv
      · rename_i A1 hw
        cases hv
        generalize he1 : a.eval y = u1 at hr
        cases hr with
        | ptr g1 =>
          have hone : (ev T q).one = true := by
            unfold AH.wr1 at hw
            split at hw
            · split at hw
              · rename_i hc; simp only [Bool.and_eq_true] at hc; exact hc.2
              · cases hw
            · cases hw
          have hcells : (a.eval z).cells = #[a.eval z] := by
            have := hr'.one hone
            cases hz : a.eval z <;> rw [hz] at this <;> simp [Value.oneCell'] at this <;> rfl
          obtain ⟨w', e1, e2⟩ := hR.wr1 P g1 hw hr'
          refine ⟨ρ, .skip, undef, w', ?_, .inr ⟨rfl, rfl⟩, .tuple' .nil, e2⟩
          simp only [execOp, Instr.storeAt, he1, Instr.sureAddr, Sem.run_bind, Sem.run_pure, Result.andThen, storeVar, rsizeOf hi, hcells]
          rw [if_neg (by simp; omega)]
          simp only [e1]
      · cases hv
    · cases hv
  · cases hc

theorem snd_fbin {op : BinOp} {t yt : TypeId} {y z : Operand} (hR : Rel ρ A w) (hT : TRel ρ T a.tmps) {p q : XOpd} (hp : cOpd y = some p) (hq : cOpd z = some q) (hv : achain T A (.fbin op p q) = some (v, A')) : ChainOk P ρ A w a ⟨dst, .binOp op t y z yt, type, pos, after, guard⟩ v A' := by
  have hr := ev_rel hT hp
  have hr' := ev_rel hT hq
  simp only [achain] at hv
  split at hv
  · rename_i k m k' n h1 h2
    rw [h1] at hr; rw [h2] at hr'
    have hr := vrel_float hr
    have hr' := vrel_float hr'
    split at hv
    · rename_i hk; subst hk
      split at hv
      · rename_i u hu
        cases hv
        have key : ∀ r : Option Nat, v = nanOr k r → (∀ w, (Op.floatArith op k m n).run P w = (match r with | some r => Result.ok (Value.float k r) w | none => Result.ok (.float k ((Question.nanBits k m n).cut (w.tape w.drawn (.nanBits k m n)))) w.drew)) → ChainOk P ρ A w a ⟨dst, .binOp op t y z yt, type, pos, after, guard⟩ v A := by
          intro r hvr hrun
          have hexec : (execOp a.eval ⟨dst, .binOp op t y z yt, type, pos, after, guard⟩).run P w = ((Op.floatArith op k m n).run P w).andThen fun u w' => .ok (.value u) w' := by
            simp only [execOp, Sem.run_bind, hr, hr']
            rw [eqGuard_left (by simp) (by simp)]
            simp only [Sem.run_pure, Result.andThen, binOp]
            cases op <;> simp [floatAr] at hu <;> simp
          cases r with
          | some r =>
            refine ⟨ρ, _, .float k r, w, ?_, .inl rfl, ?_, Step.refl hR⟩
            · rw [hexec, hrun]; rfl
            · rw [hvr]; exact .float _ _
          | none =>
            refine ⟨ρ, _, .float k ((Question.nanBits k m n).cut (w.tape w.drawn (.nanBits k m n))), w.drew, ?_, .inl rfl, ?_, Step.drew hR⟩
            · rw [hexec, hrun]; rfl
            · rw [hvr]
              exact .nan _ _ fun m' => nan_orders (nanBits_read k m n _) m'
        cases op <;> simp only [floatAr] at hu <;> (try (cases hu; done)) <;> cases hu
        all_goals
          refine key _ rfl fun w => ?_
          simp only [Op.floatArith, Sem.run_bind, Sem.run_pure, Result.andThen]
          split
          · rename_i heq; rw [heq]; rfl
          · rename_i heq; rw [heq]; simp [choose, Sem.run, Question.forced]
      · cases hv
    · cases hv
  · cases hv


theorem Rel.congrA {A A' : AH} (hg : ∀ j, A'.get j = A.get j) (hn : A'.next = A.next) (h : Rel ρ A w) : Rel ρ A' w :=
  ⟨fun b e x hb hx => h.blk b e x hb (by rw [← hg]; exact hx), fun b b' e e' x x' h1 h2 h3 h4 h5 h6 => h.inj b b' e e' x x' h1 h2 h3 (by rw [← hg]; exact h4) (by rw [← hg]; exact h5) h6,
    fun b hb => h.fresh b (by rw [← hn]; exact hb), fun b hb => by rw [hg]; exact h.freshA b (by rw [← hn]; exact hb)⟩

theorem Step.congrA {ρ ρ' : Ren} {A A1 A2 : AH} {w w' : World} (hg : ∀ j, A2.get j = A1.get j) (hn : A2.next = A1.next) (h : Step ρ A w ρ' A1 w') : Step ρ A w ρ' A2 w' :=
  ⟨h.le, by rw [hn]; exact h.next, h.size, h.old, fun c o hc ⟨b, e, x, h1, h2, h3, h4⟩ => h.own c o hc ⟨b, e, x, h1, by rw [← hg]; exact h2, h3, h4⟩, fun b hb hb' => by rw [hg]; exact h.hole b hb hb', h.os, h.tape, h.output, Rel.congrA hg hn h.rel⟩

theorem Rel.turn_same {w' : World} (h : Rel ρ A w) {b : Nat} {e : Ent} {x : ABlk} (hb : ρ b = some e) (hx : A.get b = some x) (hown : x.own = true)
    (ht : Turned e.cb w w') (hn : BRel ρ e x w') : Step ρ A w ρ A w' :=
  Step.congrA (A1 := A.set b x) (A2 := A) (fun j => by rw [AH.get_set]; split <;> simp_all) rfl (h.turn hb hx hown ht hn)

theorem freeze_turned (w : World) (p : Addr) (n : Nat) : Turned p.block w (w.freeze p n) := by
  unfold World.freeze
  split
  · exact .refl _ _
  · exact ⟨by simp, fun k hk => by simp only [Array.getElem?_modify]; rw [if_neg (fun h => hk h.symm)], rfl, rfl, rfl⟩

theorem snd_cvid {s d : TypeId} {y : Operand} {b : XOpd} {e e' : TypeId} (hR : Rel ρ A w) (hT : TRel ρ T a.tmps) (hb : cOpd y = some b) (hs : P.underlying s = some (.slice e')) (hd : P.underlying d = some (.slice e)) (he : P.underlying e = some (.int .u8)) (hsd : (s == d) = true)
    (hv : achain T A (.cvid b) = some (v, A')) : ChainOk P ρ A w a ⟨dst, .convert s d y, type, pos, after, guard⟩ v A' := by
  have hr := ev_rel hT hb
  simp only [achain] at hv
  split at hv
  · rename_i c o len cap lx h1
    rw [h1] at hr
    split at hv
    · rename_i cs hx
      split at hv
      · cases hv
        generalize hey : a.eval y = u at hr
        cases hr with
        | @slice _ _ o' _ _ _ cap' en g1 g0 g2 g3 g4 g5 =>
          obtain ⟨cc, el, fz, hh, c1, c2, c3, c4⟩ := hR.blk _ _ _ g1 hx
          have hshape : w.shape? en.cb = some (el, cc.size) := by simp [World.shape?, hh]
          have hstep : Step ρ A w ρ A (w.freeze ⟨en.cb, cc.size, none⟩ 1) := by
            refine hR.turn_same g1 hx rfl (freeze_turned w ⟨en.cb, cc.size, none⟩ 1) ⟨cc, el, if fz.1 == fz.2 then (cc.size, cc.size + 1) else (min fz.1 cc.size, max fz.2 (cc.size + 1)), ?_, c1, fun _ => ?_, c3, c4⟩
            · simp [World.freeze, Array.getElem?_modify, hh]
            · have := c2 rfl
              split
              · exact .inr (by simp [c1])
              · rename_i hne
                simp only [beq_iff_eq] at hne
                right
                simp only [c1]
                omega
          refine ⟨ρ, _, .slice (some ⟨en.cb, o', none⟩) len cap', w.freeze ⟨en.cb, cc.size, none⟩ 1, ?_, .inl rfl, .slice g1 g0 g2 g3 g4 g5, hstep⟩
          simp only [execOp, convert, Sem.run_bind, run_underlying hs, run_underlying hd, Result.andThen, hey, run_underlying he, hsd, markStringish, run_shape, hshape, run_freeze, Sem.run_pure]
      · cases hv
    · cases hv
  · cases hv

theorem setObj_turned (w : World) (r : Nat) (ob : Obj) : Turned r w { w with heap := w.heap.setIfInBounds r ob } :=
  ⟨by simp, fun k hk => by simp only [Array.getElem?_setIfInBounds]; rw [if_neg (fun h => hk h.symm)], rfl, rfl, rfl⟩

theorem run_setObj_map {r : Nat} {es : Array MapEntry} {clock : Nat} (hh : w.heap[r]? = some (.map es clock)) (ob : Obj) : (setObj r ob).run P w = .ok () { w with heap := w.heap.setIfInBounds r ob } := by
  simp [setObj, Sem.run, hh]

theorem run_getObj_map {r : Nat} {es : Array MapEntry} {clock : Nat} (hh : w.heap[r]? = some (.map es clock)) : (getObj r).run P w = .ok (.map es clock) w := by
  simp [getObj, Sem.run, hh]

theorem keyEq_true {ki : Bool} {k k' : AVal} {u u' : Value} (h : keyEq ki k k' = some true) (hk : VRel ρ k u) (hk' : VRel ρ k' u') : Instr.sameBits 10000 u' u = true := by
  unfold keyEq at h
  split at h
  · cases vrel_int hk; cases vrel_int hk'
    split at h
    · rename_i hkk; subst hkk
      simp at h; subst h
      simp [Instr.sameBits]
    · cases h
  · cases vrel_str hk; cases vrel_str hk'
    replace h := Option.some.inj h
    rw [beq_toListBytes] at h
    simp only [Instr.sameBits]
    rw [beq_toListBytes]
    simp only [beq_iff_eq] at h ⊢
    exact h.symm
  · cases h

theorem list_set_self {α : Type} {l : List α} {i : Nat} {x : α} (h : l[i]? = some x) : l.set i x = l := by
  apply List.ext_getElem?
  intro j
  rw [List.getElem?_set]
  by_cases hj : i = j
  · subst hj
    rw [if_pos rfl]
    split
    · exact h.symm
    · rename_i hn; rw [List.getElem?_eq_none (by omega)]
  · rw [if_neg hj]

theorem map_modify {α β : Type} (f : α → β) (g : α → α) (l : List α) (i : Nat) : (l.modify i g).map f = match l[i]? with | some x => (l.map f).set i (f (g x)) | none => l.map f := by
  apply List.ext_getElem?
  intro j
  rw [List.getElem?_map, List.getElem?_modify]
  cases hl : l[i]? with
  | none =>
    rw [List.getElem?_map]
    by_cases hj : i = j
    · subst hj; simp [hl]
    · simp [hj]
  | some x =>
    have hi : i < l.length := by
      rcases Nat.lt_or_ge i l.length with h | h
      · exact h
      · rw [List.getElem?_eq_none h] at hl; cases hl
    simp only [List.getElem?_set, List.getElem?_map, List.length_map]
    by_cases hj : i = j
    · subst hj
      have hx : l[i] = x := by rw [List.getElem?_eq_getElem hi] at hl; cases hl; rfl
      simp [hi, hx]
    · simp [hj]

theorem snd_mapUpdate {t : TypeId} {y z u : Operand} (hR : Rel ρ A w) (hT : TRel ρ T a.tmps) (hc : cOp P (.mapUpdate t y z u) = some x) (hv : achain T A x = some (v, A')) : ChainOk P ρ A w a ⟨dst, .mapUpdate t y z u, type, pos, after, guard⟩ v A' := by
  simp only [cOp] at hc
  split at hc
  · rename_i kt e b c d hu hb hcz hdu
    split at hc
    · rename_i ki hki
      cases hc
      obtain ⟨dk, hdk⟩ := keyKind_inv hki
      have hr := ev_rel hT hb
      have hrk := ev_rel hT hcz
      have hrv := ev_rel hT hdu
      simp only [achain] at hv
      split at hv
      · rename_i bm hj
        rw [hj] at hr
        generalize he : a.eval y = uu at hr
        cases hr with
        | @map _ en g1 =>
          split at hv
          · rename_i es clock hx
            obtain ⟨es', hh, m1, m2, m3⟩ := hR.blk _ _ _ g1 hx
            split at hv
            · cases hv
            · split at hv
              · rename_i j vv hf
                cases hv
                obtain ⟨r', q1, q2, q3⟩ := findKey_sound hki hdk hrk es es'.toList 0 _ m1 m2 hf
                obtain ⟨_, hjl, v', rfl, hvv, g, g', f5, f6, f7⟩ := q3 j vv rfl
                simp only [Nat.sub_zero] at f5 f6 hjl
                have hbits := keyEq_true f7 hrk (m1.2 j g.1 g'.key (by simp [f5]) (by simp [f6]))
                refine ⟨ρ, .skip, undef, { w with heap := w.heap.setIfInBounds en.cb (.map (es'.modify j fun m => { m with key := a.eval z, val := a.eval u }) clock) }, ?_, .inr ⟨rfl, rfl⟩, .tuple' .nil,
                  hR.turn g1 hx rfl (setObj_turned _ _ _) ⟨es'.modify j fun m => { m with key := a.eval z, val := a.eval u }, ?_, ?_, ?_, ?_⟩⟩
                · have f6' : es'[j]? = some g' := by simpa using f6
                  simp only [execOp, Instr.mapUpdate, Sem.run_bind, run_underlying hu, Result.andThen, he, run_getObj_map hh, run_checkKey hki, Instr.findKey, run_underlying hdk, q1, Sem.run_pure, f6', Option.map_some, Option.getD_some, Instr.keyThatStays, hbits, if_true, run_setObj_map hh]
                · have := lt_size_of_getElem? hh
                  simp [this]
                · rw [Array.toList_modify, map_modify, map_modify, f5, f6]
                  exact m1.set j hrk
                · rw [Array.toList_modify, map_modify, map_modify, f5, f6]
                  exact m2.set j hrv
                · rw [Array.toList_modify, map_modify, map_modify, f5, f6]
                  simp only
                  have e1 : (es.map (·.2.2))[j]? = some g.2.2 := by simp [f5]
                  have e2 : (es'.toList.map (·.born))[j]? = some g'.born := by simp [f6]
                  rw [list_set_self e1, list_set_self e2]
                  exact m3
              · rename_i hf
                cases hv
                obtain ⟨r', q1, q2, q3⟩ := findKey_sound hki hdk hrk es es'.toList 0 _ m1 m2 hf
                have := q2 rfl; subst this
                refine ⟨ρ, .skip, undef, { w with heap := w.heap.setIfInBounds en.cb (.map (es'.push { key := a.eval z, val := a.eval u, born := clock }) (clock + 1)) }, ?_, .inr ⟨rfl, rfl⟩, .tuple' .nil,
                  hR.turn g1 hx rfl (setObj_turned _ _ _) ⟨es'.push { key := a.eval z, val := a.eval u, born := clock }, ?_, ?_, ?_, ?_⟩⟩
                · simp only [execOp, Instr.mapUpdate, Sem.run_bind, run_underlying hu, Result.andThen, he, run_getObj_map hh, run_checkKey hki, Instr.findKey, run_underlying hdk, q1, Sem.run_pure, run_setObj_map hh]
                · have := lt_size_of_getElem? hh
                  simp [this]
                · simpa using m1.append (.cons hrk .nil)
                · simpa using m2.append (.cons hrv .nil)
                · simpa using m3
              · cases hv
          · cases hv
      · cases hv
    · cases hc
  · cases hc

end
end Ab
