/- Operations that look at no memory. -/
import Derived.Test.YtdjhhdppeicpbaaAbMem
import Derived.Laws.StructEq
namespace Ab
open Go

def PureOk (P : Program) (ρ : Ren) (a : Act) (o : Oper) (v : AVal) : Prop :=
  ∃ v', VRel ρ v v' ∧ ∀ w, (execOp a.eval o).run P w = .ok (.value v') w

section
variable {P : Program} {ρ : Ren} {T : List AVal} {a : Act} {dst : Option Tmp} {type : TypeId} {pos : String} {after : Array Edge} {guard : Option (Nat × Bool)} {v : AVal} {x : XOp}

theorem snd_move {y : Operand} (hT : TRel ρ T a.tmps) (hc : cOp P (.move y) = some x) (hv : apure T x = some v) : PureOk P ρ a ⟨dst, .move y, type, pos, after, guard⟩ v := by
  simp only [cOp] at hc
  split at hc
  · rename_i z hz
    cases hc
    simp only [apure] at hv; cases hv
    exact ⟨_, ev_rel hT hz, fun w => rfl⟩
  · cases hc

theorem snd_assign {y : Operand} (hT : TRel ρ T a.tmps) (hc : cOp P (.assign y) = some x) (hv : apure T x = some v) : PureOk P ρ a ⟨dst, .assign y, type, pos, after, guard⟩ v := by
  simp only [cOp] at hc
  split at hc
  · rename_i z hz
    cases hc
    simp only [apure] at hv; cases hv
    exact ⟨_, ev_rel hT hz, fun w => rfl⟩
  · cases hc

theorem vrel_bool {ρ : Ren} {b : Bool} {v : Value} (h : VRel ρ (.bool b) v) : v = .bool b := by cases h; rfl
theorem vrel_int {ρ : Ren} {k : IntKind} {n : Int} {v : Value} (h : VRel ρ (.int k n) v) : v = .int k n := by cases h; rfl
theorem vrel_str {ρ : Ren} {s : ByteArray} {v : Value} (h : VRel ρ (.str s) v) : v = .string s := by cases h; rfl
theorem vrel_float {ρ : Ren} {k : FloatKind} {n : Nat} {v : Value} (h : VRel ρ (.float k n) v) : v = .float k n := by cases h; rfl

theorem snd_pick {c y z : Operand} (hT : TRel ρ T a.tmps) (hc : cOp P (.pick c y z) = some x) (hv : apure T x = some v) : PureOk P ρ a ⟨dst, .pick c y z, type, pos, after, guard⟩ v := by
  simp only [cOp] at hc
  split at hc
  · rename_i c' y' z' h1 h2 h3
    cases hc
    simp only [apure] at hv
    split at hv
    · rename_i t ht
      have hcv := ev_rel hT h1
      rw [ht] at hcv
      have hcv := vrel_bool hcv
      cases hv
      refine ⟨if t then a.eval y else a.eval z, ?_, fun w => ?_⟩
      · cases t
        · exact ev_rel hT h3
        · exact ev_rel hT h2
      · simp only [execOp, hcv, asBool]
        cases t <;> rfl
    · cases hv
  · cases hc

theorem afill_sound {place : Nat → Option (Nat × Nat)} (hT : TRel ρ T a.tmps) : ∀ {ps : List (Nat × Operand)} {qs : List (Nat × Nat × XOpd)} {cs out : List AVal} {vs : Array Value},
    cParts place ps = some qs → afill T cs qs = some out → VRels ρ cs vs.toList → ∃ vs', Instr.fill place vs (ps.map fun (i, x) => (i, a.eval x)) = some vs' ∧ VRels ρ out vs'.toList
  | [], qs, cs, out, vs, hc, hf, hr => by
    simp [cParts] at hc; subst hc
    simp [afill] at hf; subst hf
    exact ⟨vs, rfl, hr⟩
  | (i, y) :: ps, qs, cs, out, vs, hc, hf, hr => by
    simp only [cParts] at hc
    split at hc
    · rename_i off size z qs' h1 h2 h3
      cases hc
      simp only [afill] at hf
      split at hf
      · cases hf
      · rename_i hj
        split at hf
        · rename_i hl
          simp only [Bool.and_eq_true, decide_eq_true_eq] at hl
          have hcell := (ev_rel hT h2).cells (by simpa using hj)
          have hlen := hcell.1
          have hsz : (a.eval y).cells.size = size := by rw [← hl.1, hlen]; simp
          have hvl := hr.1
          have hstep : VRels ρ (patch cs off (ev T z).cells) ((a.eval y).cells.zipIdx.foldl (fun cs (c, j) => cs.setIfInBounds (off + j) c) vs).toList := by
            have key : ∀ (l : List Value) (k : Nat) (vs : Array Value), off + k + l.length ≤ vs.size →
                ((l.zipIdx k).foldl (fun (cs : Array Value) (c, j) => cs.setIfInBounds (off + j) c) vs).toList = spliceV vs.toList (off + k) l := by
              intro l
              induction l with
              | nil => intro k vs _; simp [spliceV_nil]
              | cons u l ih =>
                intro k vs hk
                simp only [List.length_cons] at hk
                simp only [List.zipIdx_cons, List.foldl_cons]
                rw [ih (k + 1) _ (by simp; omega), Array.toList_setIfInBounds, ← Nat.add_assoc, spliceV_cons _ _ _ _ (by simp; omega)]
            have : ((a.eval y).cells.zipIdx.foldl (fun (cs : Array Value) (c, j) => cs.setIfInBounds (off + j) c) vs).toList = spliceV vs.toList off (a.eval y).cells.toList := by
              rw [← Array.foldl_toList, Array.toList_zipIdx]
              exact key _ 0 vs (by
                have : (a.eval y).cells.toList.length = size := by simpa using hsz
                have : vs.toList.length = vs.size := by simp
                omega)
            rw [this, patch_eq]
            exact hr.splice off hcell
          obtain ⟨vs', e1, e2⟩ := afill_sound hT h3 hf hstep
          refine ⟨vs', ?_, e2⟩
          simp only [List.map_cons, Instr.fill, h1]
          rw [if_neg]
          · exact e1
          · have : vs.toList.length = vs.size := by simp
            simp [hsz]; omega
        · cases hf
    · cases hc


theorem rtypeInfo {t : TypeId} {i : TypeInfo} (h : P.info? t = some i) (w : World) : (typeInfo t).run P w = .ok i w := by simp [typeInfo, h]
theorem rsizeOf {t : TypeId} {i : TypeInfo} (h : P.info? t = some i) (w : World) : (Go.sizeOf t).run P w = .ok i.size w := by simp [Go.sizeOf, rtypeInfo h]
theorem rzeroValue {t : TypeId} {i : TypeInfo} {z : Value} (h : P.info? t = some i) (hz : i.zero = some z) (w : World) : (zeroValue t).run P w = .ok z w := by simp [zeroValue, rtypeInfo h, hz]
theorem risAgg {t : TypeId} {d : TypeDesc} (h : P.underlying t = some d) (w : World) : (isAgg t).run P w = .ok (isAggD d) w := by
  simp only [isAgg, Sem.run_bind, run_underlying h, Result.andThen]
  cases d <;> rfl

theorem tyShape_inv {t : TypeId} {ag : Bool} {n : Nat} (h : tyShape P t = some (ag, n)) : ∃ d i, P.underlying t = some d ∧ P.info? t = some i ∧ ag = isAggD d ∧ n = i.size := by
  unfold tyShape at h
  split at h
  · rename_i d i h1 h2
    cases h
    exact ⟨d, i, h1, h2, rfl, rfl⟩
  · cases h

theorem tyZeroCells_inv {t : TypeId} {zs : List AVal} (h : tyZeroCells P t = some zs) : ∃ i z, P.info? t = some i ∧ i.zero = some z ∧ cVals z.cells.toList = some zs := by
  unfold tyZeroCells at h
  split at h
  · rename_i i h1
    split at h
    · rename_i z hz; exact ⟨i, z, h1, hz, h⟩
    · cases h
  · cases h

theorem tyZero_inv {t : TypeId} {za : AVal} (h : tyZero P t = some za) : ∃ i z, P.info? t = some i ∧ i.zero = some z ∧ cVal z = some za := by
  unfold tyZero at h
  split at h
  · rename_i i h1
    split at h
    · rename_i z hz; exact ⟨i, z, h1, hz, h⟩
    · cases h
  · cases h

theorem run_fieldPlaces : ∀ {fs : List Field} {pl : List (Nat × Nat)}, fieldPlaces P fs = some pl → ∀ w : World,
    (fs.mapM (fun f => (do pure (f.offset, ← Go.sizeOf f.type) : Sem (Nat × Nat)))).run P w = .ok pl w
  | [], pl, h, w => by simp [fieldPlaces] at h; subst h; rfl
  | f :: fs, pl, h, w => by
    simp only [fieldPlaces] at h
    split at h
    · rename_i i ps h1 h2
      cases h
      simp only [List.mapM_cons, Sem.run_bind, rsizeOf h1, Result.andThen, Sem.run_pure, run_fieldPlaces h2]
    · cases h

theorem snd_build {t : TypeId} {ps : Array (Nat × Operand)} (hT : TRel ρ T a.tmps) (hc : cOp P (.build t ps) = some x) (hv : apure T x = some v) : PureOk P ρ a ⟨dst, .build t ps, type, pos, after, guard⟩ v := by
  simp only [cOp] at hc
  split at hc
  · rename_i fs zs hu hz
    obtain ⟨i, z, hi, hiz, hzs⟩ := tyZeroCells_inv hz
    split at hc
    · rename_i pl hpl
      split at hc
      · rename_i qs hq
        cases hc
        simp only [apure] at hv
        split at hv
        · rename_i cs hcs
          cases hv
          obtain ⟨vs', e1, e2⟩ := afill_sound hT hq hcs (cVals_rel hzs ρ)
          refine ⟨.agg vs', .agg' e2, fun w => ?_⟩
          have hm := run_fieldPlaces hpl w
          simp only [execOp, Instr.build, Sem.run_bind, rzeroValue hi hiz, run_underlying hu, Result.andThen, Array.mapM_eq_mapM_toList, Sem.run_map, hm]
          simp only [Array.toList_map, List.getElem?_toArray, e1, Sem.run_pure]
        · cases hv
      · cases hc
    · cases hc
  · rename_i n e zs hu hz
    obtain ⟨i, z, hi, hiz, hzs⟩ := tyZeroCells_inv hz
    split at hc
    · rename_i ei hei
      split at hc
      · rename_i qs hq
        cases hc
        simp only [apure] at hv
        split at hv
        · rename_i cs hcs
          cases hv
          obtain ⟨vs', e1, e2⟩ := afill_sound hT hq hcs (cVals_rel hzs ρ)
          refine ⟨.agg vs', .agg' e2, fun w => ?_⟩
          simp only [execOp, Instr.build, Sem.run_bind, rzeroValue hi hiz, run_underlying hu, Result.andThen, rsizeOf hei, Array.toList_map, e1, Sem.run_pure]
        · cases hv
      · cases hc
    · cases hc
  · cases hc

theorem snd_nilCheck {y : Operand} (hT : TRel ρ T a.tmps) (hc : cOp P (.nilCheck y) = some x) (hv : apure T x = some v) : PureOk P ρ a ⟨dst, .nilCheck y, type, pos, after, guard⟩ v := by
  simp only [cOp] at hc
  split at hc
  · rename_i z hz
    cases hc
    have hr := ev_rel hT hz
    simp only [apure] at hv
    split at hv
    · rename_i b o hb
      cases hv; rw [hb] at hr
      generalize hy : a.eval y = u at hr
      cases hr with
      | ptr hb' => exact ⟨_, .ptr hb', fun w => by simp only [execOp, hy, Sem.run_pure]⟩
    · rename_i f cs hb
      cases hv; rw [hb] at hr
      generalize hy : a.eval y = u at hr
      cases hr with
      | func hl hp => exact ⟨_, .func hl hp, fun w => by simp only [execOp, hy, Sem.run_pure]⟩
    · rename_i t u hb
      cases hv; rw [hb] at hr
      generalize hy : a.eval y = u at hr
      cases hr with
      | iface h => exact ⟨_, .iface h, fun w => by simp only [execOp, hy, Sem.run_pure]⟩
    · cases hv
  · cases hc

theorem run_intBin {op : BinOp} {t : TypeId} {k : IntKind} {p q : Int} {v : AVal} (h : intBin op k p q = some v) (h1 : op ≠ .shl) (h2 : op ≠ .shr) : ∃ u, VRel ρ v u ∧ ∀ w, (binOp op t (.int k p) (.int k q)).run P w = .ok u w := by
  cases op <;> simp only [intBin] at h <;> first
    | (exact absurd rfl h1)
    | (exact absurd rfl h2)
    | (cases h; exact ⟨_, .int _ _, fun w => by simp [binOp, Op.intArith, Op.intBits]⟩)
    | (cases h; exact ⟨_, .bool _, fun w => by simp [binOp, Op.intCmp]⟩)
    | (split at h
       · cases h
       · rename_i h0; cases h; exact ⟨_, .int _ _, fun w => by simp [binOp, Op.intDiv, h0]⟩)
    | cases h

theorem run_strBin {op : BinOp} {t : TypeId} {p q : ByteArray} {v : AVal} (h : strBin op p q = some v) : ∃ u, VRel ρ v u ∧ ∀ w, (binOp op t (.string p) (.string q)).run P w = .ok u w := by
  cases op <;> simp only [strBin] at h <;> first
    | (cases h; exact ⟨_, .bool _, fun w => by simp [binOp, Op.stringOp]⟩)
    | (split at h
       · cases h
       · rename_i h0; cases h; exact ⟨_, .str _, fun w => by simp at h0; simp [binOp, Op.stringOp]; omega⟩)
    | cases h


theorem run_floatCmp {op : BinOp} {t : TypeId} {k : FloatKind} {p q : Nat} {v : AVal} (h : floatCmp op (k.format.order p q) = some v) : ∃ u, VRel ρ v u ∧ ∀ w, (binOp op t (.float k p) (.float k q)).run P w = .ok u w := by
  cases op <;> simp only [floatCmp] at h <;> first
    | (cases h; exact ⟨_, .bool _, fun w => by simp [binOp, Op.floatCmp]⟩)
    | cases h

theorem nan_order {k : FloatKind} {v : Value} (h : VRel ρ (.nan k) v) : ∃ n, v = .float k n ∧ ∀ m, k.format.order n m = none ∧ k.format.order m n = none := by
  cases h with
  | nan k n hn => exact ⟨n, rfl, hn⟩

theorem abin_sound {op : BinOp} {t : TypeId} {y z : AVal} {vy vz : Value} {v : AVal} (h : abin op y z = some v) (hy : VRel ρ y vy) (hz : VRel ρ z vz) :
    ∃ u, VRel ρ v u ∧ ∀ w, (binOp op t vy vz).run P w = .ok u w := by
  unfold abin at h
  split at h
  · rename_i k p k' q
    cases vrel_int hy; cases vrel_int hz
    split at h
    · split at h
      · cases h
      · rename_i h0; cases h
        exact ⟨_, .int _ _, fun w => by simp [binOp, Op.shift, h0]⟩
    · split at h
      · cases h
      · rename_i h0; cases h
        exact ⟨_, .int _ _, fun w => by simp [binOp, Op.shift, h0]⟩
    · rename_i op h1 h2
      split at h
      · rename_i hk; subst hk; exact run_intBin h h1 h2
      · cases h
  · cases vrel_float hy; cases vrel_float hz
    split at h
    · rename_i hk; subst hk; exact run_floatCmp h
    · cases h
  · cases vrel_float hz
    obtain ⟨n, rfl, hn⟩ := nan_order hy
    split at h
    · rename_i hk; subst hk
      rw [← (hn _).1] at h
      exact run_floatCmp h
    · cases h
  · cases vrel_float hy
    obtain ⟨n, rfl, hn⟩ := nan_order hz
    split at h
    · rename_i hk; subst hk
      rw [← (hn _).2] at h
      exact run_floatCmp h
    · cases h
  · obtain ⟨n, rfl, hn⟩ := nan_order hy
    obtain ⟨m, rfl, hm⟩ := nan_order hz
    split at h
    · rename_i hk; subst hk
      rw [← (hn m).1] at h
      exact run_floatCmp h
    · cases h
  · cases vrel_str hy; cases vrel_str hz
    exact run_strBin h
  · cases h


theorem eqGuard_left {op : BinOp} {t : TypeId} {y z : Operand} {u v : Value} (h1 : u ≠ .nilIface) (h2 : ∀ cs, u ≠ .agg cs) : eqGuard op t y z u v = pure () := by
  unfold eqGuard
  cases op <;> simp only [Bool.not_true, Bool.not_false, if_true] <;> (try rfl)
  all_goals
    cases u <;> first
      | rfl
      | exact absurd rfl h1
      | exact absurd rfl (h2 _)

theorem vrel_plain {y : AVal} {u : Value} (h : VRel ρ y u) (hj : y.isJunk = false) : (u = .nilIface → y = .nilIface) ∧ ((∃ cs, u = .agg cs) → ∃ ds, y = .agg ds) := by
  cases h <;> simp [AVal.isJunk] at hj ⊢

theorem abin_plain {op : BinOp} {y z : AVal} {v : AVal} (h : abin op y z = some v) : y.isJunk = false ∧ y ≠ .nilIface ∧ ∀ cs, y ≠ .agg cs := by
  unfold abin at h
  split at h <;> first
    | (cases h; done)
    | (refine ⟨rfl, by simp, by simp⟩)

/-- What nil is, of a kind. -/
def nilOf : Nat → Value
  | 0 => .pointer none
  | 1 => .slice none 0 0
  | 2 => .map none
  | 3 => .nilFunc
  | _ => .nilIface

theorem nil_right (n : Nat) {t : TypeId} {d : TypeDesc} {k : Nat} {y : AVal} {u : Value} {b : Bool} (hu : P.underlying t = some d) (hk : nilKind d = some k) (hy : VRel ρ y u) (hb : y.nil? k = some b) (w : World) :
    (Op.equalIn (n + 1) t u (nilOf k)).run P w = .ok b w ∧ (Op.equalIn (n + 1) t (nilOf k) u).run P w = .ok b w := by
  cases d <;> simp only [nilKind] at hk <;> cases hk
  all_goals
    simp only [nilOf]
    cases hy <;> simp [AVal.nil?] at hb <;> subst hb <;> simp [Op.equalIn, run_underlying hu]

theorem constNil_inv {k : Nat} {y : Operand} (h : constNil k y = true) : y = .const (nilOf k) := by
  unfold constNil at h
  split at h <;> first | rfl | cases h

theorem nil_ne {k : Nat} {y : AVal} {b : Bool} (h : y.nil? k = some b) : y.isJunk = false ∧ (∀ cs, y ≠ .agg cs) ∧ (∀ k n, y ≠ .int k n) ∧ (∀ k n, y ≠ .float k n) ∧ (∀ k, y ≠ .nan k) ∧ (∀ s, y ≠ .str s) := by
  refine ⟨?_, ?_, ?_, ?_, ?_, ?_⟩
  · cases y <;> first | rfl | (simp [AVal.nil?] at h)
  all_goals (intros; intro e; subst e; simp [AVal.nil?] at h)

theorem eqGuard_nil {op : BinOp} {t : TypeId} {c : Value} {z : Operand} {u v : Value} (h2 : ∀ cs, u ≠ .agg cs) : eqGuard op t (.const c) z u v = pure () ∧ eqGuard op t z (.const c) u v = pure () := by
  constructor
  · unfold eqGuard
    cases op <;> (try rfl)
    all_goals
      cases u <;> first
        | rfl
        | exact absurd rfl (h2 _)
        | (cases v <;> rfl)
  · unfold eqGuard
    cases op <;> (try rfl)
    all_goals
      cases u <;> first
        | rfl
        | exact absurd rfl (h2 _)
        | (cases v <;> (try rfl) <;> cases z <;> rfl)

theorem eqGuard_right {op : BinOp} {t : TypeId} {z y : Operand} {k : Nat} {v : Value} (hc : y = .const (nilOf k)) : eqGuard op t y z (nilOf k) v = pure () := by
  subst hc
  exact (eqGuard_nil (z := z) (c := nilOf k) (v := v) (fun cs h => by unfold nilOf at h; split at h <;> cases h)).1

theorem run_eqlneq {op : BinOp} {t : TypeId} {neg : Bool} (hop : op = if neg then .neq else .eql) {u v : Value} {b : Bool} {w : World} (h : (Op.equalIn 10000 t u v).run P w = .ok b w)
    (hi : ∀ k n k' n', ¬ (u = .int k n ∧ v = .int k' n')) (hf : ∀ k n k' n', ¬ (u = .float k n ∧ v = .float k' n')) (hcx : ∀ k n m k' n' m', ¬ (u = .complex k n m ∧ v = .complex k' n' m')) (hs : ∀ s s', ¬ (u = .string s ∧ v = .string s')) :
    (binOp op t u v).run P w = .ok (.bool (b != neg)) w := by
  have key : ∀ c : Bool, (c = false → (binOp .eql t u v).run P w = .ok (.bool b) w) ∧ (c = true → (binOp .neq t u v).run P w = .ok (.bool (!b)) w) := by
    intro c
    constructor
    · intro _
      unfold binOp
      split <;> first
        | (rename_i h1 h2; exact absurd ⟨rfl, rfl⟩ (hi _ _ _ _))
        | (exact absurd ⟨rfl, rfl⟩ (hi _ _ _ _))
        | (exact absurd ⟨rfl, rfl⟩ (hf _ _ _ _))
        | (exact absurd ⟨rfl, rfl⟩ (hcx _ _ _ _ _ _))
        | (exact absurd ⟨rfl, rfl⟩ (hs _ _))
        | (simp only [Sem.run_bind, Op.equal, Op.maxDepth, h, Result.andThen, Sem.run_pure]; done)
        | (exfalso; simp_all; done)
        | skip
    · intro _
      unfold binOp
      split <;> first
        | (exact absurd ⟨rfl, rfl⟩ (hi _ _ _ _))
        | (exact absurd ⟨rfl, rfl⟩ (hf _ _ _ _))
        | (exact absurd ⟨rfl, rfl⟩ (hcx _ _ _ _ _ _))
        | (exact absurd ⟨rfl, rfl⟩ (hs _ _))
        | (simp only [Sem.run_bind, Op.equal, Op.maxDepth, h, Result.andThen, Sem.run_pure]; done)
        | (exfalso; simp_all; done)
        | skip
  cases neg
  · simp only [Bool.false_eq_true, if_false] at hop; subst hop
    rw [(key false).1 rfl]; simp
  · simp only [if_true] at hop; subst hop
    rw [(key true).2 rfl]; simp


theorem nilOf_ne (k : Nat) : (∀ cs, nilOf k ≠ .agg cs) ∧ (∀ j n, nilOf k ≠ .int j n) ∧ (∀ j n, nilOf k ≠ .float j n) ∧ (∀ j n m, nilOf k ≠ .complex j n m) ∧ (∀ s, nilOf k ≠ .string s) := by
  unfold nilOf
  refine ⟨?_, ?_, ?_, ?_, ?_⟩ <;> (intros; split <;> simp)

theorem snd_isnil {op : BinOp} {t yt : TypeId} {y z : Operand} {d : TypeDesc} {k : Nat} {neg : Bool} {b : XOpd} {side : Bool} (hT : TRel ρ T a.tmps) (hu : P.underlying t = some d) (hk : nilKind d = some k)
    (hop : op = if neg then .neq else .eql) (hside : if side then constNil k z = true ∧ cOpd y = some b else constNil k y = true ∧ cOpd z = some b)
    (hv : apure T (.isnil k neg b) = some v) : PureOk P ρ a ⟨dst, .binOp op t y z yt, type, pos, after, guard⟩ v := by
  simp only [apure] at hv
  split at hv
  · rename_i r hr
    cases hv
    obtain ⟨n1, n2, n3, n4, n5, n6⟩ := nil_ne hr
    obtain ⟨m1, m2, m3, m4, m5⟩ := nilOf_ne k
    refine ⟨.bool (r != neg), .bool _, fun w => ?_⟩
    cases side
    · simp only [Bool.false_eq_true, if_false] at hside
      obtain ⟨hs, hb⟩ := hside
      have hrel := ev_rel hT hb
      have hz := constNil_inv hs
      have hw := (nil_right 9999 hu hk hrel hr w).2
      simp only [execOp, Sem.run_bind]
      have he : a.eval y = nilOf k := by rw [hz]; rfl
      rw [he, eqGuard_right hz]
      simp only [Sem.run_pure, Result.andThen]
      rw [run_eqlneq hop hw (fun _ _ _ _ h => m2 _ _ h.1) (fun _ _ _ _ h => m3 _ _ h.1) (fun _ _ _ _ _ _ h => m4 _ _ _ h.1) (fun _ _ h => m5 _ h.1)]
    · simp only [if_true] at hside
      obtain ⟨hs, hb⟩ := hside
      have hrel := ev_rel hT hb
      have hz := constNil_inv hs
      have hw := (nil_right 9999 hu hk hrel hr w).1
      simp only [execOp, Sem.run_bind]
      have he : a.eval z = nilOf k := by rw [hz]; rfl
      have hg : eqGuard op t y z (a.eval y) (a.eval z) = pure () := by
        rw [hz]
        exact (eqGuard_nil (z := y) (c := nilOf k) (v := a.eval (.const (nilOf k))) (fun cs h => by
          obtain ⟨ds, hds⟩ := (vrel_plain hrel n1).2 ⟨cs, h⟩
          exact n2 _ hds)).2
      rw [hg, he]
      simp only [Sem.run_pure, Result.andThen]
      rw [run_eqlneq hop hw (fun _ _ _ _ h => m2 _ _ h.2) (fun _ _ _ _ h => m3 _ _ h.2) (fun _ _ _ _ _ _ h => m4 _ _ _ h.2) (fun _ _ h => m5 _ h.2)]
  · cases hv

theorem part_flat {cs : Array Value} {t : TypeId} {d : TypeDesc} {o : Nat} {u : Value} (hd : P.underlying t = some d) (hf : isAggD d = false) (h : cs[o]? = some u) (w : World) : (part t cs o).run P w = .ok u w := by
  simp only [part, Sem.run_bind, risAgg hd, hf, Result.andThen, Bool.false_eq_true, if_false, h, Sem.run_pure]

theorem sameCells_int {ks : List Bool} {cs ds : List AVal} {b : Bool} (h : sameCells (true :: ks) cs ds = some b) :
    ∃ k p xs q ys, cs = .int k p :: xs ∧ ds = .int k q :: ys ∧ (if p = q then sameCells ks xs ys else some false) = some b := by
  cases cs with
  | nil => simp [sameCells] at h
  | cons c xs =>
    cases ds with
    | nil => cases c <;> simp [sameCells] at h
    | cons d ys =>
      cases c <;> cases d <;> simp only [sameCells] at h <;> try (cases h; done)
      split at h
      · rename_i hk; subst hk; exact ⟨_, _, _, _, _, rfl, rfl, h⟩
      · cases h

theorem sameCells_bool {ks : List Bool} {cs ds : List AVal} {b : Bool} (h : sameCells (false :: ks) cs ds = some b) :
    ∃ p xs q ys, cs = .bool p :: xs ∧ ds = .bool q :: ys ∧ (if p = q then sameCells ks xs ys else some false) = some b := by
  cases cs with
  | nil => simp [sameCells] at h
  | cons c xs =>
    cases ds with
    | nil => cases c <;> simp [sameCells] at h
    | cons d ys =>
      cases c <;> cases d <;> simp only [sameCells] at h <;> try (cases h; done)
      exact ⟨_, _, _, _, rfl, rfl, h⟩

theorem eqFields_sound (n : Nat) : ∀ (fs : List Field) (ks : List Bool) (o : Nat) (cs ds : List AVal) (us vs : Array Value) (b : Bool), flatKinds P o fs = some ks →
    VRels ρ cs (us.toList.drop o) → VRels ρ ds (vs.toList.drop o) → sameCells ks cs ds = some b →
    ∀ w, (Op.eqFields (n + 1) us vs fs).run P w = .ok b w
  | [], ks, o, cs, ds, us, vs, b, hf, h1, h2, hs, w => by
    simp [flatKinds] at hf; subst hf
    cases cs <;> cases ds <;> simp [sameCells] at hs
    subst hs
    simp [Op.eqFields]
  | f :: fs, ks, o, cs, ds, us, vs, b, hf, h1, h2, hs, w => by
    have hcons : ∀ {cs : List AVal} {c : AVal} {us : Array Value}, VRels ρ (c :: cs) (us.toList.drop o) → ∃ u, us[o]? = some u ∧ VRel ρ c u ∧ VRels ρ cs (us.toList.drop (o + 1)) := by
      intro cs c us h
      have hl := h.1
      simp at hl
      have hlt : o < us.size := by omega
      rw [List.drop_eq_getElem_cons (by simpa using hlt)] at h
      obtain ⟨ha, hb⟩ := h.uncons
      exact ⟨us[o], by simp [hlt], by simpa using ha, hb⟩
    simp only [flatKinds] at hf
    split at hf
    · rename_i hfo
      simp only [Bool.and_eq_true, beq_iff_eq] at hfo
      obtain ⟨f1, f2⟩ := hfo
      have f2' : f.name ≠ "_" := by simpa using f2
      split at hf
      · rename_i k0 ks' hd' hks
        cases hf
        obtain ⟨k, p, xs, q, ys, rfl, rfl, hs2⟩ := sameCells_int hs
        obtain ⟨u, hu, ru, rus⟩ := hcons h1
        obtain ⟨v, hv, rv, rvs⟩ := hcons h2
        cases vrel_int ru; cases vrel_int rv
        simp only [Op.eqFields, f2', ne_eq, not_false_eq_true, if_true, Sem.run_bind, f1, part_flat hd' rfl hu, part_flat hd' rfl hv, Result.andThen, run_equalIn_int w n f.type _ _ _ _ hd']
        split at hs2
        · rename_i hpq; subst hpq
          simpa using eqFields_sound n fs ks' (o + 1) xs ys us vs b hks rus rvs hs2 w
        · rename_i hpq
          cases hs2
          simp [hpq]
      · rename_i ks' hd' hks
        cases hf
        obtain ⟨p, xs, q, ys, rfl, rfl, hs2⟩ := sameCells_bool hs
        obtain ⟨u, hu, ru, rus⟩ := hcons h1
        obtain ⟨v, hv, rv, rvs⟩ := hcons h2
        cases vrel_bool ru; cases vrel_bool rv
        simp only [Op.eqFields, f2', ne_eq, not_false_eq_true, if_true, Sem.run_bind, f1, part_flat hd' rfl hu, part_flat hd' rfl hv, Result.andThen, run_equalIn_bool' w n f.type _ _ hd']
        split at hs2
        · rename_i hpq; subst hpq
          simpa using eqFields_sound n fs ks' (o + 1) xs ys us vs b hks rus rvs hs2 w
        · rename_i hpq
          cases hs2
          simp [hpq]
      · cases hf
    · cases hf

theorem snd_eqagg {op : BinOp} {t yt : TypeId} {y z : Operand} {fs : Array Field} {neg : Bool} {ks : List Bool} {b c : XOpd} (hT : TRel ρ T a.tmps) (hu : P.underlying t = some (.struct fs)) (hb : cOpd y = some b) (hc : cOpd z = some c)
    (hop : op = if neg then .neq else .eql) (hks : flatKinds P 0 fs.toList = some ks) (hg : P.eqGuardType P.depth t = false) (hst : P.stoodInHeld t = false)
    (hv : apure T (.eqagg neg ks b c) = some v) : PureOk P ρ a ⟨dst, .binOp op t y z yt, type, pos, after, guard⟩ v := by
  simp only [apure] at hv
  split at hv
  · rename_i cs ds h1 h2
    have r1 := ev_rel hT hb
    have r2 := ev_rel hT hc
    rw [h1] at r1; rw [h2] at r2
    generalize he1 : a.eval y = u at r1
    generalize he2 : a.eval z = u' at r2
    cases r1 with
    | @agg _ us l1 p1 =>
      cases r2 with
      | @agg _ vs l2 p2 =>
        split at hv
        · rename_i r hr
          cases hv
          refine ⟨.bool (r != neg), .bool _, fun w => ?_⟩
          have hfo : P.fieldsOf t = fs := by simp [Program.fieldsOf, hu]
          have key : (Op.equalIn 10000 t (.agg us) (.agg vs)).run P w = .ok r w := by
            rw [run_equalIn_agg w 9999 t us vs (by rw [hfo]; exact hu) hst, hfo]
            exact eqFields_sound 9998 fs.toList ks 0 cs ds us vs r hks (by simpa using VRels.of_agg (.agg l1 p1)) (by simpa using VRels.of_agg (.agg l2 p2)) hr w
          simp only [execOp, Sem.run_bind, he1, he2, run_eqGuard_agg w op t y z us vs hg, Result.andThen]
          rw [run_eqlneq hop key (by simp) (by simp) (by simp) (by simp)]
          rfl
        · cases hv
  · cases hv

theorem snd_bin {op : BinOp} {t yt : TypeId} {y z : Operand} (hT : TRel ρ T a.tmps) (hc : cOp P (.binOp op t y z yt) = some x) (hp : isPure x = true) (hv : apure T x = some v) : PureOk P ρ a ⟨dst, .binOp op t y z yt, type, pos, after, guard⟩ v := by
  simp only [cOp, cBin] at hc
  split at hc
  · rename_i b c d h1 h2 hu
    have plain : ∀ {op'}, x = .bin op' b c → op' = op → PureOk P ρ a ⟨dst, .binOp op t y z yt, type, pos, after, guard⟩ v := by
      rintro op' rfl rfl
      simp only [apure] at hv
      obtain ⟨u, hu1, hu2⟩ := abin_sound (P := P) (t := t) hv (ev_rel hT h1) (ev_rel hT h2)
      obtain ⟨p1, p2, p3⟩ := abin_plain hv
      have hpl := vrel_plain (ev_rel hT h1) p1
      refine ⟨u, hu1, fun w => ?_⟩
      simp only [execOp, Sem.run_bind]
      rw [eqGuard_left (fun h => p2 (hpl.1 h)) (fun cs h => by obtain ⟨ds, hd⟩ := hpl.2 ⟨cs, h⟩; exact p3 _ hd)]
      simp only [Sem.run_pure, Result.andThen, hu2]
    split at hc
    · cases hc; exact plain rfl rfl
    · cases hc; exact plain rfl rfl
    · have beq : ∀ neg, x = .beq neg b c → (op = if neg then .neq else .eql) → PureOk P ρ a ⟨dst, .binOp op t y z yt, type, pos, after, guard⟩ v := by
        rintro neg rfl hop
        simp only [apure] at hv
        split at hv
        · rename_i p q hp hq
          cases hv
          have r1 := ev_rel hT h1
          have r2 := ev_rel hT h2
          rw [hp] at r1; rw [hq] at r2
          have r1 := vrel_bool r1
          have r2 := vrel_bool r2
          refine ⟨.bool ((p == q) != neg), .bool _, fun w => ?_⟩
          simp only [execOp, Sem.run_bind, r1, r2]
          rw [eqGuard_left (by simp) (by simp)]
          simp only [Sem.run_pure, Result.andThen]
          rw [run_eqlneq hop (run_equalIn_bool' w 9999 t p q hu) (by simp) (by simp) (by simp) (by simp)]
        · cases hv
      split at hc
      · cases hc; exact beq false rfl rfl
      · cases hc; exact beq true rfl rfl
      · cases hc
    · split at hc
      all_goals (cases hc; first | (simp [isPure] at hp; done) | exact plain rfl rfl)
    · rename_i fs
      split at hc
      · rename_i hg
        simp only [Bool.and_eq_true, Bool.not_eq_true'] at hg
        split at hc
        · rename_i ks hks
          cases hc; exact snd_eqagg (neg := false) hT hu h1 h2 rfl hks hg.1 hg.2 hv
        · rename_i ks hks
          cases hc; exact snd_eqagg (neg := true) hT hu h1 h2 rfl hks hg.1 hg.2 hv
        · cases hc
      · cases hc
    · split at hc
      · rename_i k hk
        split at hc
        · split at hc
          · rename_i hn; cases hc; exact snd_isnil (neg := false) (side := true) hT hu hk rfl (by simp only [if_true]; exact ⟨hn, h1⟩) hv
          · split at hc
            · rename_i hn; cases hc; exact snd_isnil (neg := false) (side := false) hT hu hk rfl (by simp only [Bool.false_eq_true, if_false]; exact ⟨hn, h2⟩) hv
            · cases hc
        · split at hc
          · rename_i hn; cases hc; exact snd_isnil (neg := true) (side := true) hT hu hk rfl (by simp only [if_true]; exact ⟨hn, h1⟩) hv
          · split at hc
            · rename_i hn; cases hc; exact snd_isnil (neg := true) (side := false) hT hu hk rfl (by simp only [Bool.false_eq_true, if_false]; exact ⟨hn, h2⟩) hv
            · cases hc
        · cases hc
      · cases hc
  · cases hc

end
end Ab
