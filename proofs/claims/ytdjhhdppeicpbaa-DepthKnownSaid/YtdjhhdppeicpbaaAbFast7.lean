/- The second executor: regions whose order is open. -/
import Derived.Test.YtdjhhdppeicpbaaAbFast6
namespace Ab
open Go
noncomputable section

section
variable {call cal0 : FuncId → List AVal → AH → Res} {N : Nat} {env : Env} {T : List AVal} {o : XOper}

def runD (call : FuncId → List AVal → AH → Res) (id : Nat) (op : XOp) (A : AH) (bs : List AH) (K : AVal → AH → List AH → Res) (kp : AVal → AH → Res) : Res :=
  runG call op A (fun v => K v A bs) (fun x f => K (f id) (setR A id x) bs) (fun v A' => K v A' (A :: bs)) kp (fun _ => .stuck)

theorem runD_ok (hle : Le0 call cal0) {id : Nat} {s : DSt} (h : EnvRel N env s.T) (hh : hasE env (operReads o) = true) (hw : wants s.T o.guard = some true) {K : AVal → AH → List AH → Res} {kp : AVal → AH → Res} (hne : runD call id (o.op.sub (sOf env)) s.A s.bs K kp ≠ .stuck) :
    (∃ v A' bs', runD call id (o.op.sub (sOf env)) s.A s.bs K kp = K v A' bs' ∧ dstep cal0 id o s = .ok { s with T := put s.T o.dst v, A := A', bs := bs' }) ∨
    (∃ v A', runD call id (o.op.sub (sOf env)) s.A s.bs K kp = kp v A' ∧ dstep cal0 id o s = .pan v s A') := by
  unfold runD at hne ⊢
  rcases runG_ok hle h hh hne with ⟨v, e, h1 | h1⟩ | ⟨x, f, e, h1, h2, h3, h4⟩ | ⟨h1, h2, h3, h4⟩
  · exact .inl ⟨v, s.A, s.bs, e, by simp only [dstep, hw, h1.1, h1.2, if_true]⟩
  · exact .inl ⟨v, s.A, s.bs, e, by simp only [dstep, hw, h1.1, h1.2.1, h1.2.2, Bool.false_eq_true, if_false, if_true]⟩
  · exact .inl ⟨f id, s.A.set id x, s.bs, by rw [e, setR_eq], by simp only [dstep, hw, h1, h2, h3, h4, Bool.false_eq_true, if_false, if_true]⟩
  · rcases h4 with ⟨h5, f, args, h6, ⟨v, A', h7, e⟩ | ⟨v, A', h7, e⟩⟩ | ⟨h5, ⟨x, h6, e⟩ | ⟨h6, h7, v, A', h8, e⟩⟩
    · exact .inl ⟨v, A', s.A :: s.bs, e, by simp only [dstep, hw, h1, h2, h3, h5, h6, h7, Bool.false_eq_true, if_false, if_true]⟩
    · exact .inr ⟨v, A', e, by simp only [dstep, hw, h1, h2, h3, h5, h6, h7, Bool.false_eq_true, if_false, if_true]⟩
    · rw [e] at hne; exact absurd rfl hne
    · exact .inl ⟨v, A', s.A :: s.bs, e, by simp only [dstep, hw, h1, h2, h3, h5, h8, Bool.false_eq_true, if_false]⟩

/-- One operation, whatever its guard. -/
def dop0K (call : FuncId → List AVal → AH → Res) (N id : Nat) (env : Env) (o : XOper) (A : AH) (bs : List AH) (k : Env → AH → List AH → Res) (kp : AVal → AH → Res) : Res :=
  bsel (hasE env (operReads o)) (bsel (okDst N o.dst)
    (runG call (o.op.sub (sOf env)) A (fun v => putK o.dst v env fun e => k e A bs) (fun x f => forceV (f id) fun v => putK o.dst v env fun e => k e (setR A id x) bs) (fun v A' => putK o.dst v env fun e => k e A' (A :: bs)) kp (fun _ => .stuck)) .stuck) .stuck

theorem dop0K_ok (hle : Le0 call cal0) {id : Nat} {s : DSt} {k : Env → AH → List AH → Res} {kp : AVal → AH → Res} (h : EnvRel N env s.T) (hw : wants s.T o.guard = some true) (hne : dop0K call N id env o s.A s.bs k kp ≠ .stuck) :
    (∃ env' v A' bs', EnvRel N env' (put s.T o.dst v) ∧ dop0K call N id env o s.A s.bs k kp = k env' A' bs' ∧ dstep cal0 id o s = .ok { s with T := put s.T o.dst v, A := A', bs := bs' }) ∨
    (∃ v A', dop0K call N id env o s.A s.bs k kp = kp v A' ∧ dstep cal0 id o s = .pan v s A') := by
  unfold dop0K at hne ⊢
  simp only [putK_eq, forceV_eq] at hne ⊢
  have hh := bsel_stuck hne
  rw [hh] at hne ⊢
  have hd : okDst N o.dst = true := bsel_stuck (b := okDst N o.dst) hne
  rw [hd] at hne ⊢
  have hne' : runD call id (o.op.sub (sOf env)) s.A s.bs (fun v A bs => k (putE o.dst v env) A bs) kp ≠ .stuck := hne
  rcases runD_ok hle h hh hw hne' with ⟨v, A', bs', e, h1⟩ | ⟨v, A', e, h1⟩
  · exact .inl ⟨putE o.dst v env, v, A', bs', h.put hd v, e, h1⟩
  · exact .inr ⟨v, A', e, h1⟩

/-- How many operations turn memory. -/
def chains (ops : List XOper) : Nat := List.rec 0 (fun o _ ih => Bool.rec ih (Nat.succ ih) (isChain o.op)) ops

theorem dstep_bs {id : Nat} {s s' : DSt} (hs : dstep cal0 id o s = .ok s') (hw : wants s.T o.guard = some true) : s'.bs = if isChain o.op then s.A :: s.bs else s.bs := by
  unfold dstep at hs
  rw [hw] at hs
  simp only at hs
  by_cases h1 : isPure o.op = true
  · have hc : isChain o.op = false := by simp [isChain, h1]
    simp only [h1, if_true] at hs
    rw [hc]
    split at hs
    · cases hs; rfl
    · cases hs
  · simp only [h1, if_false, Bool.false_eq_true] at hs
    by_cases h2 : isRead o.op = true
    · have hc : isChain o.op = false := by simp [isChain, h2]
      simp only [h2, if_true] at hs
      rw [hc]
      split at hs
      · cases hs; rfl
      · cases hs
    · simp only [h2, if_false, Bool.false_eq_true] at hs
      by_cases h3 : isFree o.op = true
      · have hc : isChain o.op = false := by simp [isChain, h3]
        simp only [h3, if_true] at hs
        rw [hc]
        split at hs
        · cases hs; rfl
        · cases hs
      · have hc : isChain o.op = true := by simp [isChain, h1, h2, h3]
        simp only [h3, if_false, Bool.false_eq_true] at hs
        rw [hc]
        split at hs
        · split at hs
          · cases hs
          · split at hs
            · cases hs
            · cases hs; rfl
            · cases hs
        · split at hs
          · cases hs; rfl
          · cases hs

def dops0K (call : FuncId → List AVal → AH → Res) (N base : Nat) (gd : Option (Nat × Bool)) (k : Nat → Env → AH → List AH → Res) (kp : Nat → Env → AH → List AH → AVal → AH → Res) (ops : List XOper) (i : Nat) (env : Env) (A : AH) (bs : List AH) : Res :=
  List.rec (motive := fun _ => Nat → Env → AH → List AH → Res) (fun i env A bs => k i env A bs) (fun o _ ih i env A bs => bsel (sameGd gd o) (dop0K call N (Nat.add base i) env o A bs (fun env A bs => ih (Nat.succ i) env A bs) (fun v A' => kp i env A bs v A')) .stuck) ops i env A bs

theorem dops0K_ok (hle : Le0 call cal0) {base : Nat} {gd : Option (Nat × Bool)} {k : Nat → Env → AH → List AH → Res} {kp : Nat → Env → AH → List AH → AVal → AH → Res} : ∀ (ops : List XOper) (i : Nat) (env : Env) (s : DSt), EnvRel N env s.T → wants s.T gd = some true → dops0K call N base gd k kp ops i env s.A s.bs ≠ .stuck →
    (∃ (env' : Env) (s' : DSt) (add : List AH), EnvRel N env' s'.T ∧ s'.D = s.D ∧ (∀ i, i ∉ dstsG ops → s'.T.getD i .junk = s.T.getD i .junk) ∧ s'.bs = add ++ s.bs ∧ add.length = chains ops ∧
      dops0K call N base gd k kp ops i env s.A s.bs = k (i + ops.length) env' s'.A s'.bs ∧ ∀ rest, drun cal0 base i (ops ++ rest) s = drun cal0 base (i + ops.length) rest s') ∨
    (∃ (p : Nat) (env' : Env) (s' : DSt) (v : AVal) (A' : AH), EnvRel N env' s'.T ∧ s'.D = s.D ∧ dops0K call N base gd k kp ops i env s.A s.bs = kp p env' s'.A s'.bs v A' ∧ ∀ rest, drun cal0 base i (ops ++ rest) s = .pan p v s' A')
  | [], i, env, s, h, _, hne => .inl ⟨env, s, [], h, rfl, fun _ _ => rfl, rfl, rfl, rfl, fun _ => rfl⟩
  | o :: ops, i, env, s, h, hw, hne => by
    have hne' : bsel (sameGd gd o) (dop0K call N (base + i) env o s.A s.bs (fun env A bs => dops0K call N base gd k kp ops (i + 1) env A bs) (fun v A' => kp i env s.A s.bs v A')) .stuck ≠ .stuck := hne
    have hs := bsel_stuck hne'
    have e0 : dops0K call N base gd k kp (o :: ops) i env s.A s.bs = dop0K call N (base + i) env o s.A s.bs (fun env A bs => dops0K call N base gd k kp ops (i + 1) env A bs) (fun v A' => kp i env s.A s.bs v A') := by
      show bsel (sameGd gd o) _ _ = _
      rw [hs]; rfl
    rw [hs] at hne'
    have hne2 : dop0K call N (base + i) env o s.A s.bs (fun env A bs => dops0K call N base gd k kp ops (i + 1) env A bs) (fun v A' => kp i env s.A s.bs v A') ≠ .stuck := hne'
    have hwo : wants s.T o.guard = some true := by rw [(sameGd_inv hs).1]; exact hw
    rcases dop0K_ok hle h hwo hne2 with ⟨env1, v, A1, bs1, h1, e, h2⟩ | ⟨v, A', e, h2⟩
    · rw [e] at hne2
      have hb := dstep_bs h2 hwo
      simp only at hb
      rcases dops0K_ok hle ops (i + 1) env1 { s with T := put s.T o.dst v, A := A1, bs := bs1 } h1 (by rw [wants_put hs]; exact hw) hne2 with ⟨env2, s2, add, h3, hD2, h5, hb2, hl, e2, h4⟩ | ⟨p, env2, s2, v2, A2, h3, hD2, e2, h4⟩
      · refine .inl ⟨env2, s2, add ++ (if isChain o.op then [s.A] else []), h3, hD2, fun j hj => ?_, ?_, ?_, ?_, fun rest => ?_⟩
        · obtain ⟨h6, h7⟩ := dstsG_cons o ops hj
          rw [h5 j h7]
          show (put s.T o.dst v).getD j .junk = _
          rw [put_getD, if_neg (by rintro ⟨h8, _⟩; exact h6 h8)]
        · rw [hb2]
          show add ++ bs1 = _
          rw [hb]
          cases isChain o.op <;> simp
        · show _ = (Bool.rec (chains ops) (Nat.succ (chains ops)) (isChain o.op) : Nat)
          cases isChain o.op <;> simp [hl]
        · rw [e0, e, e2, List.length_cons, show i + 1 + ops.length = i + (ops.length + 1) by omega]
        · rw [List.cons_append, List.length_cons]
          conv => lhs; unfold drun
          simp only [h2]
          rw [h4, show i + 1 + ops.length = i + (ops.length + 1) by omega]
      · refine .inr ⟨p, env2, s2, v2, A2, h3, hD2, by rw [e0, e, e2], fun rest => ?_⟩
        rw [List.cons_append]
        conv => lhs; unfold drun
        simp only [h2]
        exact h4 rest
    · refine .inr ⟨i, env, s, v, A', h, rfl, by rw [e0, e], fun rest => ?_⟩
      rw [List.cons_append]
      conv => lhs; unfold drun
      simp only [h2]

/-- Functions of several memories. -/
def curH (m : Nat) (k : List AH → Res) : HT m := Nat.rec (motive := fun m => (List AH → Res) → HT m) (fun k => k []) (fun _ ih k => fun (B : AH) => ih fun l => k (B :: l)) m k
def apH (m : Nat) (h : HT m) (l : List AH) : Res := Nat.rec (motive := fun m => HT m → List AH → Res) (fun r _ => r) (fun _ ih h l => List.casesOn l .stuck fun B l => ih ((h : AH → _) B) l) m h l
theorem apH_eq : ∀ (m : Nat) (k : List AH → Res) (l : List AH), l.length = m → apH m (curH m k) l = k l
  | 0, k, l, h => by
    have : l = [] := List.length_eq_zero_iff.1 h
    subst this; rfl
  | m + 1, k, l, h => by
    cases l with
    | nil => cases h
    | cons B l => exact apH_eq m (fun l => k (B :: l)) l (by simpa using h)

/-- Unwanted operations of a region whose order is open. -/
theorem drun_unwanted {base : Nat} {gd : Option (Nat × Bool)} : ∀ (ops : List XOper) (i : Nat) (s : DSt), ops.all (sameGd gd) = true → wants s.T gd = some false → ∀ rest,
    drun cal0 base i (ops ++ rest) s = drun cal0 base (i + ops.length) rest { s with T := putAll s.T ops, bs := List.replicate (chains ops) s.A ++ s.bs }
  | [], _, _, _, _, _ => rfl
  | o :: ops, i, s, hs, hw, rest => by
    rw [List.all_cons, Bool.and_eq_true] at hs
    have h1 : dstep cal0 (base + i) o s = .ok { s with T := put s.T o.dst (.tuple []), bs := if isChain o.op then s.A :: s.bs else s.bs } := by
      unfold dstep
      rw [(sameGd_inv hs.1).1, hw]
    rw [List.cons_append]
    conv => lhs; unfold drun
    simp only [h1]
    rw [drun_unwanted ops (i + 1) _ hs.2 (by simp only; rw [wants_put hs.1]; exact hw) rest, List.length_cons, show i + 1 + ops.length = i + (ops.length + 1) by omega]
    congr 1
    show DSt.mk _ _ _ _ = DSt.mk _ _ _ _
    congr 1
    show _ = List.replicate (Bool.rec (chains ops) (Nat.succ (chains ops)) (isChain o.op) : Nat) s.A ++ s.bs
    cases isChain o.op with
    | false => rfl
    | true =>
      simp only [if_true]
      rw [List.replicate_succ', List.append_assoc]; rfl

def dgrpG (call : FuncId → List AVal → AH → Res) (N base : Nat) (g : Grp) (t : Nat) (b : Bool) (i : Nat) (env : Env) (A : AH) (bs : List AH) (k : Nat → Env → AH → List AH → Res) (kp : Nat → Env → AH → List AH → AVal → AH → Res) : Res :=
  bsel (okG N g) (bsel (hasE env [t]) (joinV (curV (Nat.succ (chains g.ops)) g.keep [] fun e => fun (A : AH) => curH (chains g.ops) fun l => forceE (e ++ dropE (dstsG g.ops) env) fun e => k (Nat.add i g.ops.length) e A (l ++ bs)) fun j =>
    wantK (sOf env t) b (dops0K call N base g.gd (fun _ env A bs' => appV (Nat.succ (chains g.ops)) g.keep j env fun h => apH (chains g.ops) ((h : AH → HT (chains g.ops)) A) (bs'.take (chains g.ops))) kp g.ops i env A bs)
      (appU (Nat.succ (chains g.ops)) g.keep j fun h => apH (chains g.ops) ((h : AH → HT (chains g.ops)) A) (List.replicate (chains g.ops) A))) .stuck) .stuck

def dgrpK (call : FuncId → List AVal → AH → Res) (N base : Nat) (g : Grp) (i : Nat) (env : Env) (A : AH) (bs : List AH) (k : Nat → Env → AH → List AH → Res) (kp : Nat → Env → AH → List AH → AVal → AH → Res) : Res :=
  Option.rec (motive := fun _ => Res) (dops0K call N base none k kp g.ops i env A bs) (fun tb => dgrpG call N base g tb.1 tb.2 i env A bs k kp) g.gd

theorem dgrpK_ok (hle : Le0 call cal0) {base : Nat} {k : Nat → Env → AH → List AH → Res} {kp : Nat → Env → AH → List AH → AVal → AH → Res} {g : Grp} {i : Nat} {s : DSt} (h : EnvRel N env s.T) (hne : dgrpK call N base g i env s.A s.bs k kp ≠ .stuck) :
    (∃ (env' : Env) (s' : DSt), EnvRel N env' s'.T ∧ s'.D = s.D ∧ dgrpK call N base g i env s.A s.bs k kp = k (i + g.ops.length) env' s'.A s'.bs ∧ ∀ rest, drun cal0 base i (g.ops ++ rest) s = drun cal0 base (i + g.ops.length) rest s') ∨
    (∃ (p : Nat) (env' : Env) (s' : DSt) (v : AVal) (A' : AH), EnvRel N env' s'.T ∧ s'.D = s.D ∧ dgrpK call N base g i env s.A s.bs k kp = kp p env' s'.A s'.bs v A' ∧ ∀ rest, drun cal0 base i (g.ops ++ rest) s = .pan p v s' A') := by
  obtain ⟨gd, keep, ops⟩ := g
  cases gd with
  | none =>
    have hne' : dops0K call N base none k kp ops i env s.A s.bs ≠ .stuck := hne
    rcases dops0K_ok hle ops i env s h rfl hne' with ⟨env', s', add, h1, hD, _, _, _, e, h2⟩ | ⟨p, env', s', v, A', h1, hD, e, h2⟩
    · exact .inl ⟨env', s', h1, hD, e, h2⟩
    · exact .inr ⟨p, env', s', v, A', h1, hD, e, h2⟩
  | some tb =>
    obtain ⟨t, b⟩ := tb
    have hne' : dgrpG call N base ⟨some (t, b), keep, ops⟩ t b i env s.A s.bs k kp ≠ .stuck := hne
    show (∃ (env' : Env) (s' : DSt), EnvRel N env' s'.T ∧ s'.D = s.D ∧ dgrpG call N base ⟨some (t, b), keep, ops⟩ t b i env s.A s.bs k kp = k (i + ops.length) env' s'.A s'.bs ∧ _) ∨
      (∃ (p : Nat) (env' : Env) (s' : DSt) (v : AVal) (A' : AH), EnvRel N env' s'.T ∧ s'.D = s.D ∧ dgrpG call N base ⟨some (t, b), keep, ops⟩ t b i env s.A s.bs k kp = kp p env' s'.A s'.bs v A' ∧ _)
    unfold dgrpG at hne' ⊢
    have hg := bsel_stuck hne'
    rw [hg] at hne' ⊢
    obtain ⟨g1, g2, g3⟩ := okG_inv hg
    have ht := bsel_stuck (b := hasE env [t]) hne'
    rw [ht] at hne' ⊢
    simp only [show ∀ (x y : Res), bsel true x y = x from fun _ _ => rfl, joinV, forceE_eq] at hne' ⊢
    rcases gd_wants h ht hne' with ⟨hw, e⟩ | ⟨hw, e⟩
    · rw [e] at hne' ⊢
      rcases dops0K_ok hle ops i env s h hw hne' with ⟨env', s', add, h1, hD, h5, hb, hl, e2, h2⟩ | ⟨p, env', s', v, A', h1, hD, e2, h2⟩
      · rw [e2] at hne' ⊢
        have h4 := appV_ok (m := Nat.succ (chains ops)) h1 (kk := fun (h : HT (Nat.succ (chains ops))) => apH (chains ops) ((h : AH → HT (chains ops)) s'.A) (s'.bs.take (chains ops))) hne'
        refine .inl ⟨revE s'.T keep [] ++ dropE (dstsG ops) env, s', h.app h1.len (EnvRel.rev h1.len keep).look h5, hD, ?_, h2⟩
        refine h4.trans ?_
        rw [hb, List.take_left' hl]
        exact apH_eq (chains ops) (fun l => k (Nat.add i ops.length) (revE s'.T keep [] ++ dropE (dstsG ops) env) s'.A (l ++ s.bs)) add hl
      · exact .inr ⟨p, env', s', v, A', h1, hD, e2, h2⟩
    · rw [e]
      have hl : N ≤ (putAll s.T ops).length := by rw [putAll_length]; exact h.len
      refine .inl ⟨revE (putAll s.T ops) keep [] ++ dropE (dstsG ops) env, { s with T := putAll s.T ops, bs := List.replicate (chains ops) s.A ++ s.bs }, h.app hl (EnvRel.rev hl keep).look (putAll_not ops s.T), rfl, ?_, drun_unwanted ops i s g3 hw⟩
      refine (appU_ok (m := Nat.succ (chains ops)) (kk := fun (h : HT (Nat.succ (chains ops))) => apH (chains ops) ((h : AH → HT (chains ops)) s.A) (List.replicate (chains ops) s.A)) (putAll s.T ops) fun i hi => putAll_mem ops s.T i (Nat.lt_of_lt_of_le (g2 i (g1 i hi)) h.len) (g1 i hi)).trans ?_
      exact apH_eq (chains ops) (fun l => k (Nat.add i ops.length) (revE (putAll s.T ops) keep [] ++ dropE (dstsG ops) env) s.A (l ++ s.bs)) _ (by simp)

/-- A region whose order is open. -/
def dGK (call : FuncId → List AVal → AH → Res) (N base : Nat) (kd : Env → AH → List AH → Res) (kp : Nat → Env → AH → List AH → AVal → AH → Res) (gs : List Grp) (i : Nat) (env : Env) (A : AH) (bs : List AH) : Res :=
  List.rec (motive := fun _ => Nat → Env → AH → List AH → Res) (fun _ env A bs => kd env A bs) (fun g _ ih i env A bs => dgrpK call N base g i env A bs (fun i env A bs => ih i env A bs) kp) gs i env A bs

theorem dGK_ok (hle : Le0 call cal0) {base : Nat} {kd : Env → AH → List AH → Res} {kp : Nat → Env → AH → List AH → AVal → AH → Res} : ∀ (gs : List Grp) (i : Nat) (env : Env) (s : DSt), EnvRel N env s.T → dGK call N base kd kp gs i env s.A s.bs ≠ .stuck →
    (∃ (env' : Env) (s' : DSt), EnvRel N env' s'.T ∧ s'.D = s.D ∧ dGK call N base kd kp gs i env s.A s.bs = kd env' s'.A s'.bs ∧ drun cal0 base i (gs.flatMap Grp.ops) s = .done s') ∨
    (∃ (p : Nat) (env' : Env) (s' : DSt) (v : AVal) (A' : AH), EnvRel N env' s'.T ∧ s'.D = s.D ∧ dGK call N base kd kp gs i env s.A s.bs = kp p env' s'.A s'.bs v A' ∧ drun cal0 base i (gs.flatMap Grp.ops) s = .pan p v s' A')
  | [], i, env, s, h, hne => .inl ⟨env, s, h, rfl, rfl, rfl⟩
  | g :: gs, i, env, s, h, hne => by
    have hne' : dgrpK call N base g i env s.A s.bs (fun i env A bs => dGK call N base kd kp gs i env A bs) kp ≠ .stuck := hne
    rcases dgrpK_ok hle h hne' with ⟨env1, s1, h1, hD, e, h2⟩ | ⟨p, env1, s1, v, A', h1, hD, e, h2⟩
    · rw [e] at hne'
      have e' : dGK call N base kd kp (g :: gs) i env s.A s.bs = dGK call N base kd kp gs (i + g.ops.length) env1 s1.A s1.bs := e
      rcases dGK_ok hle gs (i + g.ops.length) env1 s1 h1 hne' with ⟨env2, s2, h3, hD2, e2, h4⟩ | ⟨p, env2, s2, v, A', h3, hD2, e2, h4⟩
      · exact .inl ⟨env2, s2, h3, by rw [hD2, hD], by rw [e', e2], by rw [List.flatMap_cons, h2]; exact h4⟩
      · exact .inr ⟨p, env2, s2, v, A', h3, by rw [hD2, hD], by rw [e', e2], by rw [List.flatMap_cons, h2]; exact h4⟩
    · exact .inr ⟨p, env1, s1, v, A', h1, hD, e, by rw [List.flatMap_cons]; exact h2 _⟩

/-- One read is what it was. -/
def agK (x : Option AVal) (v : AVal) (k : Res) : Res := optC x (fun u => bsel (v.same u) k .stuck) .stuck
/-- .. in all these memories. -/
def agLK (op : XOp) (v : AVal) (bs : List AH) (k : Res) : Res := List.rec (motive := fun _ => Res) k (fun B _ ih => agK (readR B op) v ih) bs

theorem agK_ok {x : Option AVal} {v : AVal} {k : Res} (hne : agK x v k ≠ .stuck) : (∃ u, x = some u ∧ v.same u = true) ∧ agK x v k = k := by
  cases x with
  | none => exact absurd rfl hne
  | some u =>
    have hne' : bsel (v.same u) k .stuck ≠ .stuck := hne
    have h := bsel_stuck hne'
    refine ⟨⟨u, rfl, h⟩, ?_⟩
    show bsel (v.same u) k .stuck = k
    rw [h]; rfl

theorem agLK_ok {op : XOp} {v : AVal} {k : Res} : ∀ {bs : List AH}, agLK op v bs k ≠ .stuck → (∀ B, B ∈ bs → ∃ u, aread [] B op = some u ∧ v.same u = true) ∧ agLK op v bs k = k
  | [], _ => ⟨fun _ h => (by cases h), rfl⟩
  | B :: bs, hne => by
    have hne' : agK (readR B op) v (agLK op v bs k) ≠ .stuck := hne
    obtain ⟨h1, h2⟩ := agK_ok hne'
    have h2' : agLK op v (B :: bs) k = agLK op v bs k := h2
    rw [h2] at hne'
    obtain ⟨h3, h4⟩ := agLK_ok (bs := bs) hne'
    refine ⟨fun B' hB' => ?_, by rw [h2', h4]⟩
    rcases List.mem_cons.1 hB' with rfl | hB'
    · rw [readR_eq] at h1; exact h1
    · exact h3 B' hB'

def chk0K (env : Env) (o : XOper) (bs : List AH) (lo hi : Nat) (k : Res) : Res := optC o.dst (fun d => bsel (hasE env [d]) (agLK (o.op.sub (sOf env)) (sOf env d) ((bs.drop lo).take (hi + 1 - lo)) k) .stuck) .stuck
def chkG (env : Env) (o : XOper) (bs : List AH) (lo hi : Nat) (k : Res) (gd : Option (Nat × Bool)) : Res := Option.rec (motive := fun _ => Res) (chk0K env o bs lo hi k) (fun g => joinV (fun _ : Unit => k) fun j => wantK (sOf env g.1) g.2 (chk0K env o bs lo hi (j ())) (j ())) gd
def chkO (env : Env) (o : XOper) (bs : List AH) (lim r lo hi : Nat) (k : Res) : Res :=
  bsel (Nat.ble lim r) k (bsel (hasE env (operReads o)) (chkG env o bs lo hi k o.guard) .stuck)
def chk1K (env : Env) (ops : List XOper) (bs : List AH) (lim r lo hi : Nat) (k : Res) : Res := optC (ops[r]?) (fun o => chkO env o bs lim r lo hi k) .stuck
/-- The reads that are looked at once more. -/
def chkK (env : Env) (ops : List XOper) (bs : List AH) (lim : Nat) (chk : List (Nat × Nat × Nat)) (k : Res) : Res := List.rec (motive := fun _ => Res) k (fun c _ ih => chk1K env ops bs lim c.1 c.2.1 c.2.2 ih) chk

theorem chk0K_ok (h : EnvRel N env T) (hh : hasE env (operReads o) = true) {bs : List AH} {lo hi : Nat} {k : Res} (hne : chk0K env o bs lo hi k ≠ .stuck) :
    ((List.range (hi + 1 - lo)).all fun j => match bs[lo + j]? with
      | none => true
      | some B => match aread T B o.op, o.dst with
        | some v, some d => (T.getD d .junk).same v
        | _, _ => false) = true ∧ chk0K env o bs lo hi k = k := by
  unfold chk0K at hne ⊢
  cases hd : o.dst with
  | none => rw [hd] at hne; exact absurd rfl hne
  | some d =>
    rw [hd] at hne
    have hne' : bsel (hasE env [d]) (agLK (o.op.sub (sOf env)) (sOf env d) ((bs.drop lo).take (hi + 1 - lo)) k) .stuck ≠ .stuck := hne
    have hhd := bsel_stuck hne'
    rw [hhd] at hne'
    obtain ⟨h1, h2⟩ := agLK_ok (bs := (bs.drop lo).take (hi + 1 - lo)) hne'
    refine ⟨?_, ?_⟩
    · rw [List.all_eq_true]
      intro j hj
      rw [List.mem_range] at hj
      cases hb : bs[lo + j]? with
      | none => rfl
      | some B =>
        have hB : B ∈ (bs.drop lo).take (hi + 1 - lo) := by
          refine List.mem_of_getElem? (i := j) ?_
          rw [List.getElem?_take, if_pos hj, List.getElem?_drop, hb]
        obtain ⟨u, h3, h4⟩ := h1 B hB
        rw [aread_sub (agrees_of h hh).left] at h3
        have hsd : sOf env d = T.getD d .junk := agrees_of h hhd d (by simp)
        simp only [h3]
        rw [← hsd]
        exact h4
    · show bsel (hasE env [d]) _ _ = k
      rw [hhd]; exact h2

theorem chkO_ok (h : EnvRel N env T) {bs : List AH} {lim r lo hi : Nat} {k : Res} (hne : chkO env o bs lim r lo hi k ≠ .stuck) :
    (if lim ≤ r then true else
       match wants T o.guard with
       | some false => true
       | some true => (List.range (hi + 1 - lo)).all fun j => match bs[lo + j]? with
         | none => true
         | some B => match aread T B o.op, o.dst with
           | some v, some d => (T.getD d .junk).same v
           | _, _ => false
       | none => false) = true ∧ chkO env o bs lim r lo hi k = k := by
  unfold chkO at hne ⊢
  cases hl : Nat.ble lim r with
  | true =>
    rw [ble_iff] at hl
    exact ⟨by rw [if_pos hl], rfl⟩
  | false =>
    rw [hl] at hne
    have hl' : ¬ lim ≤ r := fun h => by rw [(ble_iff lim r).2 h] at hl; cases hl
    rw [if_neg hl']
    have hne2 : bsel (hasE env (operReads o)) (chkG env o bs lo hi k o.guard) .stuck ≠ .stuck := hne
    show _ ∧ bsel (hasE env (operReads o)) (chkG env o bs lo hi k o.guard) .stuck = k
    have hh := bsel_stuck hne2
    rw [hh] at hne2 ⊢
    cases hg : o.guard with
    | none =>
      rw [hg] at hne2
      exact chk0K_ok h hh hne2
    | some g =>
      obtain ⟨g, b⟩ := g
      rw [hg] at hne2
      have hne3 : wantK (sOf env g) b (chk0K env o bs lo hi k) k ≠ .stuck := hne2
      show _ ∧ wantK (sOf env g) b (chk0K env o bs lo hi k) k = k
      rcases wants_of h hh (g := g) (b := b) hg hne3 with ⟨hw, e0⟩ | ⟨hw, e0⟩
      · rw [e0] at hne3 ⊢
        rw [hg] at hw
        rw [hw]
        exact chk0K_ok h hh hne3
      · rw [e0]
        rw [hg] at hw
        rw [hw]
        exact ⟨rfl, rfl⟩

theorem chkK_ok {ops : List XOper} {bs : List AH} {lim : Nat} (h : EnvRel N env T) : ∀ {chk : List (Nat × Nat × Nat)} {k : Res}, chkK env ops bs lim chk k ≠ .stuck → chkOk ops T bs lim chk = true ∧ chkK env ops bs lim chk k = k
  | [], _, _ => ⟨rfl, rfl⟩
  | (r, lo, hi) :: rest, k, hne => by
    have hne' : chk1K env ops bs lim r lo hi (chkK env ops bs lim rest k) ≠ .stuck := hne
    show _ ∧ chk1K env ops bs lim r lo hi (chkK env ops bs lim rest k) = k
    unfold chk1K at hne' ⊢
    unfold chkOk
    cases ho : ops[r]? with
    | none => rw [ho] at hne'; exact absurd rfl hne'
    | some o =>
      rw [ho] at hne'
      have hne2 : chkO env o bs lim r lo hi (chkK env ops bs lim rest k) ≠ .stuck := hne'
      show _ ∧ chkO env o bs lim r lo hi (chkK env ops bs lim rest k) = k
      obtain ⟨h1, h2⟩ := chkO_ok h hne2
      rw [h2] at hne2 ⊢
      obtain ⟨h3, h4⟩ := chkK_ok h hne2
      refine ⟨?_, h4⟩
      rw [h3, Bool.and_true]
      exact h1

def drawK (call : FuncId → List AVal → AH → Res) (N : Nat) (gs : List Grp) (chk : List (Nat × Nat × Nat)) (np : List Nat) (k : Env → AH → Res) (env : Env) (A : AH) : Res :=
  dGK call N A.next (fun env A bs => chkK env (gs.flatMap Grp.ops) (A :: bs).reverse (gs.flatMap Grp.ops).length chk (k env A))
    (fun p env A bs v A' => chkK env (gs.flatMap Grp.ops) (A :: bs).reverse p chk (bsel (np.contains p) .stuck (.pan v A'))) gs 0 env (A.bump (gs.flatMap Grp.ops).length) []

theorem drawK_ok (hle : Le0 call cal0) {gs : List Grp} {chk : List (Nat × Nat × Nat)} {np : List Nat} {k : Env → AH → Res} {A : AH} (h : EnvRel N env T) (hne : drawK call N gs chk np k env A ≠ .stuck) :
    (∃ env' T' A', EnvRel N env' T' ∧ drawK call N gs chk np k env A = k env' A' ∧ xdraw cal0 (gs.flatMap Grp.ops) chk np T [] A = .norm T' [] A') ∨
    (∃ v A', drawK call N gs chk np k env A = .pan v A' ∧ ∃ T', xdraw cal0 (gs.flatMap Grp.ops) chk np T [] A = .pan v T' [] A') := by
  unfold drawK at hne ⊢
  have hne' := hne
  rcases dGK_ok hle gs 0 env { T, D := [], A := A.bump (gs.flatMap Grp.ops).length, bs := [] } h hne with ⟨env1, s1, h1, hD, e, h2⟩ | ⟨p, env1, s1, v, A', h1, hD, e, h2⟩
  · have e' : dGK call N A.next _ _ gs 0 env (A.bump (gs.flatMap Grp.ops).length) [] = _ := e
    rw [e'] at hne' ⊢
    obtain ⟨hc, e2⟩ := chkK_ok h1 hne'
    refine .inl ⟨env1, s1.T, s1.A, h1, e2, ?_⟩
    simp only [xdraw, h2, hc, if_true, hD]
  · have e' : dGK call N A.next _ _ gs 0 env (A.bump (gs.flatMap Grp.ops).length) [] = _ := e
    rw [e'] at hne' ⊢
    obtain ⟨hc, e2⟩ := chkK_ok h1 hne'
    rw [e2] at hne' ⊢
    have hnp : np.contains p = false := by
      cases hb : np.contains p with
      | false => rfl
      | true => rw [hb] at hne'; exact absurd rfl hne'
    rw [hnp]
    refine .inr ⟨v, A', rfl, forget T (gs.flatMap Grp.ops), ?_⟩
    simp only [xdraw, h2, hc, hnp, Bool.not_false, Bool.and_self, if_true, hD]

end
end
end Ab
