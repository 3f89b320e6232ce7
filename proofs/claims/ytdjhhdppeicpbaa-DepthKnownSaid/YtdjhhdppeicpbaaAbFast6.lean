/- The second executor: regions. -/
import Derived.Test.YtdjhhdppeicpbaaAbFast5
namespace Ab
open Go
noncomputable section

def lenL (ls : List Nat) : Nat := List.rec 0 (fun _ _ ih => Nat.succ ih) ls
/-- A join that takes the values of some slots. -/
def curV (m : Nat) (ls : List Nat) (acc : Env) (k : Env → HT m) : JT m (lenL ls) := List.rec (motive := fun ls => Env → JT m (lenL ls)) (fun acc => k acc) (fun l _ ih acc => fun (v : AVal) => ih ((l, v) :: acc)) ls acc
def appV (m : Nat) (ls : List Nat) (j : JT m (lenL ls)) (env : Env) (kk : HT m → Res) : Res := List.rec (motive := fun ls => JT m (lenL ls) → Res) (fun j => kk j) (fun l _ ih j => optC (lookE env l) (fun v => ih (j v)) .stuck) ls j
def appU (m : Nat) (ls : List Nat) (j : JT m (lenL ls)) (kk : HT m → Res) : Res := List.rec (motive := fun ls => JT m (lenL ls) → Res) (fun j => kk j) (fun _ _ ih j => ih (j (.tuple []))) ls j
def toJ (ls : List Nat) (j : JT 1 (lenL ls)) (env : Env) (A : AH) : Res := appV 1 ls j env fun h => (h : AH → Res) A
def nthV (vs : List AVal) (i : Nat) : AVal := optC (nthR vs i) (fun v => v) .junk

section
variable {call cal0 : FuncId → List AVal → AH → Res} {N : Nat} {env : Env} {T : List AVal} {A : AH} {o : XOper}

def runK (call : FuncId → List AVal → AH → Res) (op : XOp) (A : AH) (K : AVal → AH → Res) : Res :=
  runG call op A (fun v => K v A) (fun x f => K (f A.next) (newR A x)) K (fun v A' => .pan v A') (fun pv => panK pv A)

theorem runK_ok (hle : Le0 call cal0) (h : EnvRel N env T) (hh : hasE env (operReads o) = true) (hw : wants T o.guard = some true) {K : AVal → AH → Res} (hne : runK call (o.op.sub (sOf env)) A K ≠ .stuck) :
    (∃ v A', runK call (o.op.sub (sOf env)) A K = K v A' ∧ ∀ all rest, xops cal0 all (o :: rest) T [] A = xops cal0 all rest (put T o.dst v) [] A') ∨
    (∃ v A', runK call (o.op.sub (sOf env)) A K = .pan v A' ∧ ∀ all rest, ∃ T', xops cal0 all (o :: rest) T [] A = .pan v T' [] A') := by
  unfold runK at hne ⊢
  rcases runG_ok hle h hh hne with ⟨v, e, h1 | h1⟩ | ⟨x, f, e, h1, h2, h3, h4⟩ | ⟨h1, h2, h3, h4⟩
  · exact .inl ⟨v, A, e, fun all rest => by simp only [xops, hw, h1.1, h1.2, if_true]⟩
  · exact .inl ⟨v, A, e, fun all rest => by simp only [xops, hw, h1.1, h1.2.1, h1.2.2, Bool.false_eq_true, if_false, if_true]⟩
  · refine .inl ⟨f A.next, A.new x, by rw [e, newR_eq], fun all rest => by simp only [xops, hw, h1, h2, h3, h4, Bool.false_eq_true, if_false, if_true]⟩
  · rcases h4 with ⟨h5, f, args, h6, ⟨v, A', h7, e⟩ | ⟨v, A', h7, e⟩⟩ | ⟨h5, ⟨x, h6, e⟩ | ⟨h6, h7, v, A', h8, e⟩⟩
    · exact .inl ⟨v, A', e, fun all rest => by simp only [xops, hw, h1, h2, h3, h5, h6, h7, Bool.false_eq_true, if_false, if_true]⟩
    · exact .inr ⟨v, A', e, fun all rest => ⟨_, by simp only [xops, hw, h1, h2, h3, h5, h6, h7, Bool.false_eq_true, if_false, if_true]; rfl⟩⟩
    · rw [e] at hne
      unfold panK at hne
      split at hne
      · rename_i t v hx
        refine .inr ⟨.iface t v, A, by rw [e, hx]; rfl, fun all rest => ⟨forget T all, ?_⟩⟩
        obtain ⟨dst, op, guard⟩ := o
        simp only at h6 hw h1 h2 h3 h5
        subst h6
        simp only [xops, hw, h1, h2, h3, h5, hx, Bool.false_eq_true, if_false]
      · exact absurd rfl hne
    · refine .inl ⟨v, A', e, fun all rest => ?_⟩
      obtain ⟨dst, op, guard⟩ := o
      simp only at h6 h7 hw h1 h2 h3 h5 h8
      conv => lhs; unfold xops
      simp only [hw, h1, h2, h3, h5, Bool.false_eq_true, if_false]
      cases op <;> first
        | exact absurd rfl (h7 _ _)
        | exact absurd rfl (h6 _)
        | (simp only [h8]; done)

/-- What a join makes of the slots, the first one last. -/
def revE (T : List AVal) (ls : List Nat) (acc : Env) : Env := List.rec (motive := fun _ => Env → Env) (fun acc => acc) (fun l _ ih acc => ih ((l, T.getD l .junk) :: acc)) ls acc

theorem revE_look {T' : List AVal} {P : Nat → AVal → Prop} (hT : ∀ i, P i (T'.getD i .junk)) : ∀ (ls : List Nat) (acc : Env), (∀ i v, lookE acc i = some v → P i v) → ∀ i v, lookE (revE T' ls acc) i = some v → P i v
  | [], acc, h, i, v, hv => h i v hv
  | l :: ls, acc, h, i, v, hv => by
    refine revE_look hT ls ((l, T'.getD l .junk) :: acc) (fun i v hv => ?_) i v hv
    have hv' : (Bool.rec (lookE acc i) (some (T'.getD l .junk)) (Nat.beq l i) : Option AVal) = some v := hv
    cases hb : Nat.beq l i with
    | true =>
      rw [hb] at hv'
      have h1 : some (T'.getD l .junk) = some v := hv'
      cases h1
      rw [← beq_of hb]
      exact hT l
    | false => rw [hb] at hv'; exact h i v hv'

theorem appV_ok {m : Nat} (h : EnvRel N env T) {k : Env → HT m} {kk : HT m → Res} : ∀ {ls : List Nat} {acc : Env}, appV m ls (curV m ls acc k) env kk ≠ .stuck → appV m ls (curV m ls acc k) env kk = kk (k (revE T ls acc))
  | [], _, _ => rfl
  | l :: ls, acc, hne => by
    have hne' : optC (lookE env l) (fun v => appV m ls (curV m ls ((l, v) :: acc) k) env kk) .stuck ≠ .stuck := hne
    show optC (lookE env l) (fun v => appV m ls (curV m ls ((l, v) :: acc) k) env kk) .stuck = _
    cases hl : lookE env l with
    | none => rw [hl] at hne'; exact absurd rfl hne'
    | some v =>
      rw [hl] at hne'
      have hne2 : appV m ls (curV m ls ((l, v) :: acc) k) env kk ≠ .stuck := hne'
      show appV m ls (curV m ls ((l, v) :: acc) k) env kk = kk (k (revE T ls ((l, T.getD l .junk) :: acc)))
      rw [appV_ok h hne2, h.look l v hl]

theorem appU_ok {m : Nat} {k : Env → HT m} {kk : HT m → Res} (T' : List AVal) : ∀ {ls : List Nat} {acc : Env}, (∀ l, l ∈ ls → T'.getD l .junk = .tuple []) → appU m ls (curV m ls acc k) kk = kk (k (revE T' ls acc))
  | [], _, _ => rfl
  | l :: ls, acc, h => by
    show appU m ls (curV m ls ((l, .tuple []) :: acc) k) kk = kk (k (revE T' ls ((l, T'.getD l .junk) :: acc)))
    rw [appU_ok T' (fun l hl => h l (List.mem_cons_of_mem _ hl)), h l (by simp)]

theorem EnvRel.rev (h : N ≤ T.length) (ls : List Nat) : EnvRel N (revE T ls []) T :=
  ⟨fun i v hv => revE_look (P := fun i v => T.getD i .junk = v) (fun _ => rfl) ls [] (fun i v h => by cases h) i v hv, h⟩

theorem toJ_ok (h : EnvRel N env T) {ls : List Nat} {k : Env → AH → Res} (hne : toJ ls (curV 1 ls [] k) env A ≠ .stuck) : toJ ls (curV 1 ls [] k) env A = k (revE T ls []) A := appV_ok (m := 1) h (kk := fun (h : HT 1) => (h : AH → Res) A) hne

/-! ### Groups: operations that hang on one guard -/

structure Grp where
  gd : Option (Nat × Bool)
  keep : List Nat
  ops : List XOper

/-- The operation hangs on that guard, and does not write it. -/
def sameGd (gd : Option (Nat × Bool)) (o : XOper) : Bool :=
  match gd, o.guard with
  | none, none => true
  | some (t, b), some (t', b') => t == t' && b == b' && (match o.dst with | some d => d != t | none => true)
  | _, _ => false

def dstsG (ops : List XOper) : List Nat := ops.filterMap (·.dst)
def dropE (ds : List Nat) (env : Env) : Env := env.filter fun p => !ds.contains p.1
def okG (N : Nat) (g : Grp) : Bool := g.keep.all (dstsG g.ops).contains && (dstsG g.ops).all (fun d => decide (d < N)) && g.ops.all (sameGd g.gd)

theorem sameGd_inv {gd : Option (Nat × Bool)} {o : XOper} (h : sameGd gd o = true) : o.guard = gd ∧ ∀ t b, gd = some (t, b) → o.dst ≠ some t := by
  unfold sameGd at h
  split at h
  · rename_i h1; exact ⟨h1, fun t b h => by cases h⟩
  · rename_i t b t' b' h1
    simp only [Bool.and_eq_true, beq_iff_eq] at h
    obtain ⟨⟨rfl, rfl⟩, h2⟩ := h
    refine ⟨h1, fun t2 b2 h3 hd => ?_⟩
    cases h3
    rw [hd] at h2
    simp at h2
  · cases h

theorem wants_put {T : List AVal} {gd : Option (Nat × Bool)} {o : XOper} (h : sameGd gd o = true) (v : AVal) : wants (put T o.dst v) gd = wants T gd := by
  cases gd with
  | none => rfl
  | some g =>
    obtain ⟨t, b⟩ := g
    have h1 := (sameGd_inv h).2 t b rfl
    simp only [wants]
    rw [put_getD, if_neg (by rintro ⟨h2, _⟩; exact h1 h2)]

theorem lookE_app : ∀ (e1 e2 : Env) (i : Nat), lookE (e1 ++ e2) i = optC (lookE e1 i) some (lookE e2 i)
  | [], e2, i => rfl
  | p :: e1, e2, i => by
    show (Bool.rec (lookE (e1 ++ e2) i) (some p.2) (Nat.beq p.1 i) : Option AVal) = optC (Bool.rec (lookE e1 i) (some p.2) (Nat.beq p.1 i)) some (lookE e2 i)
    cases Nat.beq p.1 i with
    | true => rfl
    | false => exact lookE_app e1 e2 i

theorem lookE_drop (ds : List Nat) : ∀ (env : Env) (i : Nat) (v : AVal), lookE (dropE ds env) i = some v → lookE env i = some v ∧ i ∉ ds
  | [], i, v, h => by cases h
  | p :: env, i, v, h => by
    have h' : lookE ((p :: env).filter fun p => !ds.contains p.1) i = some v := h
    rw [List.filter_cons] at h'
    split at h'
    · rename_i hp
      have h2 : (Bool.rec (lookE (dropE ds env) i) (some p.2) (Nat.beq p.1 i) : Option AVal) = some v := h'
      show (Bool.rec (lookE env i) (some p.2) (Nat.beq p.1 i) : Option AVal) = some v ∧ _
      cases hb : Nat.beq p.1 i with
      | true =>
        rw [hb] at h2
        exact ⟨h2, by rw [← beq_of hb]; simpa using hp⟩
      | false => rw [hb] at h2; exact lookE_drop ds env i v h2
    · rename_i hp
      obtain ⟨h3, h4⟩ := lookE_drop ds env i v h'
      refine ⟨?_, h4⟩
      show (Bool.rec (lookE env i) (some p.2) (Nat.beq p.1 i) : Option AVal) = some v
      have : Nat.beq p.1 i = false := beq_false fun hi => h4 (by rw [← hi]; simpa using hp)
      rw [this]; exact h3

theorem EnvRel.app {T' : List AVal} {e1 : Env} {ds : List Nat} (h : EnvRel N env T) (hl : N ≤ T'.length) (h1 : ∀ i v, lookE e1 i = some v → T'.getD i .junk = v) (h2 : ∀ i, i ∉ ds → T'.getD i .junk = T.getD i .junk) : EnvRel N (e1 ++ dropE ds env) T' := by
  refine ⟨fun i v hv => ?_, hl⟩
  rw [lookE_app] at hv
  cases he : lookE e1 i with
  | some u =>
    rw [he] at hv
    have h3 : some u = some v := hv
    cases h3
    exact h1 i _ he
  | none =>
    rw [he] at hv
    have hv' : lookE (dropE ds env) i = some v := hv
    obtain ⟨h3, h4⟩ := lookE_drop ds env i v hv'
    rw [h2 i h4]
    exact h.look i v h3

/-- One operation, whatever its guard. -/
def op0K (call : FuncId → List AVal → AH → Res) (N : Nat) (env : Env) (o : XOper) (A : AH) (k : Env → AH → Res) : Res :=
  bsel (hasE env (operReads o)) (bsel (okDst N o.dst)
    (runG call (o.op.sub (sOf env)) A (fun v => putK o.dst v env fun e => k e A) (fun x f => forceV (f A.next) fun v => putK o.dst v env fun e => k e (newR A x)) (fun v A' => putK o.dst v env fun e => k e A') (fun v A' => .pan v A') (fun pv => panK pv A)) .stuck) .stuck

def ops0K (call : FuncId → List AVal → AH → Res) (N : Nat) (gd : Option (Nat × Bool)) (ops : List XOper) (k : Env → AH → Res) (env : Env) (A : AH) : Res :=
  List.rec (motive := fun _ => Env → AH → Res) (fun env A => k env A) (fun o _ ih env A => bsel (sameGd gd o) (op0K call N env o A ih) .stuck) ops env A

def grpG (call : FuncId → List AVal → AH → Res) (N : Nat) (g : Grp) (t : Nat) (b : Bool) (env : Env) (A : AH) (k : Env → AH → Res) : Res :=
  bsel (okG N g) (bsel (hasE env [t]) (joinV (curV 1 g.keep [] fun e A => forceE (e ++ dropE (dstsG g.ops) env) fun e => k e A) fun j =>
    wantK (sOf env t) b (ops0K call N g.gd g.ops (toJ g.keep j) env A) (appU 1 g.keep j fun h => (h : AH → Res) A)) .stuck) .stuck

def grpK (call : FuncId → List AVal → AH → Res) (N : Nat) (g : Grp) (env : Env) (A : AH) (k : Env → AH → Res) : Res :=
  Option.rec (motive := fun _ => Res) (ops0K call N none g.ops k env A) (fun tb => grpG call N g tb.1 tb.2 env A k) g.gd

theorem op0K_ok (hle : Le0 call cal0) {k : Env → AH → Res} (h : EnvRel N env T) (hw : wants T o.guard = some true) (hne : op0K call N env o A k ≠ .stuck) :
    (∃ env' v A', EnvRel N env' (put T o.dst v) ∧ op0K call N env o A k = k env' A' ∧ ∀ all rest, xops cal0 all (o :: rest) T [] A = xops cal0 all rest (put T o.dst v) [] A') ∨
    (∃ v A', op0K call N env o A k = .pan v A' ∧ ∀ all rest, ∃ T', xops cal0 all (o :: rest) T [] A = .pan v T' [] A') := by
  unfold op0K at hne ⊢
  simp only [putK_eq, forceV_eq] at hne ⊢
  have hh := bsel_stuck hne
  rw [hh] at hne ⊢
  have hd : okDst N o.dst = true := bsel_stuck (b := okDst N o.dst) hne
  rw [hd] at hne ⊢
  have hne' : runK call (o.op.sub (sOf env)) A (fun v A => k (putE o.dst v env) A) ≠ .stuck := hne
  rcases runK_ok hle h hh hw hne' with ⟨v, A', e, h1⟩ | ⟨v, A', e, h1⟩
  · exact .inl ⟨putE o.dst v env, v, A', h.put hd v, e, h1⟩
  · exact .inr ⟨v, A', e, h1⟩

theorem dstsG_cons (o : XOper) (ops : List XOper) {i : Nat} (h : i ∉ dstsG (o :: ops)) : o.dst ≠ some i ∧ i ∉ dstsG ops := by
  unfold dstsG at h ⊢
  rw [List.filterMap_cons] at h
  cases ho : o.dst with
  | none => rw [ho] at h; exact ⟨by simp, h⟩
  | some d =>
    rw [ho] at h
    simp only [List.mem_cons, not_or] at h
    exact ⟨by simpa using fun h2 => h.1 h2.symm, h.2⟩

theorem ops0K_ok (hle : Le0 call cal0) {gd : Option (Nat × Bool)} {k : Env → AH → Res} : ∀ (ops : List XOper) (env : Env) (T : List AVal) (A : AH), EnvRel N env T → wants T gd = some true → ops0K call N gd ops k env A ≠ .stuck →
    (∃ env' T' A', EnvRel N env' T' ∧ (∀ i, i ∉ dstsG ops → T'.getD i .junk = T.getD i .junk) ∧ ops0K call N gd ops k env A = k env' A' ∧ ∀ all rest, xops cal0 all (ops ++ rest) T [] A = xops cal0 all rest T' [] A') ∨
    (∃ v A', ops0K call N gd ops k env A = .pan v A' ∧ ∀ all rest, ∃ T', xops cal0 all (ops ++ rest) T [] A = .pan v T' [] A')
  | [], env, T, A, h, _, _ => .inl ⟨env, T, A, h, fun _ _ => rfl, rfl, fun all rest => rfl⟩
  | o :: ops, env, T, A, h, hw, hne => by
    have hne' : bsel (sameGd gd o) (op0K call N env o A (ops0K call N gd ops k)) .stuck ≠ .stuck := hne
    have hs := bsel_stuck hne'
    have e0 : ops0K call N gd (o :: ops) k env A = op0K call N env o A (ops0K call N gd ops k) := by
      show bsel (sameGd gd o) _ _ = _
      rw [hs]; rfl
    rw [hs] at hne'
    have hne2 : op0K call N env o A (ops0K call N gd ops k) ≠ .stuck := hne'
    have hwo : wants T o.guard = some true := by rw [(sameGd_inv hs).1]; exact hw
    rcases op0K_ok hle h hwo hne2 with ⟨env', v, A', h1, e, h2⟩ | ⟨v, A', e, h2⟩
    · rw [e] at hne2
      rcases ops0K_ok hle ops env' (put T o.dst v) A' h1 (by rw [wants_put hs]; exact hw) hne2 with ⟨env2, T2, A2, h3, h5, e2, h4⟩ | ⟨v, A2, e2, h4⟩
      · refine .inl ⟨env2, T2, A2, h3, fun i hi => ?_, by rw [e0, e, e2], fun all rest => by rw [List.cons_append, h2, h4]⟩
        obtain ⟨h6, h7⟩ := dstsG_cons o ops hi
        rw [h5 i h7, put_getD, if_neg (by rintro ⟨h8, _⟩; exact h6 h8)]
      · exact .inr ⟨v, A2, by rw [e0, e, e2], fun all rest => by rw [List.cons_append, h2]; exact h4 all rest⟩
    · exact .inr ⟨v, A', by rw [e0, e], fun all rest => by rw [List.cons_append]; exact h2 all _⟩

/-- What unwanted operations leave. -/
def putAll (T : List AVal) (ops : List XOper) : List AVal := ops.foldl (fun T o => put T o.dst (.tuple [])) T

theorem putAll_length : ∀ (ops : List XOper) (T : List AVal), (putAll T ops).length = T.length
  | [], _ => rfl
  | o :: ops, T => by
    show (putAll (put T o.dst (.tuple [])) ops).length = _
    rw [putAll_length ops, put_length]

theorem putAll_not : ∀ (ops : List XOper) (T : List AVal) (i : Nat), i ∉ dstsG ops → (putAll T ops).getD i .junk = T.getD i .junk
  | [], _, _, _ => rfl
  | o :: ops, T, i, hi => by
    obtain ⟨h6, h7⟩ := dstsG_cons o ops hi
    show (putAll (put T o.dst (.tuple [])) ops).getD i .junk = _
    rw [putAll_not ops _ i h7, put_getD, if_neg (by rintro ⟨h8, _⟩; exact h6 h8)]

theorem putAll_mem : ∀ (ops : List XOper) (T : List AVal) (i : Nat), i < T.length → i ∈ dstsG ops → (putAll T ops).getD i .junk = .tuple []
  | [], _, _, _, h => by cases h
  | o :: ops, T, i, hl, hi => by
    show (putAll (put T o.dst (.tuple [])) ops).getD i .junk = _
    by_cases h2 : i ∈ dstsG ops
    · exact putAll_mem ops _ i (by rw [put_length]; exact hl) h2
    · rw [putAll_not ops _ i h2]
      have h3 : o.dst = some i := by
        unfold dstsG at hi h2
        rw [List.filterMap_cons] at hi
        cases ho : o.dst with
        | none => rw [ho] at hi; exact absurd hi h2
        | some d =>
          rw [ho] at hi
          rcases List.mem_cons.1 hi with rfl | hi
          · rfl
          · exact absurd hi h2
      rw [put_getD, if_pos ⟨h3, hl⟩]

theorem xops_unwanted {gd : Option (Nat × Bool)} : ∀ (ops : List XOper) (T : List AVal) (A : AH), ops.all (sameGd gd) = true → wants T gd = some false → ∀ all rest, xops cal0 all (ops ++ rest) T [] A = xops cal0 all rest (putAll T ops) [] A
  | [], _, _, _, _, _, _ => rfl
  | o :: ops, T, A, hs, hw, all, rest => by
    rw [List.all_cons, Bool.and_eq_true] at hs
    rw [List.cons_append]
    conv => lhs; unfold xops
    rw [(sameGd_inv hs.1).1, hw]
    exact xops_unwanted ops _ A hs.2 (by rw [wants_put hs.1]; exact hw) all rest

theorem okG_inv {g : Grp} (h : okG N g = true) : (∀ i, i ∈ g.keep → i ∈ dstsG g.ops) ∧ (∀ d, d ∈ dstsG g.ops → d < N) ∧ g.ops.all (sameGd g.gd) = true := by
  unfold okG at h
  rw [Bool.and_eq_true, Bool.and_eq_true] at h
  obtain ⟨⟨h1, h2⟩, h3⟩ := h
  rw [List.all_eq_true] at h1 h2
  exact ⟨fun i hi => by simpa using h1 i hi, fun d hd => by simpa using h2 d hd, h3⟩

theorem gd_wants {g : Nat} {b : Bool} (h : EnvRel N env T) (hh : hasE env [g] = true) {x y : Res} (hne : wantK (sOf env g) b x y ≠ .stuck) :
    (wants T (some (g, b)) = some true ∧ wantK (sOf env g) b x y = x) ∨ (wants T (some (g, b)) = some false ∧ wantK (sOf env g) b x y = y) := by
  have hs : sOf env g = T.getD g .junk := agrees_of h hh g (by simp)
  simp only [wants]
  rw [hs] at hne ⊢
  unfold wantK at hne ⊢
  split at hne
  · rename_i c hc
    rw [hc, bsel_eq]
    by_cases hcb : (c == b) = true
    · left; rw [if_pos hcb]; exact ⟨by simp [hcb], rfl⟩
    · right; rw [if_neg hcb]; exact ⟨by simpa using hcb, rfl⟩
  · rename_i hc
    rw [hc]
    exact .inr ⟨rfl, rfl⟩
  · exact absurd rfl hne

theorem grpK_ok (hle : Le0 call cal0) {k : Env → AH → Res} {g : Grp} (h : EnvRel N env T) (hne : grpK call N g env A k ≠ .stuck) :
    (∃ env' T' A', EnvRel N env' T' ∧ grpK call N g env A k = k env' A' ∧ ∀ all rest, xops cal0 all (g.ops ++ rest) T [] A = xops cal0 all rest T' [] A') ∨
    (∃ v A', grpK call N g env A k = .pan v A' ∧ ∀ all rest, ∃ T', xops cal0 all (g.ops ++ rest) T [] A = .pan v T' [] A') := by
  obtain ⟨gd, keep, ops⟩ := g
  cases gd with
  | none =>
    have hne' : ops0K call N none ops k env A ≠ .stuck := hne
    rcases ops0K_ok hle ops env T A h rfl hne' with ⟨env', T', A', h1, _, e, h2⟩ | ⟨v, A', e, h2⟩
    · exact .inl ⟨env', T', A', h1, e, h2⟩
    · exact .inr ⟨v, A', e, h2⟩
  | some tb =>
    obtain ⟨t, b⟩ := tb
    have hne' : grpG call N ⟨some (t, b), keep, ops⟩ t b env A k ≠ .stuck := hne
    show (∃ env' T' A', EnvRel N env' T' ∧ grpG call N ⟨some (t, b), keep, ops⟩ t b env A k = k env' A' ∧ _) ∨ (∃ v A', grpG call N ⟨some (t, b), keep, ops⟩ t b env A k = .pan v A' ∧ _)
    unfold grpG at hne' ⊢
    have hg := bsel_stuck hne'
    rw [hg] at hne' ⊢
    obtain ⟨g1, g2, g3⟩ := okG_inv hg
    have ht := bsel_stuck (b := hasE env [t]) hne'
    rw [ht] at hne' ⊢
    simp only [show ∀ (x y : Res), bsel true x y = x from fun _ _ => rfl, joinV, forceE_eq] at hne' ⊢
    rcases gd_wants h ht hne' with ⟨hw, e⟩ | ⟨hw, e⟩
    · rw [e] at hne' ⊢
      rcases ops0K_ok hle ops env T A h hw hne' with ⟨env', T', A', h1, h5, e2, h2⟩ | ⟨v, A', e2, h2⟩
      · rw [e2] at hne' ⊢
        have h4 := toJ_ok h1 hne'
        exact .inl ⟨revE T' keep [] ++ dropE (dstsG ops) env, T', A', h.app h1.len (EnvRel.rev h1.len keep).look h5, h4, h2⟩
      · exact .inr ⟨v, A', e2, h2⟩
    · rw [e]
      have hl : N ≤ (putAll T ops).length := by rw [putAll_length]; exact h.len
      refine .inl ⟨revE (putAll T ops) keep [] ++ dropE (dstsG ops) env, putAll T ops, A, h.app hl (EnvRel.rev hl keep).look (putAll_not ops T), ?_, xops_unwanted ops T A g3 hw⟩
      exact appU_ok (m := 1) (kk := fun (h : HT 1) => (h : AH → Res) A) (putAll T ops) fun i hi => putAll_mem ops T i (Nat.lt_of_lt_of_le (g2 i (g1 i hi)) h.len) (g1 i hi)

def opsGK (call : FuncId → List AVal → AH → Res) (N : Nat) (gs : List Grp) (k : Env → AH → Res) (env : Env) (A : AH) : Res :=
  List.rec (motive := fun _ => Env → AH → Res) (fun env A => k env A) (fun g _ ih env A => grpK call N g env A ih) gs env A

theorem opsGK_ok (hle : Le0 call cal0) {k : Env → AH → Res} : ∀ (gs : List Grp) (env : Env) (T : List AVal) (A : AH), EnvRel N env T → opsGK call N gs k env A ≠ .stuck →
    (∃ env' T' A', EnvRel N env' T' ∧ opsGK call N gs k env A = k env' A' ∧ ∀ all, xops cal0 all (gs.flatMap Grp.ops) T [] A = .norm T' [] A') ∨
    (∃ v A', opsGK call N gs k env A = .pan v A' ∧ ∀ all, ∃ T', xops cal0 all (gs.flatMap Grp.ops) T [] A = .pan v T' [] A')
  | [], env, T, A, h, hne => .inl ⟨env, T, A, h, rfl, fun all => by simp only [List.flatMap_nil, xops]⟩
  | g :: gs, env, T, A, h, hne => by
    have hne' : grpK call N g env A (opsGK call N gs k) ≠ .stuck := hne
    rcases grpK_ok hle h hne' with ⟨env', T', A', h1, e, h2⟩ | ⟨v, A', e, h2⟩
    · rw [e] at hne'
      have e' : opsGK call N (g :: gs) k env A = opsGK call N gs k env' A' := e
      rcases opsGK_ok hle gs env' T' A' h1 hne' with ⟨env2, T2, A2, h3, e2, h4⟩ | ⟨v, A2, e2, h4⟩
      · exact .inl ⟨env2, T2, A2, h3, by rw [e', e2], fun all => by rw [List.flatMap_cons, h2, h4]⟩
      · exact .inr ⟨v, A2, by rw [e', e2], fun all => by rw [List.flatMap_cons, h2]; exact h4 all⟩
    · exact .inr ⟨v, A', e, fun all => by rw [List.flatMap_cons]; exact h2 all _⟩

end
end
end Ab
