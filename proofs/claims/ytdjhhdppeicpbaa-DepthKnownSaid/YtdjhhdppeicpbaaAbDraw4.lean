/- Regions whose order is open: the slots, and one operation. -/
import Derived.Test.YtdjhhdppeicpbaaAbDraw3
namespace Ab
open Go

theorem act_put_getD (a : Act) (d : Option Nat) (v : Value) (r : Nat) : (a.put d v).tmps.getD r undef = if d = some r ∧ r < a.tmps.size then v else a.tmps.getD r undef := by
  cases d with
  | none => simp [Act.put]
  | some d =>
    simp only [Act.put, Option.some.injEq]
    by_cases h : d = r
    · subst h
      by_cases hl : d < a.tmps.size
      · simp [Array.getD, hl]
      · simp [Array.getD, hl]
    · simp only [h, false_and, if_false]
      by_cases hl : r < a.tmps.size
      · simp [Array.getD, hl, h]
      · simp [Array.getD, hl]

theorem act_put_size (a : Act) (d : Option Nat) (v : Value) : (a.put d v).tmps.size = a.tmps.size := by cases d <;> simp [Act.put]

theorem trel_of_getD {ρ : Ren} {T : List AVal} {tmps : Array Value} (hl : T.length = tmps.size) (h : ∀ r, VRel ρ (T.getD r .junk) (tmps.getD r undef)) : TRel ρ T tmps := by
  refine ⟨by simpa using hl, fun i a v ha hv => ?_⟩
  have := h i
  rw [List.getD_eq_getElem?_getD, ha] at this
  have hi : i < tmps.size := by
    rcases Nat.lt_or_ge i tmps.size with h' | h'
    · exact h'
    · rw [List.getElem?_eq_none (by simpa using h')] at hv; cases hv
  have hv' : tmps[i] = v := by
    rw [List.getElem?_eq_getElem (by simpa using hi)] at hv
    simpa using hv
  simpa [Array.getD, hi, hv'] using this

structure Slots (xs : List XOper) (m : Nat) (st : Nat → DSt) (T0 : List AVal) (L : Nat → Bool) (ρ : Ren) (a : Act) : Prop where
  s1 : ∀ (j : Nat) (x : XOper) (d : Nat), L j = true → xs[j]? = some x → x.dst = some d → VRel ρ ((st m).T.getD d .junk) (a.tmps.getD d undef)
  s0 : ∀ r, (∀ (j : Nat) (x : XOper), L j = true → xs[j]? = some x → x.dst ≠ some r) → VRel ρ (T0.getD r .junk) (a.tmps.getD r undef)
  len : T0.length = a.tmps.size

section
variable {P : Program} {call : FuncId → List AVal → AH → Res} {ops : Array Oper} {xs : List XOper} {tb : List Nat} {chk : List (Nat × Nat × Nat)} {T0 : List AVal} {D0 : List ADef} {A0 : AH} {m : Nat} {st : Nat → DSt} {ρ0 ρ : Ren} {w0 w : World} {L : Nat → Bool} {s : Nat} {a : Act}

theorem Slots.put (ht : Text call xs T0 D0 A0 m st) (h : Slots xs m st T0 L ρ a) {i : Nat} {x : XOper} (hx : xs[i]? = some x) {ρ' : Ren} (hext : ∀ b e, ρ b = some e → ρ' b = some e) {v' : Value}
    (hv : ∀ d, x.dst = some d → VRel ρ' ((st m).T.getD d .junk) v') : Slots xs m st T0 (ins L i) ρ' (a.put x.dst v') := by
  refine ⟨fun j y d hj hy hd => ?_, fun r hr => ?_, by rw [act_put_size]; exact h.len⟩
  · rw [act_put_getD]
    split
    · rename_i hc; exact hv d hc.1
    · rename_i hc
      simp only [ins, Bool.or_eq_true, beq_iff_eq] at hj
      rcases hj with rfl | hj
      · rw [hx] at hy; cases hy
        have hge : ¬ d < a.tmps.size := fun hlt => hc ⟨hd, hlt⟩
        have : (st m).T.getD d .junk = .junk := by
          rw [List.getD_eq_getElem?_getD, List.getElem?_eq_none (by rw [ht.length m (Nat.le_refl _), h.len]; omega)]; rfl
        rw [this]; exact .junk _
      · exact (h.s1 j y d hj hy hd).mono hext
  · rw [act_put_getD, if_neg fun hc => hr i x (by simp [ins]) hx hc.1]
    exact (h.s0 r fun j y hj => hr j y (by simp [ins, hj])).mono hext

theorem getD_range_map (n : Nat) (f : Nat → AVal) (r : Nat) (d : AVal) : ((List.range n).map f).getD r d = if r < n then f r else d := by
  rw [List.getD_eq_getElem?_getD, List.getElem?_map]
  by_cases h : r < n
  · rw [List.getElem?_range h, if_pos h]; rfl
  · rw [List.getElem?_eq_none (by simpa using h), if_neg h]; rfl

/-- What an operation reads is what it reads in the text's order. -/
theorem Slots.view (ht : Text call xs T0 D0 A0 m st) (hD : Drawn P ops xs tb chk) (h : Slots xs m st T0 L ρ a) (hdown : ∀ i j, L i = true → Before tb i j → L j = true) {i : Nat} {x : XOper} (him : i ≤ m) (hLi : L i = false) (hx : xs[i]? = some x) (hready : ∀ j, Before tb i j → L j = true) :
    ∃ T', TRel ρ T' a.tmps ∧ Same (st i).T T' (operReads x) := by
  have hin : i < xs.length := (List.getElem?_eq_some_iff.1 hx).1
  have hlen := ht.length i him
  have key : ∀ r, r ∈ operReads x → VRel ρ ((st i).T.getD r .junk) (a.tmps.getD r undef) := by
    intro r hr
    have init : (∀ (l : Nat) (y : XOper), l < i → xs[l]? = some y → y.dst ≠ some r) → (∀ (j : Nat) (y : XOper), L j = true → xs[j]? = some y → y.dst ≠ some r) → VRel ρ ((st i).T.getD r .junk) (a.tmps.getD r undef) := by
      intro h1 h2
      rw [ht.slot (i := 0) i (Nat.zero_le _) him fun l y _ hl hy => h1 l y hl hy, ht.st0]
      exact h.s0 r h2
    by_cases hw : ∃ (j : Nat) (y : XOper), xs[j]? = some y ∧ y.dst = some r
    · obtain ⟨j, y, hy, hd⟩ := hw
      rcases hD.slots i x hx r hr j y hy hd with rfl | hb | hb
      · refine init (fun l z hl hz hzd => ?_) fun l z hLl hz hzd => ?_
        · have := hD.dst hy hz hd hzd; omega
        · have := hD.dst hy hz hd hzd
          subst this
          rw [hLi] at hLl; cases hLl
      · have hji := before_lt hD i j (by rw [← hD.len]; exact hin) hb
        rw [← ht.slot (i := i) m him (Nat.le_refl _) fun l z h1 h2 hz hzd => by have := hD.dst hy hz hd hzd; omega]
        exact h.s1 j y r (hready j hb) hy hd
      · have hjn : j < xs.length := (List.getElem?_eq_some_iff.1 hy).1
        have hij := before_lt hD j i (by rw [← hD.len]; exact hjn) hb
        refine init (fun l z hl hz hzd => ?_) fun l z hLl hz hzd => ?_
        · have := hD.dst hy hz hd hzd; omega
        · have := hD.dst hy hz hd hzd
          subst this
          have := hdown j i hLl hb
          rw [hLi] at this; cases this
    · exact init (fun l z _ hz hzd => hw ⟨l, z, hz, hzd⟩) fun l z _ hz hzd => hw ⟨l, z, hz, hzd⟩
  refine ⟨(List.range a.tmps.size).map fun r => if r ∈ operReads x then (st i).T.getD r .junk else .junk, trel_of_getD (by simp) fun r => ?_, fun r hr => ?_⟩
  · rw [getD_range_map]
    by_cases hr : r < a.tmps.size
    · rw [if_pos hr]
      by_cases hm : r ∈ operReads x
      · rw [if_pos hm]; exact key r hm
      · rw [if_neg hm]; exact .junk _
    · rw [if_neg hr]; exact .junk _
  · rw [getD_range_map]
    by_cases hlt : r < a.tmps.size
    · rw [if_pos hlt, if_pos hr]
    · rw [if_neg hlt, List.getD_eq_getElem?_getD, List.getElem?_eq_none (by rw [hlen, h.len]; omega)]
      rfl

theorem Text.written (ht : Text call xs T0 D0 A0 m st) (hD : Drawn P ops xs tb chk) {i : Nat} {x : XOper} (him : i < m) (hx : xs[i]? = some x) {d : Nat} (hd : x.dst = some d) {v : AVal} (hT : (st (i + 1)).T = Ab.put (st i).T x.dst v) :
    (st m).T.getD d .junk = v ∨ (st m).T.getD d .junk = .junk := by
  rw [ht.slot (i := i + 1) m him (Nat.le_refl _) fun l z h1 h2 hz hzd => by have := hD.dst hx hz hd hzd; omega, hT, put_getD]
  split
  · exact .inl rfl
  · rename_i hc
    right
    have : ¬ d < (st i).T.length := fun h => hc ⟨hd, h⟩
    rw [List.getD_eq_getElem?_getD, List.getElem?_eq_none (by omega)]; rfl

theorem Text.written_rel (ht : Text call xs T0 D0 A0 m st) (hD : Drawn P ops xs tb chk) {i : Nat} {x : XOper} (him : i < m) (hx : xs[i]? = some x) {v : AVal} (hT : (st (i + 1)).T = Ab.put (st i).T x.dst v) {ρ' : Ren} {v' : Value} (hv : VRel ρ' v v') :
    ∀ d, x.dst = some d → VRel ρ' ((st m).T.getD d .junk) v' := by
  intro d hd
  rcases ht.written hD him hx hd hT with h | h
  · rw [h]; exact hv
  · rw [h]; exact .junk _

theorem aread_mono {T : List AVal} {A A' : AH} (h : ∀ b x, A.get b = some x → A'.get b = some x) {op : XOp} {v : AVal} (hv : aread T A op = some v) : aread T A' op = some v := by
  have h1 : ∀ b o v, A.rd1 b o = some v → A'.rd1 b o = some v := by
    intro b o v hv
    unfold AH.rd1 at hv ⊢
    split at hv
    · rename_i ro cs hg; rw [h b _ hg]; exact hv
    · cases hv
  have h2 : ∀ b o n v, A.rd b o n = some v → A'.rd b o n = some v := by
    intro b o n v hv
    unfold AH.rd at hv ⊢
    split at hv
    · rename_i ro cs hg; rw [h b _ hg]; exact hv
    · cases hv
  cases op with
  | load1 x =>
    simp only [aread] at hv ⊢
    split at hv
    · exact h1 _ _ _ hv
    · cases hv
  | loadN n x =>
    simp only [aread] at hv ⊢
    split at hv
    · split at hv
      · rename_i cs hcs; rw [h2 _ _ _ _ hcs]; exact hv
      · cases hv
    · cases hv
  | cvbs x =>
    simp only [aread] at hv ⊢
    split at hv
    · exact hv
    · split at hv
      · rename_i cs hcs; rw [h2 _ _ _ _ hcs]; exact hv
      · cases hv
    · cases hv
  | lookup ki z ok mm k =>
    simp only [aread] at hv ⊢
    split at hv
    · exact hv
    · split at hv
      · rename_i es c hg; rw [h _ _ hg]; exact hv
      · cases hv
    · cases hv
  | blenm mm =>
    simp only [aread] at hv ⊢
    split at hv
    · exact hv
    · split at hv
      · rename_i es c hg; rw [h _ _ hg]; exact hv
      · cases hv
    · cases hv
  | _ => simp [aread] at hv

theorem chkOk_get {T : List AVal} {bs : List AH} {lim : Nat} : ∀ {chk : List (Nat × Nat × Nat)}, chkOk xs T bs lim chk = true → ∀ r lo hi, (r, lo, hi) ∈ chk →
    ∃ o, xs[r]? = some o ∧ (lim ≤ r ∨ wants T o.guard = some false ∨ (wants T o.guard = some true ∧ ∀ j, lo ≤ j → j ≤ hi → ∀ B, bs[j]? = some B → ∃ v d, aread T B o.op = some v ∧ o.dst = some d ∧ T.getD d .junk = v))
  | [], _, r, lo, hi, hm => by cases hm
  | (r', lo', hi') :: rest, h, r, lo, hi, hm => by
    simp only [chkOk, Bool.and_eq_true] at h
    rcases List.mem_cons.1 hm with heq | hm
    · cases heq
      have h1 := h.1
      split at h1
      · cases h1
      · rename_i o ho
        refine ⟨o, ho, ?_⟩
        split at h1
        · exact .inl (by assumption)
        · split at h1
          · rename_i hw; exact .inr (.inl hw)
          · rename_i hw
            refine .inr (.inr ⟨hw, fun j hj1 hj2 B hB => ?_⟩)
            rw [List.all_eq_true] at h1
            have := h1 (j - lo') (List.mem_range.2 (by omega))
            rw [show lo' + (j - lo') = j by omega, hB] at this
            simp only at this
            split at this
            · rename_i v d hv hd
              exact ⟨v, d, hv, hd, AVal.same_eq this⟩
            · cases this
          · cases h1
    · exact chkOk_get h.2 r lo hi hm

theorem cChk_cover {chain : List Nat} : ∀ {rs : List Nat} {r : Nat}, r ∈ rs → (chkOf tb chain r).1 = (chkOf tb chain r).2.1 ∧ (chkOf tb chain r).2.2 = (chkOf tb chain r).2.1 ∨ (r, (chkOf tb chain r).1, (chkOf tb chain r).2.2) ∈ cChk tb chain rs
  | [], r, h => by cases h
  | r' :: rs, r, h => by
    rcases List.mem_cons.1 h with rfl | h
    · by_cases hc : (chkOf tb chain r).1 = (chkOf tb chain r).2.1 ∧ (chkOf tb chain r).2.2 = (chkOf tb chain r).2.1
      · exact .inl hc
      · right
        have : cChk tb chain (r :: rs) = (r, (chkOf tb chain r).1, (chkOf tb chain r).2.2) :: cChk tb chain rs := by
          simp only [cChk]
          rw [if_neg hc]
        rw [this]
        exact List.mem_cons_self
    · rcases cChk_cover (chain := chain) h with h' | h'
      · exact .inl h'
      · right
        simp only [cChk]
        split
        · exact h'
        · exact List.mem_cons_of_mem _ h'

structure DInv (xs : List XOper) (tb : List Nat) (T0 : List AVal) (D0 : List ADef) (A0 : AH) (m : Nat) (st : Nat → DSt) (ρ0 : Ren) (w0 : World) (L : Nat → Bool) (a : Act) (w : World) : Prop where
  lm : ∀ j, L j = true → j < m
  down : ∀ i j, L i = true → Before tb i j → L j = true
  ex : ∃ ρ s, HeapI xs A0 m st ρ0 w0 L ρ w s ∧ Slots xs m st T0 L ρ a ∧ DRel ρ D0 a.defers

theorem DInv.next (hI : DInv xs tb T0 D0 A0 m st ρ0 w0 L a w) {i : Nat} (him : i < m) (hready : ∀ j, Before tb i j → L j = true) {a' : Act} {w' : World}
    (h : ∃ ρ s, HeapI xs A0 m st ρ0 w0 (ins L i) ρ w' s ∧ Slots xs m st T0 (ins L i) ρ a' ∧ DRel ρ D0 a'.defers) : DInv xs tb T0 D0 A0 m st ρ0 w0 (ins L i) a' w' := by
  refine ⟨fun j hj => ?_, fun j l hj hb => ?_, h⟩
  · simp only [ins, Bool.or_eq_true, beq_iff_eq] at hj
    rcases hj with rfl | hj
    · exact him
    · exact hI.lm j hj
  · simp only [ins, Bool.or_eq_true, beq_iff_eq] at hj ⊢
    rcases hj with rfl | hj
    · exact .inr (hready l hb)
    · exact .inr (hI.down j l hj hb)

theorem DInv.cl_chain_eq (hD : Drawn P ops xs tb chk) (hI : DInv xs tb T0 D0 A0 m st ρ0 w0 L a w) {i : Nat} {x : XOper} (hx : xs[i]? = some x) (hc : isChain x.op = true) (hLi : L i = false) (hready : ∀ j, Before tb i j → L j = true) : cnt xs i = cl xs L := by
  have hi : i ∈ placesOf (fun o => isChain o.op) xs := mem_placesOf.2 ⟨x, hx, hc⟩
  unfold cnt cl
  apply List.countP_congr
  intro e he
  simp only [decide_eq_true_eq]
  constructor
  · intro h; exact hready e (hD.chain e i he hi h)
  · intro h
    rcases Nat.lt_trichotomy e i with h' | h' | h'
    · exact h'
    · subst h'; rw [hLi] at h; cases h
    · have := hI.down e i h (hD.chain i e hi he h')
      rw [hLi] at this; cases this

theorem DInv.cl_le (hI : DInv xs tb T0 D0 A0 m st ρ0 w0 L a w) : cl xs L ≤ cnt xs m := by
  unfold cnt cl
  apply List.countP_mono_left
  intro e _ h
  simp only [decide_eq_true_eq]
  exact hI.lm e h

theorem DInv.step (hcall : CallOk P call) (hD : Drawn P ops xs tb chk) (ht : Text call xs T0 D0 A0 m st) (hchk : chkOk xs (st m).T ((st m).A :: (st m).bs).reverse m chk = true)
    (hcov : chk = cChk tb (placesOf (fun o => isChain o.op) xs) (placesOf (fun o => isRead o.op) xs)) (hI : DInv xs tb T0 D0 A0 m st ρ0 w0 L a w) {i : Nat} {o : Oper} (ho : ops[i]? = some o) (hLi : L i = false) (hready : ∀ j, Before tb i j → L j = true) (him : i < m)
    {K : Act → World → Prop} {Q : Exit → Act → World → Prop} (hK : ∀ a' w', DInv xs tb T0 D0 A0 m st ρ0 w0 (ins L i) a' w' → K a' w') : wpOp P ops Q i K a w := by
  obtain ⟨x, hx, hdst, hop, hg⟩ := hD.op i o ho
  have hin : i < xs.length := (List.getElem?_eq_some_iff.1 hx).1
  obtain ⟨ρ, s, hH, hS, hDef⟩ := hI.ex
  obtain ⟨T', hT', hsame⟩ := hS.view ht hD hI.down (by omega) hLi hx hready
  have hs1 : Same (st i).T T' (opReads x.op) := hsame.left
  have hwants : wants (st i).T x.guard = wants T' x.guard := wants_congr (by have := hsame.right; cases hxg : x.guard <;> simpa [hxg] using this)
  have hst := ht.step i x him hx
  unfold wpOp
  simp only [ho]
  have hout : ∀ b, wants (st i).T x.guard = some b → Region.wanted o (yielded ops a.tmps) = b := fun b hb => wants_sound hT' hg (by rw [← hwants]; exact hb)
  -- one that is run, and turns no memory
  have same : ∀ (v : AVal) (v' : Value), isChain x.op = false → (∀ y, ¬ Fr xs m st i y) → (∀ d, x.dst = some d → VRel ρ ((st m).T.getD d .junk) v') → K (a.put o.dst v') w := by
    intro v v' hc hf hv
    rw [← hdst]
    exact hK _ _ (hI.next him hready ⟨ρ, s, hH.same hLi hx hc hf, hS.put ht hx (fun _ _ h => h) hv, by rw [Act.defers_put]; exact hDef⟩)
  generalize hs' : st (i + 1) = s' at hst
  cases hst with
  | skip hw =>
    rw [hout false hw]
    simp only [Bool.false_eq_true, if_false]
    rw [← hdst]
    have hv := ht.written_rel hD him hx (by rw [hs']) (VRel.tuple' (ρ := ρ) (cs := []) (vs := #[]) .nil)
    by_cases hc : isChain x.op = true
    · have hk := hI.cl_chain_eq hD hx hc hLi hready
      have hB := ht.bmem_chain him hx hc
      rw [hk] at hB
      have := hH.chain ht him hLi hx hc hk (ρ' := ρ) (w' := w) (by rw [hs', hB]; have h := Step.refl hH.rel; rw [hB] at h; exact h)
      exact hK _ _ (hI.next him hready ⟨ρ, i + 1, this, hS.put ht hx (fun _ _ h => h) hv, by rw [Act.defers_put]; exact hDef⟩)
    · simp only [Bool.not_eq_true] at hc
      have := hH.same hLi hx hc (by rintro y ⟨_, z, hz, _, _, hz2, _⟩; rw [hx] at hz; cases hz; rw [hw] at hz2; cases hz2)
      exact hK _ _ (hI.next him hready ⟨ρ, s, this, hS.put ht hx (fun _ _ h => h) hv, by rw [Act.defers_put]; exact hDef⟩)
  | @pure v hw hp hv =>
    rw [hout true hw]
    simp only [if_true]
    left
    unfold Oper.wp
    rw [apure_congr hs1] at hv
    obtain ⟨v', h1, h2⟩ := pure_sound hT' hop hp hv
    rw [h2 w]
    exact same v v' (by simp [isChain, hp]) (by rintro y ⟨_, z, hz, hz2, _⟩; rw [hx] at hz; cases hz; cases hop' : x.op <;> simp [hop', isFree, isPure] at hz2 hp) (ht.written_rel hD him hx (by rw [hs']) h1)
  | @read v hw hp hr hv =>
    rw [hout true hw]
    simp only [if_true]
    left
    unfold Oper.wp
    have hc : isChain x.op = false := by simp [isChain, hr]
    have hf : ∀ y, ¬ Fr xs m st i y := by rintro y ⟨_, z, hz, hz2, _⟩; rw [hx] at hz; cases hz; cases hop' : x.op <;> simp [hop', isFree, isRead] at hz2 hr
    have hlo : (chkOf tb (placesOf (fun o => isChain o.op) xs) i).1 ≤ cl xs L := by
      simp only [chkOf, ← List.countP_eq_length_filter]
      unfold cl
      apply List.countP_mono_left
      intro e _ h
      exact hready e h
    have hhi : cl xs L ≤ (chkOf tb (placesOf (fun o => isChain o.op) xs) i).2.2 := by
      simp only [chkOf, ← List.countP_eq_length_filter]
      unfold cl
      apply List.countP_mono_left
      intro e _ h
      cases hb : (tb.getD e 0).testBit i with
      | false => rfl
      | true =>
        have := hI.down e i h hb
        rw [hLi] at this; cases this
    have hmid : (chkOf tb (placesOf (fun o => isChain o.op) xs) i).2.1 = cnt xs i := by
      simp only [chkOf, ← List.countP_eq_length_filter]
      rfl
    rcases cChk_cover (tb := tb) (chain := placesOf (fun o => isChain o.op) xs) (mem_placesOf.2 ⟨x, hx, hr⟩ : i ∈ placesOf (fun o => isRead o.op) xs) with hcc | hcc
    · have hk : cnt xs i = cl xs L := by omega
      have hv2 : aread T' (bmem st m (cl xs L)) x.op = some v := by
        rw [← aread_congr hs1]
        refine aread_mono (fun b y hb => ?_) hv
        rw [← hk]
        rcases (ht.seg (m - i) i rfl (by omega)).2 b with h | ⟨j, z, h1, h2, h3, h4, h5⟩
        · rw [h]; exact hb
        · have := (ht.holes hH.hole i (hH.before (by omega)) (by omega) (by rw [hk, hH.scnt])).2 j h1 (Nat.lt_of_lt_of_le h3.1 ht.le)
          rw [h4, this] at hb; cases hb
      obtain ⟨v', h1, h2⟩ := read_sound hH.rel hT' hop hr hv2
      rw [h2]
      exact same v v' hc hf (ht.written_rel hD him hx (by rw [hs']) h1)
    · rw [← hcov] at hcc
      obtain ⟨x1, hx1, hread⟩ := hD.chk _ hcc
      rw [hx] at hx1; cases hx1
      have hfin : ∀ r, r ∈ operReads x → (st m).T.getD r .junk = (st i).T.getD r .junk := by
        intro r hr'
        refine ht.slot (i := i) m (by omega) (Nat.le_refl _) fun l z h1 h2 hz hzd => ?_
        have := before_lt hD i l (by rw [← hD.len]; exact hin) (hread r hr' l z hz hzd)
        omega
      have hsameF : Same (st m).T T' (operReads x) := fun r hr' => (hfin r hr').trans (hsame r hr')
      obtain ⟨x2, hx2, hcase⟩ := chkOk_get hchk _ _ _ hcc
      rw [hx] at hx2; cases hx2
      have hwf : wants (st m).T x.guard = some true := by
        rw [← hw]
        exact wants_congr (by have : Same (st m).T (st i).T (operReads x) := hfin; have := this.right; cases hxg : x.guard <;> simpa [hxg] using this)
      rcases hcase with h | h | ⟨_, h⟩
      · omega
      · rw [hwf] at h; cases h
      · obtain ⟨v2, d, k1, k2, k3⟩ := h (cl xs L) hlo hhi _ (ht.bmem_get hI.cl_le)
        rw [aread_congr hsameF.left] at k1
        obtain ⟨v', h1, h2⟩ := read_sound hH.rel hT' hop hr k1
        rw [h2]
        refine same v2 v' hc hf fun d' hd' => ?_
        rw [k2] at hd'; cases hd'
        rw [k3]; exact h1
  | @free y k hw hp hr hf hv =>
    rw [hout true hw]
    simp only [if_true]
    left
    unfold Oper.wp
    have hc : isChain x.op = false := by simp [isChain, hf]
    have hfr : Fr xs m st i y := ⟨him, x, hx, hf, hc, hw, k, hv⟩
    rw [afree_congr hs1] at hv
    obtain ⟨ob, csz, v', h1, h2⟩ := free_sound (w := w) hT' hop hf hv
    obtain ⟨h3, h4⟩ := h2 (A0.next + i) (hH.later i hin hLi)
    rw [h1]
    have hk : cl xs L ≤ cnt xs i := by
      unfold cl cnt
      apply List.countP_mono_left
      intro e he h
      simp only [decide_eq_true_eq]
      rcases Nat.lt_trichotomy e i with h' | h' | h'
      · exact h'
      · subst h'; rw [hLi] at h; cases h
      · have := hI.down e i h (hD.free i e (mem_placesOf.2 ⟨x, hx, hf⟩) he h')
        rw [hLi] at this; cases this
    have hN := hH.free ht hLi hx hc hfr hk h3
    have hext := upd_ext (e := ⟨w.heap.size, 0, csz⟩) (hH.later i hin hLi)
    show K (a.put o.dst v') _
    rw [← hdst]
    exact hK _ _ (hI.next him hready ⟨_, s, hN, hS.put ht hx hext (ht.written_rel hD him hx (by rw [hs']) h4), by rw [Act.defers_put]; exact hDef.mono hext⟩)
  | @call f args v A' hw hc hcal hres =>
    rw [hout true hw]
    simp only [if_true]
    left
    unfold Oper.wp
    have hk := hI.cl_chain_eq hD hx hc hLi hready
    have hB := ht.bmem_chain him hx hc
    rw [hk] at hB
    rw [acallee_congr hs1, ← hB] at hcal
    obtain ⟨args', h1, h2⟩ := acallee_sound hH.rel hT' hop hcal
    rw [h2]
    rw [← hB] at hres
    have hd := hcall f args _ ρ w args' hH.rel h1 (by rw [hres]; simp)
    rw [hres] at hd
    refine upon_does hd ?_ ?_ ?_
    · rintro u w' ⟨ρ', v', e1, e2, e3⟩
      cases e1
      have hN := hH.chain ht him hLi hx hc hk (by rw [hs']; exact e3)
      rw [← hdst]
      exact hK _ _ (hI.next him hready ⟨ρ', i + 1, hN, hS.put ht hx (e3.ext hH.rel) (ht.written_rel hD him hx (by rw [hs']) e2), by rw [Act.defers_put]; exact hDef.mono (e3.ext hH.rel)⟩)
    · rintro c w' ⟨ρ', v', e1, _⟩; cases e1
    · rintro w' ⟨ρ', v', e1, _⟩; cases e1
  | @chain v A' hw hc hv =>
    rw [hout true hw]
    simp only [if_true]
    left
    unfold Oper.wp
    have hk := hI.cl_chain_eq hD hx hc hLi hready
    have hB := ht.bmem_chain him hx hc
    rw [hk] at hB
    rw [achain_congr hs1, ← hB] at hv
    obtain ⟨ρ', n, v', w', h1, h2, h3, h4⟩ := chain_sound hH.rel hT' hop hv
    rw [h1]
    have hN := hH.chain ht him hLi hx hc hk (by rw [hs']; exact h4)
    refine upon_gives h2 ?_
    rw [← hdst]
    exact hK _ _ (hI.next him hready ⟨ρ', i + 1, hN, hS.put ht hx (h4.ext hH.rel) (ht.written_rel hD him hx (by rw [hs']) h3), by rw [Act.defers_put]; exact hDef.mono (h4.ext hH.rel)⟩)

end
end Ab
