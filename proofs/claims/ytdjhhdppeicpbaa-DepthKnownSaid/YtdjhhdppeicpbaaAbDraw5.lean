/- Regions whose order is open: every order; and the executor's soundness, whole. -/
import Derived.Test.YtdjhhdppeicpbaaAbDraw4
namespace Ab
open Go

theorem forget_length : ∀ (xs : List XOper) (T : List AVal), (forget T xs).length = T.length
  | [], _ => rfl
  | x :: xs, T => by rw [forget, forget_length xs, put_length]

theorem forget_getD (r : Nat) : ∀ (xs : List XOper) (T : List AVal), (forget T xs).getD r .junk = .junk ∨ ((∀ (j : Nat) (x : XOper), xs[j]? = some x → x.dst ≠ some r) ∧ (forget T xs).getD r .junk = T.getD r .junk)
  | [], T => .inr ⟨by simp, rfl⟩
  | x :: xs, T => by
    rw [forget]
    rcases forget_getD r xs (put T x.dst .junk) with h | ⟨h1, h2⟩
    · exact .inl h
    · rw [h2, put_getD]
      by_cases hc : x.dst = some r ∧ r < T.length
      · rw [if_pos hc]; exact .inl rfl
      · rw [if_neg hc]
        by_cases hd : x.dst = some r
        · left
          have : ¬ r < T.length := fun h => hc ⟨hd, h⟩
          rw [List.getD_eq_getElem?_getD, List.getElem?_eq_none (by omega)]; rfl
        · refine .inr ⟨fun j y hy => ?_, rfl⟩
          cases j with
          | zero => simp at hy; subst hy; exact hd
          | succ j => exact h1 j y (by simpa using hy)

theorem cNp_get {tb : List Nat} {n : Nat} : ∀ {es : List Nat} {p : Nat}, p ∈ es → (cNp tb n es).contains p = false → ∀ j, p < j → j < n → Before tb j p
  | [], p, h, _, j, _, _ => by cases h
  | e :: es, p, h, hn, j, hj, hjn => by
    simp only [cNp] at hn
    rcases List.mem_cons.1 h with rfl | h
    · split at hn
      · rename_i hall
        rw [List.all_eq_true] at hall
        have := hall (j - (p + 1)) (List.mem_range.2 (by omega))
        rw [show p + 1 + (j - (p + 1)) = j by omega] at this
        exact this
      · simp at hn
    · split at hn
      · exact cNp_get h hn j hj hjn
      · simp only [List.contains_cons, Bool.or_eq_false_iff] at hn
        exact cNp_get h hn.2 j hj hjn

section
variable {P : Program} {call : FuncId → List AVal → AH → Res} {ops : Array Oper} {xs : List XOper} {tb : List Nat} {chk : List (Nat × Nat × Nat)} {T0 : List AVal} {D0 : List ADef} {A0 : AH} {m : Nat} {st : Nat → DSt} {ρ0 ρ : Ren} {w0 w : World} {L : Nat → Bool} {s : Nat} {a : Act}

theorem HeapI.step (hI : HeapI xs A0 m st ρ0 w0 L ρ w s) : Step ρ0 A0 w0 ρ (bmem st m (cl xs L)) w :=
  ⟨hI.le, by have := hI.next; omega, hI.size, hI.old, hI.own, hI.hole0, hI.os, hI.tape, hI.output, hI.rel⟩

theorem DInv.pan (hcall : CallOk P call) (hD : Drawn P ops xs tb chk) (ht : Text call xs T0 D0 A0 m st) (hI : DInv xs tb T0 D0 A0 m st ρ0 w0 L a w) {o : Oper} (ho : ops[m]? = some o) (hLi : L m = false) (hready : ∀ j, Before tb m j → L j = true)
    {x : XOper} (hx : xs[m]? = some x) (hw : wants (st m).T x.guard = some true) (hc : isChain x.op = true) {f : FuncId} {args : List AVal} {v : AVal} {A' : AH} (hcal : acallee (st m).T (st m).A x.op = some (f, args)) (hres : call f args (st m).A = .pan v A')
    {K : Act → World → Prop} : wpOp P ops (OutOk ρ0 A0 w0 (.pan v (forget T0 xs) D0 A')) m K a w := by
  obtain ⟨x1, hx1, hdst, hop, hg⟩ := hD.op m o ho
  rw [hx] at hx1; cases hx1
  obtain ⟨ρ, s, hH, hS, hDef⟩ := hI.ex
  obtain ⟨T', hT', hsame⟩ := hS.view ht hD hI.down (Nat.le_refl _) hLi hx hready
  have hs1 : Same (st m).T T' (opReads x.op) := hsame.left
  have hwants : wants (st m).T x.guard = wants T' x.guard := wants_congr (by have := hsame.right; cases hxg : x.guard <;> simpa [hxg] using this)
  unfold wpOp
  simp only [ho]
  rw [wants_sound (b := true) hT' hg (by rw [← hwants]; exact hw)]
  simp only [if_true]
  left
  unfold Oper.wp
  have hk := hI.cl_chain_eq hD hx hc hLi hready
  have hB := ht.bmem_last
  rw [hk] at hB
  rw [acallee_congr hs1, ← hB] at hcal
  obtain ⟨args', h1, h2⟩ := acallee_sound hH.rel hT' hop hcal
  rw [h2]
  rw [← hB] at hres
  have hd := hcall f args _ ρ w args' hH.rel h1 (by rw [hres]; simp)
  rw [hres] at hd
  refine upon_does hd ?_ ?_ ?_
  · rintro u w' ⟨ρ', v', e1, _⟩; cases e1
  · rintro c w' ⟨ρ', v', e1, e2, e3⟩
    cases e1
    have hext := e3.ext hH.rel
    refine ⟨v', rfl, ρ', hH.step.trans e3, ⟨trel_of_getD (by rw [forget_length]; exact hS.len) fun r => ?_, hDef.mono hext⟩, e2⟩
    rcases forget_getD r xs T0 with h | ⟨h3, h4⟩
    · rw [h]; exact .junk _
    · rw [h4]; exact (hS.s0 r fun j y _ hy => h3 j y hy).mono hext
  · rintro w' ⟨ρ', v', e1, _⟩; cases e1

theorem DInv.init (ht : Text call xs T0 D0 A0 m st) (hR : Rel ρ0 A0 w0) (hA : ARel ρ0 T0 D0 a) (hw : w.heap = w0.heap) (h1 : w.os = w0.os) (h2 : w.tape = w0.tape) (h3 : w.output = w0.output) : DInv xs tb T0 D0 A0 m st ρ0 w0 (fun _ => false) a w := by
  have hcl : cl xs (fun _ => false) = 0 := by unfold cl; simp
  have hc0 : cnt xs 0 = 0 := by unfold cnt; simp
  obtain ⟨e1, e2⟩ := ht.seg (m - 0) 0 rfl (Nat.zero_le _)
  rw [hc0, ht.st0] at e1 e2
  simp only [AH.next_bump, AH.get_bump] at e1 e2
  have hget : ∀ b, (∀ j, j < xs.length → b ≠ A0.next + j) → (bmem st m 0).get b = A0.get b := by
    intro b hb
    rcases e2 b with h | ⟨j, x, _, _, h3, h4, _⟩
    · exact h
    · exact absurd h4 (hb j (Nat.lt_of_lt_of_le h3.1 ht.le))
  have hlt : ∀ {b e}, ρ0 b = some e → b < A0.next := by
    intro b e hb
    rcases Nat.lt_or_ge b A0.next with h | h
    · exact h
    · rw [hR.fresh b h] at hb; cases hb
  have hgl : ∀ b, b < A0.next → (bmem st m 0).get b = A0.get b := fun b hb => hget b fun j _ => by omega
  refine ⟨fun _ h => (by cases h), fun _ _ h => (by cases h), ρ0, 0, ⟨Nat.zero_le _, by rw [hcl, hc0], fun i hi => absurd hi (Nat.not_lt_zero _), fun j _ hj => by rw [ht.st0]; exact hR.freshA _ (by omega), ?_, fun _ _ => rfl, by rw [hcl, e1]; exact Nat.le_refl _,
    by rw [hw]; exact Nat.le_refl _, fun c _ _ => by rw [hw], ?_, fun b hb hb0 => by rw [hcl, hgl b hb]; exact hb0, h1, h2, h3, fun _ _ h => (by cases h), fun _ _ _ _ _ _ _ h => (by cases h), fun j hj _ => hR.fresh _ (by omega)⟩, ⟨fun _ _ _ h => (by cases h), fun r _ => hA.t.get r, by simpa using hA.t.1⟩, hA.d⟩
  · rw [hcl]
    refine Rel.heap (w := w0) ⟨fun b e x hb hx => hR.blk b e x hb (by rw [← hgl b (hlt hb)]; exact hx), fun b b' e e' x x' hne hb hb' hx hx' => hR.inj b b' e e' x x' hne hb hb' (by rw [← hgl b (hlt hb)]; exact hx) (by rw [← hgl b' (hlt hb')]; exact hx'), fun b hb => hR.fresh b (by omega), fun b hb => ?_⟩ hw
    rw [hget b fun j hj => by omega]
    exact hR.freshA b (by omega)
  · rintro c o _ ⟨b, e, x, hb, hx, h4, h5⟩
    rw [hcl, hgl b (hlt hb)] at hx
    exact ⟨b, e, x, hb, hx, h4, h5⟩

theorem ready_mem {listed : Array Bool} {i : Nat} (h : i ∈ Region.ready .any ops listed) : ∃ o, ops[i]? = some o ∧ listed.getD i true = false ∧ ∀ e ∈ o.after.toList, Region.binds .any e = true → listed.getD e.on false = true := by
  simp only [Region.ready, List.mem_filter, List.mem_range, Bool.and_eq_true, Bool.not_eq_true'] at h
  obtain ⟨h1, h2, h3⟩ := h
  have ho : ops[i]? = some ops[i] := by simp [h1]
  rw [ho] at h3
  simp only [Option.map_some, Option.getD_some, Array.all_eq_true_iff_forall_mem, Bool.or_eq_true, Bool.not_eq_true'] at h3
  refine ⟨_, ho, h2, fun e he hb => ?_⟩
  rcases h3 e (by simpa using he) with h | h
  · rw [hb] at h; cases h
  · exact h

theorem ready_of {listed : Array Bool} {i : Nat} {o : Oper} (ho : ops[i]? = some o) (h2 : listed.getD i true = false) (h3 : ∀ e ∈ o.after.toList, Region.binds .any e = true → listed.getD e.on false = true) : i ∈ Region.ready .any ops listed := by
  simp only [Region.ready, List.mem_filter, List.mem_range, Bool.and_eq_true, Bool.not_eq_true']
  refine ⟨?_, h2, ?_⟩
  · rcases Nat.lt_or_ge i ops.size with h | h
    · exact h
    · rw [Array.getElem?_eq_none h] at ho; cases ho
  · rw [ho]
    simp only [Option.map_some, Option.getD_some, Array.all_eq_true_iff_forall_mem, Bool.or_eq_true, Bool.not_eq_true']
    intro e he
    cases hb : Region.binds .any e with
    | false => exact .inl rfl
    | true => exact .inr (h3 e (by simpa using he) hb)

theorem getD_both {listed : Array Bool} {i : Nat} (h : i < listed.size) : listed.getD i true = listed.getD i false := by simp [Array.getD, h]

theorem getD_set {listed : Array Bool} {i : Nat} (h : i < listed.size) : (fun j => (listed.setIfInBounds i true).getD j false) = ins (fun j => listed.getD j false) i := by
  funext j
  simp only [ins]
  by_cases hj : j = i
  · subst hj; simp [Array.getD, h]
  · by_cases hlt : j < listed.size
    · simp [Array.getD, hlt, hj, Ne.symm hj]
    · simp [Array.getD, hlt, hj]

theorem count_set {listed : Array Bool} {i : Nat} (h : i < listed.size) (hf : listed.getD i false = false) : (listed.setIfInBounds i true).toList.count false + 1 = listed.toList.count false := by
  rw [Array.toList_setIfInBounds]
  have hl : i < listed.toList.length := by simpa using h
  have hi : listed.toList[i] = false := by simpa [Array.getD, h] using hf
  rw [List.count_set hl]
  have hpos : 0 < listed.toList.count false := List.count_pos_iff.2 (by rw [← hi]; exact List.getElem_mem hl)
  rw [hi]
  simp only [beq_self_eq_true, if_true, show (true == false) = false from rfl, Bool.false_eq_true, if_false]
  omega

theorem wpAny_draw (hD : Drawn P ops xs tb chk) {Q : Exit → Act → World → Prop}
    (hfin : ∀ L a w, (∀ j, j < ops.size → L j = true) → DInv xs tb T0 D0 A0 m st ρ0 w0 L a w → Q .normal a w)
    (hstep : ∀ L a w i o K, DInv xs tb T0 D0 A0 m st ρ0 w0 L a w → ops[i]? = some o → L i = false → (∀ j, Before tb i j → L j = true) → (∀ a' w', DInv xs tb T0 D0 A0 m st ρ0 w0 (ins L i) a' w' → K a' w') → wpOp P ops Q i K a w) :
    ∀ (fuel : Nat) (listed : Array Bool) (a : Act) (w : World), listed.size = ops.size → listed.toList.count false = fuel → DInv xs tb T0 D0 A0 m st ρ0 w0 (fun j => listed.getD j false) a w → wpAny P .any ops Q fuel listed a w := by
  intro fuel
  have hall : ∀ (listed : Array Bool), listed.size = ops.size → Region.ready .any ops listed = [] → ∀ j, j < ops.size → listed.getD j false = true := by
    intro listed hsz hr j
    induction j using Nat.strongRecOn with
    | _ j ih =>
      intro hj
      cases hl : listed.getD j false with
      | true => rfl
      | false =>
        have ho : ops[j]? = some ops[j] := by simp [hj]
        have := ready_of (listed := listed) ho (by rw [getD_both (by omega)]; exact hl) fun e he hb => by
          have hlt := hD.lt j _ ho e he hb
          exact ih e.on hlt (by omega)
        rw [hr] at this; cases this
  induction fuel with
  | zero =>
    intro listed a w hsz hc hI
    have hall' : ∀ j, j < ops.size → listed.getD j false = true := by
      intro j hj
      have hl : j < listed.toList.length := by simp [hsz, hj]
      rw [List.count_eq_zero] at hc
      have : listed.toList[j] ≠ false := fun h => hc (by rw [← h]; exact List.getElem_mem hl)
      simpa [Array.getD, hsz, hj] using this
    refine ⟨?_, hfin _ a w hall' hI⟩
    rw [List.eq_nil_iff_forall_not_mem]
    intro i hi
    obtain ⟨o, ho, h1, _⟩ := ready_mem hi
    have hio : i < ops.size := by
      rcases Nat.lt_or_ge i ops.size with h | h
      · exact h
      · rw [Array.getElem?_eq_none h] at ho; cases ho
    rw [getD_both (by omega), hall' i hio] at h1; cases h1
  | succ fuel ih =>
    intro listed a w hsz hc hI
    refine ⟨fun hr => hfin _ a w (hall listed hsz hr) hI, fun i hi => ?_⟩
    obtain ⟨o, ho, h1, h2⟩ := ready_mem hi
    have hio : i < ops.size := by
      rcases Nat.lt_or_ge i ops.size with h | h
      · exact h
      · rw [Array.getElem?_eq_none h] at ho; cases ho
    rw [getD_both (by omega)] at h1
    refine hstep _ a w i o _ hI ho h1 (fun j hb => ?_) fun a' w' hI' => ?_
    · obtain ⟨e, he, hbe, hj⟩ := (hD.mask i o ho j).1 hb
      rcases hj with rfl | hj
      · exact h2 e he hbe
      · exact hI.down e.on j (h2 e he hbe) hj
    · refine ih _ a' w' (by simpa using hsz) ?_ (by rw [getD_set (by omega)]; exact hI')
      have := count_set (listed := listed) (i := i) (by omega) h1
      omega

theorem draw_sound (hm : P.follows .mixedOrders = true) (hcall : CallOk P call) : DrawOk P call := by
  intro ops x lp id hc T D A ρ a w hR hA hne
  simp only [cDraw] at hc
  split at hc
  · cases hc
  · rename_i xs hxs
    split at hc
    · rename_i hok
      cases hc
      have hD := drawn_of hxs hok
      refine wp_region_any hm ?_
      simp only [xcode] at hne ⊢
      unfold xdraw at hne ⊢
      have hcount : (Array.replicate ops.size false).toList.count false = ops.size := by simp
      have hsize : (Array.replicate ops.size false).size = ops.size := by simp
      have hL0 : (fun j => (Array.replicate ops.size false).getD j false) = fun _ => false := by
        funext j
        by_cases hj : j < ops.size <;> simp [Array.getD, hj]
      split at hne
      · exact absurd rfl hne
      · rename_i s1 hrun
        split at hne
        · rename_i hchk
          simp only [hchk, if_true]
          obtain ⟨st, e1, e2, e3⟩ := drun_done xs 0 _ _ hrun
          have ht : Text call xs T D A xs.length st := ⟨e1, Nat.le_refl _, fun i x _ hx => dstep_inv (by have := e3 i x hx; rwa [Nat.zero_add] at this)⟩
          subst e2
          refine wpAny_draw (T0 := T) (D0 := D) (A0 := A) (m := xs.length) (st := st) (ρ0 := ρ) (w0 := w) hD ?_ ?_ ops.size _ a _ hsize hcount (by rw [hL0]; exact DInv.init ht hR hA rfl rfl rfl rfl)
          · intro L a' w' hall hI
            obtain ⟨ρ', s, hH, hS, hDef⟩ := hI.ex
            have hcl : cl xs L = cnt xs xs.length := by
              unfold cl cnt
              apply List.countP_congr
              intro e he
              obtain ⟨y, hy, _⟩ := mem_placesOf.1 he
              have hlt : e < xs.length := (List.getElem?_eq_some_iff.1 hy).1
              simp [hall e (by rw [← hD.len]; exact hlt), hlt]
            have hstep := hH.step
            rw [hcl, ht.bmem_last] at hstep
            refine ⟨rfl, ρ', hstep, trel_of_getD (by rw [ht.length _ (Nat.le_refl _)]; exact hS.len) fun r => ?_, by rw [ht.D _ (Nat.le_refl _)]; exact hDef⟩
            by_cases hw : ∃ (j : Nat) (y : XOper), xs[j]? = some y ∧ y.dst = some r
            · obtain ⟨j, y, hy, hd⟩ := hw
              exact hS.s1 j y r (hall j (by rw [← hD.len]; exact (List.getElem?_eq_some_iff.1 hy).1)) hy hd
            · rw [ht.slot (i := 0) xs.length (Nat.zero_le _) (Nat.le_refl _) fun l y _ _ hy hd => hw ⟨l, y, hy, hd⟩, ht.st0]
              exact hS.s0 r fun j y _ hy hd => hw ⟨j, y, hy, hd⟩
          · intro L a' w' i o K hI ho hLi hready hK
            have hio : i < ops.size := by
              rcases Nat.lt_or_ge i ops.size with h | h
              · exact h
              · rw [Array.getElem?_eq_none h] at ho; cases ho
            exact hI.step hcall hD ht hchk rfl ho hLi hready (by rw [hD.len]; exact hio) hK
        · exact absurd rfl hne
      · rename_i p v s1 A' hrun
        split at hne
        · rename_i hchk
          simp only [hchk, if_true]
          simp only [Bool.and_eq_true, Bool.not_eq_true'] at hchk
          obtain ⟨st, i, x, rfl, e1, e2, e3, e4, e5⟩ := drun_pan xs 0 _ _ _ _ _ hrun
          simp only [Nat.zero_add] at e4 hchk
          have hin : i < xs.length := (List.getElem?_eq_some_iff.1 e3).1
          have ht : Text call xs T D A i st := ⟨e1, by omega, fun j x hj hx => dstep_inv (by have := e5 j x hj hx; rwa [Nat.zero_add] at this)⟩
          subst e2
          obtain ⟨_, hw, hch, f, args, hcal, hres⟩ := dstep_pan e4
          have hDd : (st i).D = D := ht.D _ (Nat.le_refl _)
          rw [hDd]
          refine wpAny_draw (T0 := T) (D0 := D) (A0 := A) (m := i) (st := st) (ρ0 := ρ) (w0 := w) hD ?_ ?_ ops.size _ a _ hsize hcount (by rw [hL0]; exact DInv.init ht hR hA rfl rfl rfl rfl)
          · intro L a' w' hall hI
            have := hI.lm i (hall i (by rw [← hD.len]; exact hin))
            omega
          · intro L a' w' j o K hI ho hLi hready hK
            have hjo : j < ops.size := by
              rcases Nat.lt_or_ge j ops.size with h | h
              · exact h
              · rw [Array.getElem?_eq_none h] at ho; cases ho
            rcases Nat.lt_trichotomy j i with hji | hji | hji
            · exact hI.step hcall hD ht hchk.1 rfl ho hLi hready hji hK
            · subst hji
              exact hI.pan hcall hD ht ho hLi hready e3 hw hch hcal hres
            · have hb := cNp_get (mem_placesOf.2 ⟨x, e3, hch⟩) hchk.2 j hji (by rw [hD.len]; exact hjo)
              have := hI.lm i (hready i hb)
              omega
        · exact absurd rfl hne
    · cases hc

end

/-- The executor's soundness. -/
theorem acall_ok {P : Program} {E : XEnv} (hm : P.follows .mixedOrders = true) (hE : EnvOk P E) (n : Nat) : CallOk P (acall E n) :=
  acall_sound hE (fun _ h => draw_sound hm h) n

end Ab
