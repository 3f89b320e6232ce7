/- The codes, and the calls. -/
import Derived.Test.YtdjhhdppeicpbaaAbRun
namespace Ab
open Go

/-- What is asked of regions whose order is open. -/
def DrawOk (P : Program) (call : FuncId → List AVal → AH → Res) : Prop :=
  ∀ (ops : Array Oper) (x : XCode) (lp id : Nat), cDraw P ops = some x → ∀ (T : List AVal) (D : List ADef) (A : AH) (ρ : Ren) (a : Act) (w : World), Rel ρ A w → ARel ρ T D a →
    xcode call lp x T D A ≠ .stuck → (Code.region id ops true).wp P (OutOk ρ A w (xcode call lp x T D A)) a w

/-- The rounds of a loop. -/
def LoopWp (P : Program) (c : Code) (Q : Exit → Act → World → Prop) (a : Act) (w : World) : Prop :=
  ∀ (b : Frame) (k : List Item) (cs : List Frame), ∃ e a' w', Q e a' w' ∧ Arrives P (lone (b.at a (.code c :: .inLoop c :: k)) cs w) b k cs e a' w'

section
variable {P : Program} {Q : Exit → Act → World → Prop} {a : Act} {w : World}

theorem loopWp_round {c : Code} (h : c.wp P (Exit.then (LoopWp P c Q) Q) a w) : LoopWp P c Q a w := by
  intro b k cs
  obtain ⟨e, a₁, w₁, hq, harr⟩ := h b (.inLoop c :: k) cs
  cases e with
  | normal =>
    obtain ⟨e₂, a₂, w₂, hq₂, harr₂⟩ := hq b k cs
    exact ⟨e₂, a₂, w₂, hq₂, .of_steps (Steps.trans harr (.one step_inLoop)) harr₂⟩
  | exit id => exact ⟨_, a₁, w₁, hq, .pass (x := .inLoop c) rfl (fun _ _ => .inl (by simp)) harr⟩
  | goto l => exact ⟨_, a₁, w₁, hq, .pass (x := .inLoop c) rfl (fun _ _ => .inl (by simp)) harr⟩
  | ret => exact ⟨_, a₁, w₁, hq, .pass (x := .inLoop c) rfl (fun _ _ => .inl (by simp)) harr⟩
  | panic ch => exact ⟨_, a₁, w₁, hq, .pass (x := .inLoop c) rfl (fun _ _ => .inl (by simp)) harr⟩
  | outgrown => exact ⟨_, a₁, w₁, hq, .pass (x := .inLoop c) rfl (fun _ _ => .inl (by simp)) harr⟩

theorem wp_loop_rounds {c : Code} (h : LoopWp P c Q a w) : (Code.loop c).wp P Q a w := by
  intro b k cs
  obtain ⟨e, a', w', hq, harr⟩ := h b k cs
  exact ⟨e, a', w', hq, .of_steps (.one step_loop) harr⟩

end

section
variable {P : Program} {call : FuncId → List AVal → AH → Res}

theorem xloop_sound (c : Code) (body : List AVal → List ADef → AH → Out)
    (hb : ∀ (T : List AVal) (D : List ADef) (A : AH) (ρ : Ren) (a : Act) (w : World), Rel ρ A w → ARel ρ T D a → body T D A ≠ .stuck → c.wp P (OutOk ρ A w (body T D A)) a w) :
    ∀ (n : Nat) (T : List AVal) (D : List ADef) (A : AH) (ρ : Ren) (a : Act) (w : World), Rel ρ A w → ARel ρ T D a → xloop body n T D A ≠ .stuck → LoopWp P c (OutOk ρ A w (xloop body n T D A)) a w := by
  intro n
  induction n with
  | zero => intro T D A ρ a w hR hA hne; exact absurd rfl hne
  | succ n ih =>
    intro T D A ρ a w hR hA hne
    refine loopWp_round ?_
    unfold xloop at hne ⊢
    have hb1 := hb T D A ρ a w hR hA
    generalize hout : body T D A = out at hne hb1
    cases out with
    | stuck => exact absurd rfl hne
    | norm T1 D1 A1 =>
      refine wp_mono (hb1 (by simp)) fun e a' w' h => ?_
      obtain ⟨rfl, ρ', h1, h2⟩ := h
      have h3 := ih T1 D1 A1 ρ' a' w' h1.rel h2 hne
      intro b k cs
      obtain ⟨e, a2, w2, q, r⟩ := h3 b k cs
      exact ⟨e, a2, w2, OutOk.trans h1 q, r⟩
    | exit id T1 D1 A1 => exact wp_mono (hb1 (by simp)) fun e a' w' h => by obtain ⟨rfl, h2⟩ := h; exact ⟨rfl, h2⟩
    | ret T1 D1 A1 => exact wp_mono (hb1 (by simp)) fun e a' w' h => by obtain ⟨rfl, h2⟩ := h; exact ⟨rfl, h2⟩
    | pan v T1 D1 A1 => exact wp_mono (hb1 (by simp)) fun e a' w' h => by obtain ⟨v', rfl, h2⟩ := h; exact ⟨v', rfl, h2⟩

theorem xcode_sound (hcall : CallOk P call) (hdraw : DrawOk P call) (lp : Nat) :
    ∀ (c : Code) (x : XCode), cCode P c = some x → ∀ (T : List AVal) (D : List ADef) (A : AH) (ρ : Ren) (a : Act) (w : World), Rel ρ A w → ARel ρ T D a →
      xcode call lp x T D A ≠ .stuck → c.wp P (OutOk ρ A w (xcode call lp x T D A)) a w := by
  intro c
  induction c with
  | skip =>
    intro x hc T D A ρ a w hR hA hne
    simp [cCode] at hc; subst hc
    exact wp_skip ⟨rfl, ρ, Step.refl hR, hA⟩
  | region id ops draw =>
    intro x hc T D A ρ a w hR hA hne
    cases draw with
    | false =>
      simp only [cCode] at hc
      split at hc
      · rename_i xs hxs
        cases hc
        refine wp_region ?_
        have := xops_sound hcall ops xs ρ A w ops.toList xs 0 (by simp) hxs T D A ρ a w (Step.refl hR) hA (by simpa only [xcode] using hne)
        simpa only [xcode, Array.length_toList, List.range_eq_range'] using this
      · cases hc
    | true =>
      simp only [cCode] at hc
      exact hdraw ops x lp id hc T D A ρ a w hR hA hne
  | seq c1 c2 ih1 ih2 =>
    intro x hc T D A ρ a w hR hA hne
    simp only [cCode] at hc
    split at hc
    · rename_i x1 x2 h1 h2
      cases hc
      refine wp_seq ?_
      simp only [xcode] at hne ⊢
      have hb1 := ih1 x1 h1 T D A ρ a w hR hA
      generalize hout : xcode call lp x1 T D A = out at hne hb1
      cases out with
      | stuck => exact absurd rfl hne
      | norm T1 D1 A1 =>
        refine wp_mono (hb1 (by simp)) fun e a' w' h => ?_
        obtain ⟨rfl, ρ', k1, k2⟩ := h
        exact wp_mono (ih2 x2 h2 T1 D1 A1 ρ' a' w' k1.rel k2 hne) fun e a2 w2 h => OutOk.trans k1 h
      | exit id T1 D1 A1 => exact wp_mono (hb1 (by simp)) fun e a' w' h => by obtain ⟨rfl, h2⟩ := h; exact ⟨rfl, h2⟩
      | ret T1 D1 A1 => exact wp_mono (hb1 (by simp)) fun e a' w' h => by obtain ⟨rfl, h2⟩ := h; exact ⟨rfl, h2⟩
      | pan v T1 D1 A1 => exact wp_mono (hb1 (by simp)) fun e a' w' h => by obtain ⟨v', rfl, h2⟩ := h; exact ⟨v', rfl, h2⟩
    · cases hc
  | cond c c1 c2 ih1 ih2 =>
    intro x hc T D A ρ a w hR hA hne
    simp only [cCode] at hc
    split at hc
    · rename_i xo x1 x2 h0 h1 h2
      cases hc
      simp only [xcode] at hne ⊢
      have hr := ev_rel hA.t h0
      split at hne
      · rename_i hj
        rw [hj] at hr
        generalize he : a.eval c = u at hr
        cases hr
        exact wp_cond_true he (by simpa only [hj] using ih1 x1 h1 T D A ρ a w hR hA hne)
      · rename_i hj
        rw [hj] at hr
        generalize he : a.eval c = u at hr
        cases hr
        exact wp_cond_false he (by simpa only [hj] using ih2 x2 h2 T D A ρ a w hR hA hne)
      · exact absurd rfl hne
    · cases hc
  | block id c ih =>
    intro x hc T D A ρ a w hR hA hne
    simp only [cCode] at hc
    split at hc
    · rename_i x1 h1
      cases hc
      refine wp_block ?_
      simp only [xcode] at hne ⊢
      have hb1 := ih x1 h1 T D A ρ a w hR hA
      generalize hout : xcode call lp x1 T D A = out at hne hb1
      cases out with
      | stuck => exact absurd rfl hne
      | norm T1 D1 A1 => exact wp_mono (hb1 (by simp)) fun e a' w' h => by obtain ⟨rfl, h2⟩ := h; exact ⟨rfl, h2⟩
      | exit id' T1 D1 A1 =>
        refine wp_mono (hb1 (by simp)) fun e a' w' h => ?_
        obtain ⟨rfl, h2⟩ := h
        simp only [Exit.inBlock]
        by_cases hid : id' = id
        · rw [if_pos hid, if_pos hid]; exact ⟨rfl, h2⟩
        · rw [if_neg hid, if_neg hid]; exact ⟨rfl, h2⟩
      | ret T1 D1 A1 => exact wp_mono (hb1 (by simp)) fun e a' w' h => by obtain ⟨rfl, h2⟩ := h; exact ⟨rfl, h2⟩
      | pan v T1 D1 A1 => exact wp_mono (hb1 (by simp)) fun e a' w' h => by obtain ⟨v', rfl, h2⟩ := h; exact ⟨v', rfl, h2⟩
    · cases hc
  | loop c ih =>
    intro x hc T D A ρ a w hR hA hne
    simp only [cCode] at hc
    split at hc
    · rename_i x1 h1
      cases hc
      simp only [xcode] at hne ⊢
      exact wp_loop_rounds (xloop_sound c _ (fun T D A ρ a w hR hA hne => ih x1 h1 T D A ρ a w hR hA hne) lp T D A ρ a w hR hA hne)
    · cases hc
  | exit id =>
    intro x hc T D A ρ a w hR hA hne
    simp [cCode] at hc; subst hc
    exact wp_exit ⟨rfl, ρ, Step.refl hR, hA⟩
  | ret =>
    intro x hc T D A ρ a w hR hA hne
    simp [cCode] at hc; subst hc
    exact wp_ret ⟨rfl, ρ, Step.refl hR, hA⟩
  | _ =>
    intro x hc
    simp [cCode] at hc

end
end Ab
