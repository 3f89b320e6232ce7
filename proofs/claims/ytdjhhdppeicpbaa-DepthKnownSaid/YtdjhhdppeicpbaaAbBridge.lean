/- From the executor to what a row asks. -/
import Derived.Test.YtdjhhdppeicpbaaAbMono
import Derived.ProofKit
namespace Ab
open Go

/-- Nothing is known of any block. -/
def ρ0 : Ren := fun _ => none

theorem rel_empty (w : World) : Rel ρ0 ⟨0, .e⟩ w :=
  ⟨fun _ _ _ h => (by cases h), fun _ _ _ _ _ _ _ h => (by cases h), fun _ _ => rfl, fun b _ => Tr.get_e b⟩

theorem kept_of_step {ρ ρ' : Ren} {A A' : AH} {w w' : World} (h : Step ρ A w ρ' A' w') (ho : ∀ c, ¬ Owned ρ A c) (may : MemPlace → Prop) : w.keptBut w' may := by
  refine ⟨h.os, h.output, fun i hi => ?_⟩
  rw [h.old i hi (ho i)]
  cases hx : w.heap[i]? with
  | none => trivial
  | some x => cases x <;> simp

/-- A closed run that comes to true. -/
theorem calls_true {P : Program} {E : XEnv} {n f : Nat} {A' : AH} (hm : P.follows .mixedOrders = true) (hE : EnvOk P E) {fn : Func} {c : Code} (hf : P.funcs[f]? = some fn) (hb : fn.body = some c) (hn : (fn.name == "runtime.NumGoroutine") = false)
    (hr : acall E n f [] ⟨0, .e⟩ = .ret (.bool true) A') (w : World) : Calls P f #[] w fun e w' => e = .returned (.bool true) ∧ w.keptBut w' (fun _ => False) := by
  have hd := acall_ok hm hE n f [] ⟨0, .e⟩ ρ0 w #[] (rel_empty w) .nil (by rw [hr]; simp)
  rw [hr] at hd
  rcases hd with ⟨_, h2⟩ | ⟨v, w', h1, _⟩
  · refine h2.mono fun e w' ⟨ρ', v', e1, e2, e3⟩ => ?_
    cases e2
    exact ⟨e1, kept_of_step e3 (by rintro c ⟨b, e, x, h, _⟩; cases h) _⟩
  · rw [run_callFunc_body hf hb hn] at h1; cases h1

/-- Where nothing was touched, and the results are not looked at again. -/
theorem post_plain {H : Type} {enc : TypeId × Value → H} {P : Program} {f : Func} {s : ChangeSpec} {apart fresh handsOn : Bool} {W W' : World} {args : Array Value} {v : Value} {ds gs : List (DataW H)} {before pa pv : List MemPlace}
    (hW : DataW.Whole enc P f.params.toList s.vars apart W args.toList ds gs before)
    (hres : ∀ (b : Nat) (sp : Nat → Bool) (hd : Bool), DataW.TrodAll enc P W' b sp hd f.resultTypes.toList (v.resultList f.resultTypes.size) (s.fn H (ds ++ gs)).results [])
    (hargs : DataW.TrodAll enc P W' 0 (fun b => decide (b < W.heap.size)) true f.params.toList args.toList (s.fn H (ds ++ gs)).args pa)
    (hvars : DataW.TrodVars enc P W' (fun b => decide (b < W.heap.size)) s.vars (s.fn H (ds ++ gs)).vars pv)
    (hk : W.keptBut W' (fun _ => False)) : s.post enc P f apart fresh handsOn false W args v W' :=
  ⟨ds, gs, before, [], pa, pv, hW, hres _ _ _, hargs, hvars, World.keptBut_mono (fun _ h => h.elim) hk, fun h => (by cases h)⟩

end Ab
