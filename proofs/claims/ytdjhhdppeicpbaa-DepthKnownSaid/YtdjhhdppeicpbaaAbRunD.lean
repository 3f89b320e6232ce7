/- The closed statement, run by the kernel. -/
import Derived.Test.YtdjhhdppeicpbaaAbTD
open Go
namespace Ab.TD
def isTrue (r : Res) : Bool := match r with | .ret (.bool true) _ => true | _ => false
set_option maxRecDepth 100000
theorem known_true : isTrue (run (fun _ => none) 5000 3 [] ⟨0, .e⟩) = true := by kernel_rfl
theorem known_run : ∃ A', acall (env fun _ => none) 5000 3 [] ⟨0, .e⟩ = .ret (.bool true) A' := by
  have h := known_true
  have hle := run_ok (fun _ => none) 5000 3 [] ⟨0, .e⟩
  cases hr : run (fun _ => none) 5000 3 [] ⟨0, .e⟩ with
  | stuck => rw [hr] at h; cases h
  | pan v A => rw [hr] at h; cases h
  | ret v A =>
    rw [hr] at h hle
    rw [hle (by simp)]
    unfold isTrue at h
    split at h
    · rename_i e; cases e; exact ⟨_, rfl⟩
    · cases h
end Ab.TD
