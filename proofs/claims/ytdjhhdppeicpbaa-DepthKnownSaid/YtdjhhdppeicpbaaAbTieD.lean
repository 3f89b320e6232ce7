/- The texts are the program's. -/
import Derived.Test.YtdjhhdppeicpbaaAbTD
import Derived.Test.YtdjhhdppeicpbaaProg
open Go Go.Proofs
namespace Ab.TD
set_option maxRecDepth 100000
theorem c3 : cFunc Try.prog 3 = some x3 := by kernel_rfl
theorem c4 : cFunc Try.prog 4 = some x4 := by kernel_rfl
theorem c5 : cFunc Try.prog 5 = some x5 := by kernel_rfl
theorem c6 : cFunc Try.prog 6 = some x6 := by kernel_rfl
theorem c7 : cFunc Try.prog 7 = some x7 := by kernel_rfl
theorem c8 : cFunc Try.prog 8 = some x8 := by kernel_rfl
theorem c9 : cFunc Try.prog 9 = some x9 := by kernel_rfl
theorem c10 : cFunc Try.prog 10 = some x10 := by kernel_rfl
theorem c11 : cFunc Try.prog 11 = some x11 := by kernel_rfl
theorem c12 : cFunc Try.prog 12 = some x12 := by kernel_rfl
theorem c13 : cFunc Try.prog 13 = some x13 := by kernel_rfl
theorem c14 : cFunc Try.prog 14 = some x14 := by kernel_rfl
theorem c15 : cFunc Try.prog 15 = some x15 := by kernel_rfl
theorem c16 : cFunc Try.prog 16 = some x16 := by kernel_rfl
theorem c17 : cFunc Try.prog 17 = some x17 := by kernel_rfl
theorem c18 : cFunc Try.prog 18 = some x18 := by kernel_rfl
theorem c19 : cFunc Try.prog 19 = some x19 := by kernel_rfl
theorem c20 : cFunc Try.prog 20 = some x20 := by kernel_rfl
theorem c21 : cFunc Try.prog 21 = some x21 := by kernel_rfl
theorem c22 : cFunc Try.prog 22 = some x22 := by kernel_rfl
theorem c23 : cFunc Try.prog 23 = some x23 := by kernel_rfl
theorem c24 : cFunc Try.prog 24 = some x24 := by kernel_rfl
theorem c25 : cFunc Try.prog 25 = some x25 := by kernel_rfl
theorem c26 : cFunc Try.prog 26 = some x26 := by kernel_rfl
theorem c27 : cFunc Try.prog 27 = some x27 := by kernel_rfl
theorem c28 : cFunc Try.prog 28 = some x28 := by kernel_rfl
theorem c29 : cFunc Try.prog 29 = some x29 := by kernel_rfl
theorem c30 : cFunc Try.prog 30 = some x30 := by kernel_rfl
theorem c31 : cFunc Try.prog 31 = some x31 := by kernel_rfl
theorem c32 : cFunc Try.prog 32 = some x32 := by kernel_rfl
theorem c33 : cFunc Try.prog 33 = some x33 := by kernel_rfl
theorem c34 : cFunc Try.prog 34 = some x34 := by kernel_rfl
theorem c35 : cFunc Try.prog 35 = some x35 := by kernel_rfl
theorem c36 : cFunc Try.prog 36 = some x36 := by kernel_rfl
theorem c37 : cFunc Try.prog 37 = some x37 := by kernel_rfl
theorem c38 : cFunc Try.prog 38 = some x38 := by kernel_rfl
theorem c39 : cFunc Try.prog 39 = some x39 := by kernel_rfl
theorem c40 : cFunc Try.prog 40 = some x40 := by kernel_rfl
theorem c41 : cFunc Try.prog 41 = some x41 := by kernel_rfl
theorem c42 : cFunc Try.prog 42 = some x42 := by kernel_rfl
theorem c43 : cFunc Try.prog 43 = some x43 := by kernel_rfl
theorem c44 : cFunc Try.prog 44 = some x44 := by kernel_rfl
theorem c45 : cFunc Try.prog 45 = some x45 := by kernel_rfl
theorem c46 : cFunc Try.prog 46 = some x46 := by kernel_rfl
theorem c63 : cFunc Try.prog 63 = some x63 := by kernel_rfl
theorem c64 : cFunc Try.prog 64 = some x64 := by kernel_rfl
theorem c65 : cFunc Try.prog 65 = some x65 := by kernel_rfl
theorem c66 : cFunc Try.prog 66 = some x66 := by kernel_rfl
theorem c67 : cFunc Try.prog 67 = some x67 := by kernel_rfl
theorem xtree_ok : BT.All (fun f xf => cFunc Try.prog f = some xf) xtree := (.node c27 (.node c15 (.node c9 (.node c6 (.node c4 (.node c3 .leaf .leaf) (.node c5 .leaf .leaf)) (.node c8 (.node c7 .leaf .leaf) .leaf)) (.node c12 (.node c11 (.node c10 .leaf .leaf) .leaf) (.node c14 (.node c13 .leaf .leaf) .leaf))) (.node c21 (.node c18 (.node c17 (.node c16 .leaf .leaf) .leaf) (.node c20 (.node c19 .leaf .leaf) .leaf)) (.node c24 (.node c23 (.node c22 .leaf .leaf) .leaf) (.node c26 (.node c25 .leaf .leaf) .leaf)))) (.node c40 (.node c34 (.node c31 (.node c29 (.node c28 .leaf .leaf) (.node c30 .leaf .leaf)) (.node c33 (.node c32 .leaf .leaf) .leaf)) (.node c37 (.node c36 (.node c35 .leaf .leaf) .leaf) (.node c39 (.node c38 .leaf .leaf) .leaf))) (.node c46 (.node c43 (.node c42 (.node c41 .leaf .leaf) .leaf) (.node c45 (.node c44 .leaf .leaf) .leaf)) (.node c65 (.node c64 (.node c63 .leaf .leaf) .leaf) (.node c67 (.node c66 .leaf .leaf) .leaf)))))
theorem env_ok : EnvOk Try.prog (env fun _ => none) := envOf_ok xtree_ok fun _ _ h => by cases h
end Ab.TD
