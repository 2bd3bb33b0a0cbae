/- Sums and products in the fields up to order 5, by running the machine in the kernel. Written by wip/tools (door). -/
import Derived.Test.YtcibofbmennjpaaDoorAmFd5
import Derived.KernelRfl
set_option linter.unusedVariables false
set_option linter.unusedSimpArgs false
namespace Go.Am

def mulT (q a b : Nat) : Nat := if q = 4 then (if a = 0 ∨ b = 0 then 0 else (a + b - 2) % 3 + 1) else a * b % q
def addT (q a b : Nat) : Nat := if q = 4 then a ^^^ b else (a + b) % q
def roomV (p k q : Int) (low : List Int) : AV := .agg [.int .i64 p, .int .i64 k, .lst low.length (low.map (.int .i64)), .int .i64 q]
set_option maxRecDepth 100000
section
variable (G : Nat → List AV) (c : Int)
theorem m2_0_0 : pcall tabD (aexec G tabD 60) 100 [roomV 2 1 2 [c], .int .i64 0, .int .i64 0] = some (.val (.int .i64 0), false) := by kernel_rfl
theorem s2_0_0 : pcall tabD (aexec G tabD 60) 101 [roomV 2 1 2 [c], .int .i64 0, .int .i64 0] = some (.val (.int .i64 0), false) := by kernel_rfl
theorem m2_0_1 : pcall tabD (aexec G tabD 60) 100 [roomV 2 1 2 [c], .int .i64 0, .int .i64 1] = some (.val (.int .i64 0), false) := by kernel_rfl
theorem s2_0_1 : pcall tabD (aexec G tabD 60) 101 [roomV 2 1 2 [c], .int .i64 0, .int .i64 1] = some (.val (.int .i64 1), false) := by kernel_rfl
theorem m2_1_0 : pcall tabD (aexec G tabD 60) 100 [roomV 2 1 2 [c], .int .i64 1, .int .i64 0] = some (.val (.int .i64 0), false) := by kernel_rfl
theorem s2_1_0 : pcall tabD (aexec G tabD 60) 101 [roomV 2 1 2 [c], .int .i64 1, .int .i64 0] = some (.val (.int .i64 1), false) := by kernel_rfl
theorem m2_1_1 : pcall tabD (aexec G tabD 60) 100 [roomV 2 1 2 [c], .int .i64 1, .int .i64 1] = some (.val (.int .i64 1), false) := by kernel_rfl
theorem s2_1_1 : pcall tabD (aexec G tabD 60) 101 [roomV 2 1 2 [c], .int .i64 1, .int .i64 1] = some (.val (.int .i64 0), false) := by kernel_rfl
theorem m3_0_0 : pcall tabD (aexec G tabD 60) 100 [roomV 3 1 3 [c], .int .i64 0, .int .i64 0] = some (.val (.int .i64 0), false) := by kernel_rfl
theorem s3_0_0 : pcall tabD (aexec G tabD 60) 101 [roomV 3 1 3 [c], .int .i64 0, .int .i64 0] = some (.val (.int .i64 0), false) := by kernel_rfl
theorem m3_0_1 : pcall tabD (aexec G tabD 60) 100 [roomV 3 1 3 [c], .int .i64 0, .int .i64 1] = some (.val (.int .i64 0), false) := by kernel_rfl
theorem s3_0_1 : pcall tabD (aexec G tabD 60) 101 [roomV 3 1 3 [c], .int .i64 0, .int .i64 1] = some (.val (.int .i64 1), false) := by kernel_rfl
theorem m3_0_2 : pcall tabD (aexec G tabD 60) 100 [roomV 3 1 3 [c], .int .i64 0, .int .i64 2] = some (.val (.int .i64 0), false) := by kernel_rfl
theorem s3_0_2 : pcall tabD (aexec G tabD 60) 101 [roomV 3 1 3 [c], .int .i64 0, .int .i64 2] = some (.val (.int .i64 2), false) := by kernel_rfl
theorem m3_1_0 : pcall tabD (aexec G tabD 60) 100 [roomV 3 1 3 [c], .int .i64 1, .int .i64 0] = some (.val (.int .i64 0), false) := by kernel_rfl
theorem s3_1_0 : pcall tabD (aexec G tabD 60) 101 [roomV 3 1 3 [c], .int .i64 1, .int .i64 0] = some (.val (.int .i64 1), false) := by kernel_rfl
theorem m3_1_1 : pcall tabD (aexec G tabD 60) 100 [roomV 3 1 3 [c], .int .i64 1, .int .i64 1] = some (.val (.int .i64 1), false) := by kernel_rfl
theorem s3_1_1 : pcall tabD (aexec G tabD 60) 101 [roomV 3 1 3 [c], .int .i64 1, .int .i64 1] = some (.val (.int .i64 2), false) := by kernel_rfl
theorem m3_1_2 : pcall tabD (aexec G tabD 60) 100 [roomV 3 1 3 [c], .int .i64 1, .int .i64 2] = some (.val (.int .i64 2), false) := by kernel_rfl
theorem s3_1_2 : pcall tabD (aexec G tabD 60) 101 [roomV 3 1 3 [c], .int .i64 1, .int .i64 2] = some (.val (.int .i64 0), false) := by kernel_rfl
theorem m3_2_0 : pcall tabD (aexec G tabD 60) 100 [roomV 3 1 3 [c], .int .i64 2, .int .i64 0] = some (.val (.int .i64 0), false) := by kernel_rfl
theorem s3_2_0 : pcall tabD (aexec G tabD 60) 101 [roomV 3 1 3 [c], .int .i64 2, .int .i64 0] = some (.val (.int .i64 2), false) := by kernel_rfl
theorem m3_2_1 : pcall tabD (aexec G tabD 60) 100 [roomV 3 1 3 [c], .int .i64 2, .int .i64 1] = some (.val (.int .i64 2), false) := by kernel_rfl
theorem s3_2_1 : pcall tabD (aexec G tabD 60) 101 [roomV 3 1 3 [c], .int .i64 2, .int .i64 1] = some (.val (.int .i64 0), false) := by kernel_rfl
theorem m3_2_2 : pcall tabD (aexec G tabD 60) 100 [roomV 3 1 3 [c], .int .i64 2, .int .i64 2] = some (.val (.int .i64 1), false) := by kernel_rfl
theorem s3_2_2 : pcall tabD (aexec G tabD 60) 101 [roomV 3 1 3 [c], .int .i64 2, .int .i64 2] = some (.val (.int .i64 1), false) := by kernel_rfl
theorem m5_0_0 : pcall tabD (aexec G tabD 60) 100 [roomV 5 1 5 [c], .int .i64 0, .int .i64 0] = some (.val (.int .i64 0), false) := by kernel_rfl
theorem s5_0_0 : pcall tabD (aexec G tabD 60) 101 [roomV 5 1 5 [c], .int .i64 0, .int .i64 0] = some (.val (.int .i64 0), false) := by kernel_rfl
theorem m5_0_1 : pcall tabD (aexec G tabD 60) 100 [roomV 5 1 5 [c], .int .i64 0, .int .i64 1] = some (.val (.int .i64 0), false) := by kernel_rfl
theorem s5_0_1 : pcall tabD (aexec G tabD 60) 101 [roomV 5 1 5 [c], .int .i64 0, .int .i64 1] = some (.val (.int .i64 1), false) := by kernel_rfl
theorem m5_0_2 : pcall tabD (aexec G tabD 60) 100 [roomV 5 1 5 [c], .int .i64 0, .int .i64 2] = some (.val (.int .i64 0), false) := by kernel_rfl
theorem s5_0_2 : pcall tabD (aexec G tabD 60) 101 [roomV 5 1 5 [c], .int .i64 0, .int .i64 2] = some (.val (.int .i64 2), false) := by kernel_rfl
theorem m5_0_3 : pcall tabD (aexec G tabD 60) 100 [roomV 5 1 5 [c], .int .i64 0, .int .i64 3] = some (.val (.int .i64 0), false) := by kernel_rfl
theorem s5_0_3 : pcall tabD (aexec G tabD 60) 101 [roomV 5 1 5 [c], .int .i64 0, .int .i64 3] = some (.val (.int .i64 3), false) := by kernel_rfl
theorem m5_0_4 : pcall tabD (aexec G tabD 60) 100 [roomV 5 1 5 [c], .int .i64 0, .int .i64 4] = some (.val (.int .i64 0), false) := by kernel_rfl
theorem s5_0_4 : pcall tabD (aexec G tabD 60) 101 [roomV 5 1 5 [c], .int .i64 0, .int .i64 4] = some (.val (.int .i64 4), false) := by kernel_rfl
theorem m5_1_0 : pcall tabD (aexec G tabD 60) 100 [roomV 5 1 5 [c], .int .i64 1, .int .i64 0] = some (.val (.int .i64 0), false) := by kernel_rfl
theorem s5_1_0 : pcall tabD (aexec G tabD 60) 101 [roomV 5 1 5 [c], .int .i64 1, .int .i64 0] = some (.val (.int .i64 1), false) := by kernel_rfl
theorem m5_1_1 : pcall tabD (aexec G tabD 60) 100 [roomV 5 1 5 [c], .int .i64 1, .int .i64 1] = some (.val (.int .i64 1), false) := by kernel_rfl
theorem s5_1_1 : pcall tabD (aexec G tabD 60) 101 [roomV 5 1 5 [c], .int .i64 1, .int .i64 1] = some (.val (.int .i64 2), false) := by kernel_rfl
theorem m5_1_2 : pcall tabD (aexec G tabD 60) 100 [roomV 5 1 5 [c], .int .i64 1, .int .i64 2] = some (.val (.int .i64 2), false) := by kernel_rfl
theorem s5_1_2 : pcall tabD (aexec G tabD 60) 101 [roomV 5 1 5 [c], .int .i64 1, .int .i64 2] = some (.val (.int .i64 3), false) := by kernel_rfl
theorem m5_1_3 : pcall tabD (aexec G tabD 60) 100 [roomV 5 1 5 [c], .int .i64 1, .int .i64 3] = some (.val (.int .i64 3), false) := by kernel_rfl
theorem s5_1_3 : pcall tabD (aexec G tabD 60) 101 [roomV 5 1 5 [c], .int .i64 1, .int .i64 3] = some (.val (.int .i64 4), false) := by kernel_rfl
theorem m5_1_4 : pcall tabD (aexec G tabD 60) 100 [roomV 5 1 5 [c], .int .i64 1, .int .i64 4] = some (.val (.int .i64 4), false) := by kernel_rfl
theorem s5_1_4 : pcall tabD (aexec G tabD 60) 101 [roomV 5 1 5 [c], .int .i64 1, .int .i64 4] = some (.val (.int .i64 0), false) := by kernel_rfl
theorem m5_2_0 : pcall tabD (aexec G tabD 60) 100 [roomV 5 1 5 [c], .int .i64 2, .int .i64 0] = some (.val (.int .i64 0), false) := by kernel_rfl
theorem s5_2_0 : pcall tabD (aexec G tabD 60) 101 [roomV 5 1 5 [c], .int .i64 2, .int .i64 0] = some (.val (.int .i64 2), false) := by kernel_rfl
theorem m5_2_1 : pcall tabD (aexec G tabD 60) 100 [roomV 5 1 5 [c], .int .i64 2, .int .i64 1] = some (.val (.int .i64 2), false) := by kernel_rfl
theorem s5_2_1 : pcall tabD (aexec G tabD 60) 101 [roomV 5 1 5 [c], .int .i64 2, .int .i64 1] = some (.val (.int .i64 3), false) := by kernel_rfl
theorem m5_2_2 : pcall tabD (aexec G tabD 60) 100 [roomV 5 1 5 [c], .int .i64 2, .int .i64 2] = some (.val (.int .i64 4), false) := by kernel_rfl
theorem s5_2_2 : pcall tabD (aexec G tabD 60) 101 [roomV 5 1 5 [c], .int .i64 2, .int .i64 2] = some (.val (.int .i64 4), false) := by kernel_rfl
theorem m5_2_3 : pcall tabD (aexec G tabD 60) 100 [roomV 5 1 5 [c], .int .i64 2, .int .i64 3] = some (.val (.int .i64 1), false) := by kernel_rfl
theorem s5_2_3 : pcall tabD (aexec G tabD 60) 101 [roomV 5 1 5 [c], .int .i64 2, .int .i64 3] = some (.val (.int .i64 0), false) := by kernel_rfl
theorem m5_2_4 : pcall tabD (aexec G tabD 60) 100 [roomV 5 1 5 [c], .int .i64 2, .int .i64 4] = some (.val (.int .i64 3), false) := by kernel_rfl
theorem s5_2_4 : pcall tabD (aexec G tabD 60) 101 [roomV 5 1 5 [c], .int .i64 2, .int .i64 4] = some (.val (.int .i64 1), false) := by kernel_rfl
theorem m5_3_0 : pcall tabD (aexec G tabD 60) 100 [roomV 5 1 5 [c], .int .i64 3, .int .i64 0] = some (.val (.int .i64 0), false) := by kernel_rfl
theorem s5_3_0 : pcall tabD (aexec G tabD 60) 101 [roomV 5 1 5 [c], .int .i64 3, .int .i64 0] = some (.val (.int .i64 3), false) := by kernel_rfl
theorem m5_3_1 : pcall tabD (aexec G tabD 60) 100 [roomV 5 1 5 [c], .int .i64 3, .int .i64 1] = some (.val (.int .i64 3), false) := by kernel_rfl
theorem s5_3_1 : pcall tabD (aexec G tabD 60) 101 [roomV 5 1 5 [c], .int .i64 3, .int .i64 1] = some (.val (.int .i64 4), false) := by kernel_rfl
theorem m5_3_2 : pcall tabD (aexec G tabD 60) 100 [roomV 5 1 5 [c], .int .i64 3, .int .i64 2] = some (.val (.int .i64 1), false) := by kernel_rfl
theorem s5_3_2 : pcall tabD (aexec G tabD 60) 101 [roomV 5 1 5 [c], .int .i64 3, .int .i64 2] = some (.val (.int .i64 0), false) := by kernel_rfl
theorem m5_3_3 : pcall tabD (aexec G tabD 60) 100 [roomV 5 1 5 [c], .int .i64 3, .int .i64 3] = some (.val (.int .i64 4), false) := by kernel_rfl
theorem s5_3_3 : pcall tabD (aexec G tabD 60) 101 [roomV 5 1 5 [c], .int .i64 3, .int .i64 3] = some (.val (.int .i64 1), false) := by kernel_rfl
theorem m5_3_4 : pcall tabD (aexec G tabD 60) 100 [roomV 5 1 5 [c], .int .i64 3, .int .i64 4] = some (.val (.int .i64 2), false) := by kernel_rfl
theorem s5_3_4 : pcall tabD (aexec G tabD 60) 101 [roomV 5 1 5 [c], .int .i64 3, .int .i64 4] = some (.val (.int .i64 2), false) := by kernel_rfl
theorem m5_4_0 : pcall tabD (aexec G tabD 60) 100 [roomV 5 1 5 [c], .int .i64 4, .int .i64 0] = some (.val (.int .i64 0), false) := by kernel_rfl
theorem s5_4_0 : pcall tabD (aexec G tabD 60) 101 [roomV 5 1 5 [c], .int .i64 4, .int .i64 0] = some (.val (.int .i64 4), false) := by kernel_rfl
theorem m5_4_1 : pcall tabD (aexec G tabD 60) 100 [roomV 5 1 5 [c], .int .i64 4, .int .i64 1] = some (.val (.int .i64 4), false) := by kernel_rfl
theorem s5_4_1 : pcall tabD (aexec G tabD 60) 101 [roomV 5 1 5 [c], .int .i64 4, .int .i64 1] = some (.val (.int .i64 0), false) := by kernel_rfl
theorem m5_4_2 : pcall tabD (aexec G tabD 60) 100 [roomV 5 1 5 [c], .int .i64 4, .int .i64 2] = some (.val (.int .i64 3), false) := by kernel_rfl
theorem s5_4_2 : pcall tabD (aexec G tabD 60) 101 [roomV 5 1 5 [c], .int .i64 4, .int .i64 2] = some (.val (.int .i64 1), false) := by kernel_rfl
theorem m5_4_3 : pcall tabD (aexec G tabD 60) 100 [roomV 5 1 5 [c], .int .i64 4, .int .i64 3] = some (.val (.int .i64 2), false) := by kernel_rfl
theorem s5_4_3 : pcall tabD (aexec G tabD 60) 101 [roomV 5 1 5 [c], .int .i64 4, .int .i64 3] = some (.val (.int .i64 2), false) := by kernel_rfl
theorem m5_4_4 : pcall tabD (aexec G tabD 60) 100 [roomV 5 1 5 [c], .int .i64 4, .int .i64 4] = some (.val (.int .i64 1), false) := by kernel_rfl
theorem s5_4_4 : pcall tabD (aexec G tabD 60) 101 [roomV 5 1 5 [c], .int .i64 4, .int .i64 4] = some (.val (.int .i64 3), false) := by kernel_rfl
theorem m4_0_0 : pcall tabD (aexec G tabD 60) 100 [roomV 2 2 4 [1, 1], .int .i64 0, .int .i64 0] = some (.val (.int .i64 0), false) := by kernel_rfl
theorem s4_0_0 : pcall tabD (aexec G tabD 60) 101 [roomV 2 2 4 [1, 1], .int .i64 0, .int .i64 0] = some (.val (.int .i64 0), false) := by kernel_rfl
theorem m4_0_1 : pcall tabD (aexec G tabD 60) 100 [roomV 2 2 4 [1, 1], .int .i64 0, .int .i64 1] = some (.val (.int .i64 0), false) := by kernel_rfl
theorem s4_0_1 : pcall tabD (aexec G tabD 60) 101 [roomV 2 2 4 [1, 1], .int .i64 0, .int .i64 1] = some (.val (.int .i64 1), false) := by kernel_rfl
theorem m4_0_2 : pcall tabD (aexec G tabD 60) 100 [roomV 2 2 4 [1, 1], .int .i64 0, .int .i64 2] = some (.val (.int .i64 0), false) := by kernel_rfl
theorem s4_0_2 : pcall tabD (aexec G tabD 60) 101 [roomV 2 2 4 [1, 1], .int .i64 0, .int .i64 2] = some (.val (.int .i64 2), false) := by kernel_rfl
theorem m4_0_3 : pcall tabD (aexec G tabD 60) 100 [roomV 2 2 4 [1, 1], .int .i64 0, .int .i64 3] = some (.val (.int .i64 0), false) := by kernel_rfl
theorem s4_0_3 : pcall tabD (aexec G tabD 60) 101 [roomV 2 2 4 [1, 1], .int .i64 0, .int .i64 3] = some (.val (.int .i64 3), false) := by kernel_rfl
theorem m4_1_0 : pcall tabD (aexec G tabD 60) 100 [roomV 2 2 4 [1, 1], .int .i64 1, .int .i64 0] = some (.val (.int .i64 0), false) := by kernel_rfl
theorem s4_1_0 : pcall tabD (aexec G tabD 60) 101 [roomV 2 2 4 [1, 1], .int .i64 1, .int .i64 0] = some (.val (.int .i64 1), false) := by kernel_rfl
theorem m4_1_1 : pcall tabD (aexec G tabD 60) 100 [roomV 2 2 4 [1, 1], .int .i64 1, .int .i64 1] = some (.val (.int .i64 1), false) := by kernel_rfl
theorem s4_1_1 : pcall tabD (aexec G tabD 60) 101 [roomV 2 2 4 [1, 1], .int .i64 1, .int .i64 1] = some (.val (.int .i64 0), false) := by kernel_rfl
theorem m4_1_2 : pcall tabD (aexec G tabD 60) 100 [roomV 2 2 4 [1, 1], .int .i64 1, .int .i64 2] = some (.val (.int .i64 2), false) := by kernel_rfl
theorem s4_1_2 : pcall tabD (aexec G tabD 60) 101 [roomV 2 2 4 [1, 1], .int .i64 1, .int .i64 2] = some (.val (.int .i64 3), false) := by kernel_rfl
theorem m4_1_3 : pcall tabD (aexec G tabD 60) 100 [roomV 2 2 4 [1, 1], .int .i64 1, .int .i64 3] = some (.val (.int .i64 3), false) := by kernel_rfl
theorem s4_1_3 : pcall tabD (aexec G tabD 60) 101 [roomV 2 2 4 [1, 1], .int .i64 1, .int .i64 3] = some (.val (.int .i64 2), false) := by kernel_rfl
theorem m4_2_0 : pcall tabD (aexec G tabD 60) 100 [roomV 2 2 4 [1, 1], .int .i64 2, .int .i64 0] = some (.val (.int .i64 0), false) := by kernel_rfl
theorem s4_2_0 : pcall tabD (aexec G tabD 60) 101 [roomV 2 2 4 [1, 1], .int .i64 2, .int .i64 0] = some (.val (.int .i64 2), false) := by kernel_rfl
theorem m4_2_1 : pcall tabD (aexec G tabD 60) 100 [roomV 2 2 4 [1, 1], .int .i64 2, .int .i64 1] = some (.val (.int .i64 2), false) := by kernel_rfl
theorem s4_2_1 : pcall tabD (aexec G tabD 60) 101 [roomV 2 2 4 [1, 1], .int .i64 2, .int .i64 1] = some (.val (.int .i64 3), false) := by kernel_rfl
theorem m4_2_2 : pcall tabD (aexec G tabD 60) 100 [roomV 2 2 4 [1, 1], .int .i64 2, .int .i64 2] = some (.val (.int .i64 3), false) := by kernel_rfl
theorem s4_2_2 : pcall tabD (aexec G tabD 60) 101 [roomV 2 2 4 [1, 1], .int .i64 2, .int .i64 2] = some (.val (.int .i64 0), false) := by kernel_rfl
theorem m4_2_3 : pcall tabD (aexec G tabD 60) 100 [roomV 2 2 4 [1, 1], .int .i64 2, .int .i64 3] = some (.val (.int .i64 1), false) := by kernel_rfl
theorem s4_2_3 : pcall tabD (aexec G tabD 60) 101 [roomV 2 2 4 [1, 1], .int .i64 2, .int .i64 3] = some (.val (.int .i64 1), false) := by kernel_rfl
theorem m4_3_0 : pcall tabD (aexec G tabD 60) 100 [roomV 2 2 4 [1, 1], .int .i64 3, .int .i64 0] = some (.val (.int .i64 0), false) := by kernel_rfl
theorem s4_3_0 : pcall tabD (aexec G tabD 60) 101 [roomV 2 2 4 [1, 1], .int .i64 3, .int .i64 0] = some (.val (.int .i64 3), false) := by kernel_rfl
theorem m4_3_1 : pcall tabD (aexec G tabD 60) 100 [roomV 2 2 4 [1, 1], .int .i64 3, .int .i64 1] = some (.val (.int .i64 3), false) := by kernel_rfl
theorem s4_3_1 : pcall tabD (aexec G tabD 60) 101 [roomV 2 2 4 [1, 1], .int .i64 3, .int .i64 1] = some (.val (.int .i64 2), false) := by kernel_rfl
theorem m4_3_2 : pcall tabD (aexec G tabD 60) 100 [roomV 2 2 4 [1, 1], .int .i64 3, .int .i64 2] = some (.val (.int .i64 1), false) := by kernel_rfl
theorem s4_3_2 : pcall tabD (aexec G tabD 60) 101 [roomV 2 2 4 [1, 1], .int .i64 3, .int .i64 2] = some (.val (.int .i64 1), false) := by kernel_rfl
theorem m4_3_3 : pcall tabD (aexec G tabD 60) 100 [roomV 2 2 4 [1, 1], .int .i64 3, .int .i64 3] = some (.val (.int .i64 2), false) := by kernel_rfl
theorem s4_3_3 : pcall tabD (aexec G tabD 60) 101 [roomV 2 2 4 [1, 1], .int .i64 3, .int .i64 3] = some (.val (.int .i64 0), false) := by kernel_rfl
theorem m2 : ∀ a b : Nat, a < 2 → b < 2 → pcall tabD (aexec G tabD 60) 100 [roomV 2 1 2 [c], .int .i64 a, .int .i64 b] = some (.val (.int .i64 (mulT 2 a b : Nat)), false)
  | 0, 0, _, _ => m2_0_0 G c
  | 0, 1, _, _ => m2_0_1 G c
  | 1, 0, _, _ => m2_1_0 G c
  | 1, 1, _, _ => m2_1_1 G c
  | a + 2, _, h, _ => by omega
  | 0, b + 2, _, h => by omega
  | 1, b + 2, _, h => by omega
theorem s2 : ∀ a b : Nat, a < 2 → b < 2 → pcall tabD (aexec G tabD 60) 101 [roomV 2 1 2 [c], .int .i64 a, .int .i64 b] = some (.val (.int .i64 (addT 2 a b : Nat)), false)
  | 0, 0, _, _ => s2_0_0 G c
  | 0, 1, _, _ => s2_0_1 G c
  | 1, 0, _, _ => s2_1_0 G c
  | 1, 1, _, _ => s2_1_1 G c
  | a + 2, _, h, _ => by omega
  | 0, b + 2, _, h => by omega
  | 1, b + 2, _, h => by omega
theorem m3 : ∀ a b : Nat, a < 3 → b < 3 → pcall tabD (aexec G tabD 60) 100 [roomV 3 1 3 [c], .int .i64 a, .int .i64 b] = some (.val (.int .i64 (mulT 3 a b : Nat)), false)
  | 0, 0, _, _ => m3_0_0 G c
  | 0, 1, _, _ => m3_0_1 G c
  | 0, 2, _, _ => m3_0_2 G c
  | 1, 0, _, _ => m3_1_0 G c
  | 1, 1, _, _ => m3_1_1 G c
  | 1, 2, _, _ => m3_1_2 G c
  | 2, 0, _, _ => m3_2_0 G c
  | 2, 1, _, _ => m3_2_1 G c
  | 2, 2, _, _ => m3_2_2 G c
  | a + 3, _, h, _ => by omega
  | 0, b + 3, _, h => by omega
  | 1, b + 3, _, h => by omega
  | 2, b + 3, _, h => by omega
theorem s3 : ∀ a b : Nat, a < 3 → b < 3 → pcall tabD (aexec G tabD 60) 101 [roomV 3 1 3 [c], .int .i64 a, .int .i64 b] = some (.val (.int .i64 (addT 3 a b : Nat)), false)
  | 0, 0, _, _ => s3_0_0 G c
  | 0, 1, _, _ => s3_0_1 G c
  | 0, 2, _, _ => s3_0_2 G c
  | 1, 0, _, _ => s3_1_0 G c
  | 1, 1, _, _ => s3_1_1 G c
  | 1, 2, _, _ => s3_1_2 G c
  | 2, 0, _, _ => s3_2_0 G c
  | 2, 1, _, _ => s3_2_1 G c
  | 2, 2, _, _ => s3_2_2 G c
  | a + 3, _, h, _ => by omega
  | 0, b + 3, _, h => by omega
  | 1, b + 3, _, h => by omega
  | 2, b + 3, _, h => by omega
theorem m5 : ∀ a b : Nat, a < 5 → b < 5 → pcall tabD (aexec G tabD 60) 100 [roomV 5 1 5 [c], .int .i64 a, .int .i64 b] = some (.val (.int .i64 (mulT 5 a b : Nat)), false)
  | 0, 0, _, _ => m5_0_0 G c
  | 0, 1, _, _ => m5_0_1 G c
  | 0, 2, _, _ => m5_0_2 G c
  | 0, 3, _, _ => m5_0_3 G c
  | 0, 4, _, _ => m5_0_4 G c
  | 1, 0, _, _ => m5_1_0 G c
  | 1, 1, _, _ => m5_1_1 G c
  | 1, 2, _, _ => m5_1_2 G c
  | 1, 3, _, _ => m5_1_3 G c
  | 1, 4, _, _ => m5_1_4 G c
  | 2, 0, _, _ => m5_2_0 G c
  | 2, 1, _, _ => m5_2_1 G c
  | 2, 2, _, _ => m5_2_2 G c
  | 2, 3, _, _ => m5_2_3 G c
  | 2, 4, _, _ => m5_2_4 G c
  | 3, 0, _, _ => m5_3_0 G c
  | 3, 1, _, _ => m5_3_1 G c
  | 3, 2, _, _ => m5_3_2 G c
  | 3, 3, _, _ => m5_3_3 G c
  | 3, 4, _, _ => m5_3_4 G c
  | 4, 0, _, _ => m5_4_0 G c
  | 4, 1, _, _ => m5_4_1 G c
  | 4, 2, _, _ => m5_4_2 G c
  | 4, 3, _, _ => m5_4_3 G c
  | 4, 4, _, _ => m5_4_4 G c
  | a + 5, _, h, _ => by omega
  | 0, b + 5, _, h => by omega
  | 1, b + 5, _, h => by omega
  | 2, b + 5, _, h => by omega
  | 3, b + 5, _, h => by omega
  | 4, b + 5, _, h => by omega
theorem s5 : ∀ a b : Nat, a < 5 → b < 5 → pcall tabD (aexec G tabD 60) 101 [roomV 5 1 5 [c], .int .i64 a, .int .i64 b] = some (.val (.int .i64 (addT 5 a b : Nat)), false)
  | 0, 0, _, _ => s5_0_0 G c
  | 0, 1, _, _ => s5_0_1 G c
  | 0, 2, _, _ => s5_0_2 G c
  | 0, 3, _, _ => s5_0_3 G c
  | 0, 4, _, _ => s5_0_4 G c
  | 1, 0, _, _ => s5_1_0 G c
  | 1, 1, _, _ => s5_1_1 G c
  | 1, 2, _, _ => s5_1_2 G c
  | 1, 3, _, _ => s5_1_3 G c
  | 1, 4, _, _ => s5_1_4 G c
  | 2, 0, _, _ => s5_2_0 G c
  | 2, 1, _, _ => s5_2_1 G c
  | 2, 2, _, _ => s5_2_2 G c
  | 2, 3, _, _ => s5_2_3 G c
  | 2, 4, _, _ => s5_2_4 G c
  | 3, 0, _, _ => s5_3_0 G c
  | 3, 1, _, _ => s5_3_1 G c
  | 3, 2, _, _ => s5_3_2 G c
  | 3, 3, _, _ => s5_3_3 G c
  | 3, 4, _, _ => s5_3_4 G c
  | 4, 0, _, _ => s5_4_0 G c
  | 4, 1, _, _ => s5_4_1 G c
  | 4, 2, _, _ => s5_4_2 G c
  | 4, 3, _, _ => s5_4_3 G c
  | 4, 4, _, _ => s5_4_4 G c
  | a + 5, _, h, _ => by omega
  | 0, b + 5, _, h => by omega
  | 1, b + 5, _, h => by omega
  | 2, b + 5, _, h => by omega
  | 3, b + 5, _, h => by omega
  | 4, b + 5, _, h => by omega
theorem m4 : ∀ a b : Nat, a < 4 → b < 4 → pcall tabD (aexec G tabD 60) 100 [roomV 2 2 4 [1, 1], .int .i64 a, .int .i64 b] = some (.val (.int .i64 (mulT 4 a b : Nat)), false)
  | 0, 0, _, _ => m4_0_0 G
  | 0, 1, _, _ => m4_0_1 G
  | 0, 2, _, _ => m4_0_2 G
  | 0, 3, _, _ => m4_0_3 G
  | 1, 0, _, _ => m4_1_0 G
  | 1, 1, _, _ => m4_1_1 G
  | 1, 2, _, _ => m4_1_2 G
  | 1, 3, _, _ => m4_1_3 G
  | 2, 0, _, _ => m4_2_0 G
  | 2, 1, _, _ => m4_2_1 G
  | 2, 2, _, _ => m4_2_2 G
  | 2, 3, _, _ => m4_2_3 G
  | 3, 0, _, _ => m4_3_0 G
  | 3, 1, _, _ => m4_3_1 G
  | 3, 2, _, _ => m4_3_2 G
  | 3, 3, _, _ => m4_3_3 G
  | a + 4, _, h, _ => by omega
  | 0, b + 4, _, h => by omega
  | 1, b + 4, _, h => by omega
  | 2, b + 4, _, h => by omega
  | 3, b + 4, _, h => by omega
theorem s4 : ∀ a b : Nat, a < 4 → b < 4 → pcall tabD (aexec G tabD 60) 101 [roomV 2 2 4 [1, 1], .int .i64 a, .int .i64 b] = some (.val (.int .i64 (addT 4 a b : Nat)), false)
  | 0, 0, _, _ => s4_0_0 G
  | 0, 1, _, _ => s4_0_1 G
  | 0, 2, _, _ => s4_0_2 G
  | 0, 3, _, _ => s4_0_3 G
  | 1, 0, _, _ => s4_1_0 G
  | 1, 1, _, _ => s4_1_1 G
  | 1, 2, _, _ => s4_1_2 G
  | 1, 3, _, _ => s4_1_3 G
  | 2, 0, _, _ => s4_2_0 G
  | 2, 1, _, _ => s4_2_1 G
  | 2, 2, _, _ => s4_2_2 G
  | 2, 3, _, _ => s4_2_3 G
  | 3, 0, _, _ => s4_3_0 G
  | 3, 1, _, _ => s4_3_1 G
  | 3, 2, _, _ => s4_3_2 G
  | 3, 3, _, _ => s4_3_3 G
  | a + 4, _, h, _ => by omega
  | 0, b + 4, _, h => by omega
  | 1, b + 4, _, h => by omega
  | 2, b + 4, _, h => by omega
  | 3, b + 4, _, h => by omega
end
end Go.Am
