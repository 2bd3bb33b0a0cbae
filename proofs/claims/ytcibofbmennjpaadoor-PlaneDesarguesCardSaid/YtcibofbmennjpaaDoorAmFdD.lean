/- The dual, by running the machine in the kernel; the least field of order 2; sizes. -/
import Derived.Test.YtcibofbmennjpaaDoorAmFdP
set_option linter.unusedVariables false
set_option linter.unusedSimpArgs false
namespace Go.Am
set_option maxRecDepth 1000000
section
variable (G : Nat → List AV) (c : Int)
def fldV (p k : Int) (low : List Int) : AV := .agg [.int .i64 p, .int .i64 k, .lst low.length (low.map (.int .i64))]
theorem size2 : pcall tabD (aexec G tabD 100) 11 [fldV 2 1 [c]] = some (.val (.int .i64 2), false) := by kernel_rfl
theorem size3 : pcall tabD (aexec G tabD 100) 11 [fldV 3 1 [c]] = some (.val (.int .i64 3), false) := by kernel_rfl
theorem size5 : pcall tabD (aexec G tabD 100) 11 [fldV 5 1 [c]] = some (.val (.int .i64 5), false) := by kernel_rfl
theorem size4 : pcall tabD (aexec G tabD 100) 11 [fldV 2 2 [1, 1]] = some (.val (.int .i64 4), false) := by kernel_rfl
theorem dual2 : pcall tabD (aexec G tabD 300) 29 [(Des.mk 7 (rowsO rowsQ2)).av] = some (.val (.tup [(Des.mk 7 (rowsO rowsQ2)).av, .int .i64 0]), false) := by kernel_rfl
theorem dual3 : pcall tabD (aexec G tabD 300) 29 [(Des.mk 13 (rowsO rowsQ3)).av] = some (.val (.tup [(Des.mk 13 (rowsO rowsQ3)).av, .int .i64 0]), false) := by kernel_rfl
theorem dual4 : pcall tabD (aexec G tabD 300) 29 [(Des.mk 21 (rowsO rowsQ4)).av] = some (.val (.tup [(Des.mk 21 (rowsO rowsQ4)).av, .int .i64 0]), false) := by kernel_rfl
theorem dual5 : pcall tabD (aexec G tabD 300) 29 [(Des.mk 31 (rowsO rowsQ5)).av] = some (.val (.tup [(Des.mk 31 (rowsO rowsQ5)).av, .int .i64 0]), false) := by kernel_rfl
end
/-- The package variables: the primes. -/
def GP : Nat → List AV := fun n => match n with
  | 0 => primesI.map (.int .i64)
  | _ => []
theorem least2 : pcall tabD (aexec GP tabD 300) 36 [.int .i64 2, .int .i64 1] = some (.val (.tup [fldV 2 1 [0], .int .i64 0]), false) := by kernel_rfl
theorem open2 : pcall tabD (aexec GP tabD 300) 123 [fldV 2 1 [0]] = some (.val (.tup [.agg ((Fld.mk 2 1 (some [0])).room 2), .int .i64 0]), true) := by kernel_rfl
theorem popen2 : pcall tabD (aexec GP tabD 300) 78 [fldV 2 1 [0]] = some (.val (.tup [.int .i64 2, .int .i64 0]), false) := by kernel_rfl
end Go.Am
