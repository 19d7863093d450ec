/-
  Closed facts of this seat's program, printed by program (gen.py): the types' shapes; for each function the plan of its functional reading, its check, and the step from the body to the call.
-/
import Derived.Test.YtpgfokhpacdhjaaFacts
import Derived.KernelRfl
import Derived.Test.YtpgfokhpacdhjaaFdK
namespace Go.Proofs.Ytpgfokhpacdhjaa.Fd
open Go
set_option maxRecDepth 100000
theorem hb53 : hasB Try.prog 53 = true := by kernel_rfl
attribute [push_cast] hb53
-- 53 cmp.isNaN[int]
abbrev pl53 : Plan := (.two (.reg []) (.two (.reg [2]) .lf))
theorem ok53 : okFn Try.f53 (Try.f53.body.getD .skip) pl53 1 = true := by kernel_rfl
abbrev rs53 : List Nat := [2]
theorem in53 : Try.prog.inits.idxOf? 53 = none := by kernel_rfl
end Go.Proofs.Ytpgfokhpacdhjaa.Fd
