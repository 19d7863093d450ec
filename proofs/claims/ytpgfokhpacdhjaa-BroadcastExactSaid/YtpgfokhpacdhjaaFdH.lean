/-
  Conversions, as an operation; between integers.
-/
import Derived.Test.YtpgfokhpacdhjaaFdO
import Derived.Test.YtpgfokhpacdhjaaFacts
import Derived.Laws.Entries
namespace Go.Proofs.Ytpgfokhpacdhjaa.Fd
set_option linter.unusedSimpArgs false
set_option linter.unusedVariables false
open Go
set_option maxRecDepth 100000

section
variable {P : Program} {D : Den} {w : World} {ty : TypeId} {e : Operand → Value}
def cnvS (P : Program) (src dst : TypeId) (v : Value) (w : World) : Option (Value × World) := lift ((convert src dst v).run P w)
theorem opX_convert {src dst : TypeId} {x : Operand} : opX P D (.convert src dst x) ty e w = cnvS P src dst (e x) w := by
  simp only [opX, opS, execOp, cnvS, lift]
  rw [Sem.run_bind]
  cases Sem.run P (convert src dst (e x)) w <;> rfl
attribute [push_cast] opX_convert
theorem cnv_int {src dst : TypeId} {k : IntKind} {n : Int} (hs : (P.underlying src).isSome = true) (hd : P.underlying dst = some (.int (P.intKind dst))) : cnvS P src dst (.int k n) w = some (.int (P.intKind dst) ((P.intKind dst).wrap n), w) := by
  unfold cnvS
  rw [run_convert_int w src dst k n hs hd]
  rfl
end
end Go.Proofs.Ytpgfokhpacdhjaa.Fd
