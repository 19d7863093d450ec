/-
  Closed facts of this seat's program, printed by program (gen.py): the types' shapes; for each function the plan of its functional reading, its check, and the step from the body to the call.
-/
import Derived.Test.YtfjccccfkpgmgaaFacts
import Derived.KernelRfl
import Derived.Test.YtfjccccfkpgmgaaFdK
namespace Go.Proofs.Ytfjccccfkpgmgaa.Fd
open Go
set_option maxRecDepth 100000
theorem hb35 : hasB Try.prog 35 = true := by kernel_rfl
theorem hb51 : hasB Try.prog 51 = true := by kernel_rfl
theorem hb52 : hasB Try.prog 52 = true := by kernel_rfl
theorem hb53 : hasB Try.prog 53 = true := by kernel_rfl
theorem hb60 : hasB Try.prog 60 = true := by kernel_rfl
theorem hb71 : hasB Try.prog 71 = true := by kernel_rfl
attribute [push_cast] hb35 hb51 hb52 hb53 hb60 hb71
-- 35 plexus/order.Downsets
abbrev pl35 : Plan := (.two (.reg [3, 5]) (.two (.two (.reg [8]) (.two (.reg [18]) (.two (.two (.reg [6, 7]) .lf) .lf))) (.two (.two (.reg [21]) (.two (.two (.reg [6, 7]) .lf) .lf)) (.two (.reg [9, 10]) (.two (.two (.reg [29]) (.two (.two (.reg [6, 7]) .lf) .lf)) (.two (.reg [11]) (.two (.reg [12]) (.two (.reg [13]) (.two (.reg []) (.two (.two (.reg [36]) (.two (.two (.reg [6, 7]) .lf) .lf)) (.two (.reg []) (.two (.reg [6, 7]) .lf))))))))))))
theorem ok35 : okFn Try.f35 (Try.f35.body.getD .skip) pl35 3 = true := by kernel_rfl
abbrev rs35 : List Nat := [6, 7]
theorem in35 : Try.prog.inits.idxOf? 35 = none := by kernel_rfl
-- 51 plexus/order.Downsets$1
abbrev pl51 : Plan := (.two (.reg []) (.two (.two (.reg [16]) (.two (.two (.two (.reg [20]) (.two (.two (.reg [10]) .lf) .lf)) (.two (.reg [11]) (.two (.two (.reg [22, 23]) (.blk (.lop [11, 23] (.two (.reg [24]) (.two (.two .lf .lf) (.two (.blk (.two (.reg [12]) (.two (.reg [30]) (.two (.reg [11]) .lf)))) (.reg [23]))))))) (.two (.reg []) (.two (.reg [10]) .lf))))) .lf)) (.two (.two (.reg [45]) (.two (.two (.reg [10]) .lf) .lf)) (.two (.two (.reg [46, 47]) (.blk (.lop [47] (.two (.reg [48]) (.two (.two .lf .lf) (.two (.blk (.two (.reg [13]) (.two (.drw [66] [] [] []) (.two (.two (.reg [10]) .lf) .lf)))) (.reg [47]))))))) (.two (.drw [10] [10] [] []) .lf)))))
theorem ok51 : okFn Try.f51 (Try.f51.body.getD .skip) pl51 8 = true := by kernel_rfl
abbrev rs51 : List Nat := [10]
theorem in51 : Try.prog.inits.idxOf? 51 = none := by kernel_rfl
-- 52 slices.SortFunc[[][]int,[]int]
abbrev pl52 : Plan := (.two (.reg [4]) (.reg []))
theorem ok52 : okFn Try.f52 (Try.f52.body.getD .skip) pl52 2 = true := by kernel_rfl
abbrev rs52 : List Nat := []
theorem in52 : Try.prog.inits.idxOf? 52 = none := by kernel_rfl
-- 53 slices.Compare[[]int,int]
abbrev pl53 : Plan := (.two (.reg []) (.two (.two (.reg [9, 10, 11]) (.blk (.lop [11] (.two (.reg [12]) (.two (.two .lf .lf) (.two (.blk (.two (.reg [5, 6]) (.two (.two (.reg [19]) (.two (.two (.reg [4]) .lf) .lf)) (.two (.reg [7]) (.two (.reg [8]) (.two (.reg [28]) (.two (.two (.reg [4]) .lf) .lf))))))) (.reg [11]))))))) (.two (.two (.reg [35]) (.two (.two (.reg [4]) .lf) .lf)) (.two (.reg [4]) .lf))))
theorem ok53 : okFn Try.f53 (Try.f53.body.getD .skip) pl53 2 = true := by kernel_rfl
abbrev rs53 : List Nat := [4]
theorem in53 : Try.prog.inits.idxOf? 53 = none := by kernel_rfl
-- 60 cmp.Compare[int]
abbrev pl60 : Plan := (.two (.reg []) (.two (.reg [5]) (.two (.reg [6]) (.two (.two (.reg [11]) (.two (.two (.two (.reg [12]) (.two (.two (.reg [4]) .lf) .lf)) (.two (.reg [4]) .lf)) .lf)) (.two (.two (.reg [13]) (.two (.two (.reg [4]) .lf) .lf)) (.two (.two (.reg [16]) (.two (.two (.reg [4]) .lf) .lf)) (.two (.two (.reg [19]) (.two (.two (.reg [4]) .lf) .lf)) (.two (.reg [4]) .lf))))))))
theorem ok60 : okFn Try.f60 (Try.f60.body.getD .skip) pl60 2 = true := by kernel_rfl
abbrev rs60 : List Nat := [4]
theorem in60 : Try.prog.inits.idxOf? 60 = none := by kernel_rfl
-- 71 cmp.isNaN[int]
abbrev pl71 : Plan := (.two (.reg []) (.two (.reg [2]) .lf))
theorem ok71 : okFn Try.f71 (Try.f71.body.getD .skip) pl71 1 = true := by kernel_rfl
abbrev rs71 : List Nat := [2]
theorem in71 : Try.prog.inits.idxOf? 71 = none := by kernel_rfl
end Go.Proofs.Ytfjccccfkpgmgaa.Fd
