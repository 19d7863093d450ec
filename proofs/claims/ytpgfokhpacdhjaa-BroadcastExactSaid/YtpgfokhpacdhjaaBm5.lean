/-
  The laying of slices.SortFunc at names, in plain words (the kit's tool wrote its lines).
-/
import Derived.Shelf.SlLaysF0
import Derived.Shelf.SlGeneric
import Derived.Ground.SlsfProg
import Derived.Test.YtpgfokhpacdhjaaProg
namespace Go.Proofs.Ytpgfokhpacdhjaa.Fd
set_option linter.unusedSimpArgs false
set_option linter.unusedVariables false
open Go Go.Shelf
set_option maxRecDepth 100000
def layQ_ren : Go.Shelf.Ren := ⟨fun | 6 => 51 | 15 => 56 | 14 => 55 | 28 => 65 | 29 => 66 | 20 => 57 | 21 => 58 | 22 => 59 | 23 => 60 | 24 => 61 | 25 => 62 | 26 => 63 | 27 => 64 | 46 => 67 | 47 => 68 | 48 => 69 | 49 => 70 | 50 => 71 | 57 => 72 | n => n, fun | 22 => 73 | 24 => 76 | 25 => 100 | 3 => 3 | 39 => 26 | 0 => 0 | 53 => 117 | 55 => 119 | 4 => 4 | 46 => 110 | 45 => 109 | 50 => 114 | 5 => 5 | 9 => 9 | 66 => 120 | 70 => 124 | 76 => 126 | 77 => 127 | n => n, fun | n => n⟩
theorem layQ : Go.Proofs.SlLaysF0.n6 Try.prog layQ_ren := {
  mixed := by kernel_rfl
  f6 := ⟨Try.f51.name, by decide, Try.func51.trans (congrArg some (by kernel_rfl))⟩
  f14 := ⟨Try.f55.name, by decide, Try.func55.trans (congrArg some (by kernel_rfl))⟩
  f15 := Try.func56.trans (congrArg some (by kernel_rfl))
  f20 := ⟨Try.f57.name, by decide, Try.func57.trans (congrArg some (by kernel_rfl))⟩
  f21 := ⟨Try.f58.name, by decide, Try.func58.trans (congrArg some (by kernel_rfl))⟩
  f22 := ⟨Try.f59.name, by decide, Try.func59.trans (congrArg some (by kernel_rfl))⟩
  f23 := ⟨Try.f60.name, by decide, Try.func60.trans (congrArg some (by kernel_rfl))⟩
  f24 := ⟨Try.f61.name, by decide, Try.func61.trans (congrArg some (by kernel_rfl))⟩
  f25 := ⟨Try.f62.name, by decide, Try.func62.trans (congrArg some (by kernel_rfl))⟩
  f26 := ⟨Try.f63.name, by decide, Try.func63.trans (congrArg some (by kernel_rfl))⟩
  f27 := ⟨Try.f64.name, by decide, Try.func64.trans (congrArg some (by kernel_rfl))⟩
  f28 := Try.func65.trans (congrArg some (by kernel_rfl))
  f29 := Try.func66.trans (congrArg some (by kernel_rfl))
  f46 := ⟨Try.f67.name, by decide, Try.func67.trans (congrArg some (by kernel_rfl))⟩
  f47 := Try.func68.trans (congrArg some (by kernel_rfl))
  f48 := Try.func69.trans (congrArg some (by kernel_rfl))
  f49 := ⟨Try.f70.name, by decide, Try.func70.trans (congrArg some (by kernel_rfl))⟩
  f50 := ⟨Try.f71.name, by decide, Try.func71.trans (congrArg some (by kernel_rfl))⟩
  f57 := ⟨Try.f72.name, by decide, Try.func72.trans (congrArg some (by kernel_rfl))⟩
  t0 := Try.underlying0
  a0 := Try.isAgg0
  z0 := Try.sizeOf0
  v0 := Try.zeroValue0
  t3 := Try.underlying3
  a3 := Try.isAgg3
  z3 := Try.sizeOf3
  v3 := Try.zeroValue3
  t4 := Try.underlying4
  a4 := Try.isAgg4
  z4 := Try.sizeOf4
  v4 := Try.zeroValue4
  t5 := Try.underlying5
  a5 := Try.isAgg5
  z5 := Try.sizeOf5
  v5 := Try.zeroValue5
  t9 := Try.underlying9
  a9 := Try.isAgg9
  z9 := Try.sizeOf9
  v9 := Try.zeroValue9
  t22 := Try.underlying73
  a22 := Try.isAgg73
  z22 := Try.sizeOf73
  v22 := Try.zeroValue73
  t25 := Try.underlying100
  a25 := Try.isAgg100
  z25 := Try.sizeOf100
  v25 := Try.zeroValue100
  t39 := Try.underlying26
  a39 := Try.isAgg26
  z39 := Try.sizeOf26
  v39 := Try.zeroValue26
  t45 := Try.underlying109
  a45 := Try.isAgg109
  z45 := Try.sizeOf109
  v45 := Try.zeroValue109
  t46 := Try.underlying110
  a46 := Try.isAgg110
  z46 := Try.sizeOf110
  v46 := Try.zeroValue110
  t50 := Try.underlying114
  a50 := Try.isAgg114
  z50 := Try.sizeOf114
  v50 := Try.zeroValue114
  t53 := Try.underlying117
  a53 := Try.isAgg117
  z53 := Try.sizeOf117
  v53 := Try.zeroValue117
  t55 := Try.underlying119
  a55 := Try.isAgg119
  z55 := Try.sizeOf119
  v55 := Try.zeroValue119
  t66 := Try.underlying120
  a66 := Try.isAgg120
  z66 := Try.sizeOf120
  v66 := Try.zeroValue120
  t70 := Try.underlying124
  a70 := Try.isAgg124
  z70 := Try.sizeOf124
  v70 := Try.zeroValue124
  t76 := Try.underlying126
  a76 := Try.isAgg126
  z76 := Try.sizeOf126
  v76 := Try.zeroValue126
  t77 := Try.underlying127
  a77 := Try.isAgg127
  z77 := Try.sizeOf127
  v77 := Try.zeroValue127 }
end Go.Proofs.Ytpgfokhpacdhjaa.Fd
