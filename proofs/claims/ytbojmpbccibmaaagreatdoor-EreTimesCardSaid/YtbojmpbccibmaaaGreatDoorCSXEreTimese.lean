/- Numbers of times: the runs (a part). -/
import Derived.Test.YtbojmpbccibmaaaGreatDoorCST
set_option linter.unusedVariables false
set_option linter.unusedSimpArgs false
set_option linter.unusedSectionVars false
set_option linter.deprecated false
set_option maxRecDepth 100000
namespace Go.Proofs.YtbojmpbccibmaaaGreatDoor
open Go Go.Abs

theorem u_176_192 : ((List.range 5).all (pairOk (upP 176 16))) = true := by kernel_rfl
theorem u_114_128 : ((List.range 5).all (pairOk (upP 114 14))) = true := by kernel_rfl
theorem t_256_300_128_256 : ((List.range 5).all (blockOk 256 44 128 128)) = true := by kernel_rfl
theorem l_208_224 : ((List.range 5).all (pairOk (loP 208 16))) = true := by kernel_rfl
theorem t_128_256_0_10 : ((List.range 5).all (blockOk 128 128 0 10)) = true := by kernel_rfl
theorem u_55_66 : ((List.range 5).all (pairOk (upP 55 11))) = true := by kernel_rfl
theorem u_21_32 : ((List.range 5).all (pairOk (upP 21 11))) = true := by kernel_rfl
theorem t_10_100_100_128 : ((List.range 5).all (blockOk 10 90 100 28)) = true := by kernel_rfl
theorem t_10_55_55_100 : ((List.range 5).all (blockOk 10 45 55 45)) = true := by kernel_rfl
theorem t_160_192_128_160 : ((List.range 5).all (blockOk 160 32 128 32)) = true := by kernel_rfl
theorem l_32_43 : ((List.range 5).all (pairOk (loP 32 11))) = true := by kernel_rfl
theorem l_10_21 : ((List.range 5).all (pairOk (loP 10 11))) = true := by kernel_rfl
theorem t_100_128_0_10 : ((List.range 5).all (blockOk 100 28 0 10)) = true := by kernel_rfl
theorem l_0_10 : ((List.range 5).all (pairOk (loP 0 10))) = true := by kernel_rfl
theorem t_114_128_100_114 : ((List.range 5).all (blockOk 114 14 100 14)) = true := by kernel_rfl
theorem t_77_88_88_100 : ((List.range 5).all (blockOk 77 11 88 12)) = true := by kernel_rfl
theorem t_278_289_289_300 : ((List.range 5).all (blockOk 278 11 289 11)) = true := by kernel_rfl

end Go.Proofs.YtbojmpbccibmaaaGreatDoor
