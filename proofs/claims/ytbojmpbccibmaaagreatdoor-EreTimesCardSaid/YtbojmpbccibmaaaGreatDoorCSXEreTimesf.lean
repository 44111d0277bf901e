/- Numbers of times: the runs (a part). -/
import Derived.Test.YtbojmpbccibmaaaGreatDoorCST
set_option linter.unusedVariables false
set_option linter.unusedSimpArgs false
set_option linter.unusedSectionVars false
set_option linter.deprecated false
set_option maxRecDepth 100000
namespace Go.Proofs.YtbojmpbccibmaaaGreatDoor
open Go Go.Abs

theorem u_160_176 : ((List.range 5).all (pairOk (upP 160 16))) = true := by kernel_rfl
theorem u_100_114 : ((List.range 5).all (pairOk (upP 100 14))) = true := by kernel_rfl
theorem t_128_256_256_300 : ((List.range 5).all (blockOk 128 128 256 44)) = true := by kernel_rfl
theorem l_192_208 : ((List.range 5).all (pairOk (loP 192 16))) = true := by kernel_rfl
theorem t_0_10_128_256 : ((List.range 5).all (blockOk 0 10 128 128)) = true := by kernel_rfl
theorem u_32_43 : ((List.range 5).all (pairOk (upP 32 11))) = true := by kernel_rfl
theorem u_10_21 : ((List.range 5).all (pairOk (upP 10 11))) = true := by kernel_rfl
theorem t_100_128_10_100 : ((List.range 5).all (blockOk 100 28 10 90)) = true := by kernel_rfl
theorem t_256_300_100_128 : ((List.range 5).all (blockOk 256 44 100 28)) = true := by kernel_rfl
theorem l_43_55 : ((List.range 5).all (pairOk (loP 43 12))) = true := by kernel_rfl
theorem t_0_10_256_300 : ((List.range 5).all (blockOk 0 10 256 44)) = true := by kernel_rfl
theorem l_278_289 : ((List.range 5).all (pairOk (loP 278 11))) = true := by kernel_rfl
theorem t_55_77_77_100 : ((List.range 5).all (blockOk 55 22 77 23)) = true := by kernel_rfl
theorem t_0_10_100_128 : ((List.range 5).all (blockOk 0 10 100 28)) = true := by kernel_rfl
theorem t_176_192_160_176 : ((List.range 5).all (blockOk 176 16 160 16)) = true := by kernel_rfl
theorem t_88_100_77_88 : ((List.range 5).all (blockOk 88 12 77 11)) = true := by kernel_rfl
theorem t_289_300_278_289 : ((List.range 5).all (blockOk 289 11 278 11)) = true := by kernel_rfl

end Go.Proofs.YtbojmpbccibmaaaGreatDoor
