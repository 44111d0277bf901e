/- Numbers of times: the runs (a part). -/
import Derived.Test.YtbojmpbccibmaaaGreatDoorCST
set_option linter.unusedVariables false
set_option linter.unusedSimpArgs false
set_option linter.unusedSectionVars false
set_option linter.deprecated false
set_option maxRecDepth 100000
namespace Go.Proofs.YtbojmpbccibmaaaGreatDoor
open Go Go.Abs

theorem u_224_240 : ((List.range 5).all (pairOk (upP 224 16))) = true := by kernel_rfl
theorem u_128_144 : ((List.range 5).all (pairOk (upP 128 16))) = true := by kernel_rfl
theorem t_100_128_128_256 : ((List.range 5).all (blockOk 100 28 128 128)) = true := by kernel_rfl
theorem l_160_176 : ((List.range 5).all (pairOk (loP 160 16))) = true := by kernel_rfl
theorem u_66_77 : ((List.range 5).all (pairOk (upP 66 11))) = true := by kernel_rfl
theorem u_256_267 : ((List.range 5).all (pairOk (upP 256 11))) = true := by kernel_rfl
theorem t_128_192_192_256 : ((List.range 5).all (blockOk 128 64 192 64)) = true := by kernel_rfl
theorem t_10_100_0_10 : ((List.range 5).all (blockOk 10 90 0 10)) = true := by kernel_rfl
theorem t_100_128_256_300 : ((List.range 5).all (blockOk 100 28 256 44)) = true := by kernel_rfl
theorem t_128_160_160_192 : ((List.range 5).all (blockOk 128 32 160 32)) = true := by kernel_rfl
theorem l_289_300 : ((List.range 5).all (pairOk (loP 289 11))) = true := by kernel_rfl
theorem t_77_100_55_77 : ((List.range 5).all (blockOk 77 23 55 22)) = true := by kernel_rfl
theorem t_256_278_278_300 : ((List.range 5).all (blockOk 256 22 278 22)) = true := by kernel_rfl
theorem t_192_208_208_224 : ((List.range 5).all (blockOk 192 16 208 16)) = true := by kernel_rfl
theorem t_100_114_114_128 : ((List.range 5).all (blockOk 100 14 114 14)) = true := by kernel_rfl
theorem t_43_55_32_43 : ((List.range 5).all (blockOk 43 12 32 11)) = true := by kernel_rfl
theorem t_267_278_256_267 : ((List.range 5).all (blockOk 267 11 256 11)) = true := by kernel_rfl

end Go.Proofs.YtbojmpbccibmaaaGreatDoor
