/- Numbers of times: the runs (a part). -/
import Derived.Test.YtbojmpbccibmaaaGreatDoorCST
set_option linter.unusedVariables false
set_option linter.unusedSimpArgs false
set_option linter.unusedSectionVars false
set_option linter.deprecated false
set_option maxRecDepth 100000
namespace Go.Proofs.YtbojmpbccibmaaaGreatDoor
open Go Go.Abs

theorem u_208_224 : ((List.range 5).all (pairOk (upP 208 16))) = true := by kernel_rfl
theorem t_128_256_10_100 : ((List.range 5).all (blockOk 128 128 10 90)) = true := by kernel_rfl
theorem u_88_100 : ((List.range 5).all (pairOk (upP 88 12))) = true := by kernel_rfl
theorem l_240_256 : ((List.range 5).all (pairOk (loP 240 16))) = true := by kernel_rfl
theorem l_144_160 : ((List.range 5).all (pairOk (loP 144 16))) = true := by kernel_rfl
theorem u_289_300 : ((List.range 5).all (pairOk (upP 289 11))) = true := by kernel_rfl
theorem t_256_300_10_100 : ((List.range 5).all (blockOk 256 44 10 90)) = true := by kernel_rfl
theorem u_0_10 : ((List.range 5).all (pairOk (upP 0 10))) = true := by kernel_rfl
theorem t_55_100_10_55 : ((List.range 5).all (blockOk 55 45 10 45)) = true := by kernel_rfl
theorem t_224_256_192_224 : ((List.range 5).all (blockOk 224 32 192 32)) = true := by kernel_rfl
theorem l_77_88 : ((List.range 5).all (pairOk (loP 77 11))) = true := by kernel_rfl
theorem l_267_278 : ((List.range 5).all (pairOk (loP 267 11))) = true := by kernel_rfl
theorem t_32_55_10_32 : ((List.range 5).all (blockOk 32 23 10 22)) = true := by kernel_rfl
theorem t_240_256_224_240 : ((List.range 5).all (blockOk 240 16 224 16)) = true := by kernel_rfl
theorem t_160_176_176_192 : ((List.range 5).all (blockOk 160 16 176 16)) = true := by kernel_rfl
theorem t_32_43_43_55 : ((List.range 5).all (blockOk 32 11 43 12)) = true := by kernel_rfl
theorem t_256_267_267_278 : ((List.range 5).all (blockOk 256 11 267 11)) = true := by kernel_rfl

end Go.Proofs.YtbojmpbccibmaaaGreatDoor
