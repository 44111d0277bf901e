/- Numbers of times: the runs (a part). -/
import Derived.Test.YtbojmpbccibmaaaGreatDoorCST
set_option linter.unusedVariables false
set_option linter.unusedSimpArgs false
set_option linter.unusedSectionVars false
set_option linter.deprecated false
set_option maxRecDepth 100000
namespace Go.Proofs.YtbojmpbccibmaaaGreatDoor
open Go Go.Abs

theorem u_240_256 : ((List.range 5).all (pairOk (upP 240 16))) = true := by kernel_rfl
theorem u_144_160 : ((List.range 5).all (pairOk (upP 144 16))) = true := by kernel_rfl
theorem t_128_256_100_128 : ((List.range 5).all (blockOk 128 128 100 28)) = true := by kernel_rfl
theorem l_176_192 : ((List.range 5).all (pairOk (loP 176 16))) = true := by kernel_rfl
theorem u_77_88 : ((List.range 5).all (pairOk (upP 77 11))) = true := by kernel_rfl
theorem u_267_278 : ((List.range 5).all (pairOk (upP 267 11))) = true := by kernel_rfl
theorem t_192_256_128_192 : ((List.range 5).all (blockOk 192 64 128 64)) = true := by kernel_rfl
theorem l_100_114 : ((List.range 5).all (pairOk (loP 100 14))) = true := by kernel_rfl
theorem l_88_100 : ((List.range 5).all (pairOk (loP 88 12))) = true := by kernel_rfl
theorem t_256_300_0_10 : ((List.range 5).all (blockOk 256 44 0 10)) = true := by kernel_rfl
theorem l_55_66 : ((List.range 5).all (pairOk (loP 55 11))) = true := by kernel_rfl
theorem l_21_32 : ((List.range 5).all (pairOk (loP 21 11))) = true := by kernel_rfl
theorem t_278_300_256_278 : ((List.range 5).all (blockOk 278 22 256 22)) = true := by kernel_rfl
theorem t_224_240_240_256 : ((List.range 5).all (blockOk 224 16 240 16)) = true := by kernel_rfl
theorem t_144_160_128_144 : ((List.range 5).all (blockOk 144 16 128 16)) = true := by kernel_rfl
theorem t_66_77_55_66 : ((List.range 5).all (blockOk 66 11 55 11)) = true := by kernel_rfl
theorem t_21_32_10_21 : ((List.range 5).all (blockOk 21 11 10 11)) = true := by kernel_rfl

end Go.Proofs.YtbojmpbccibmaaaGreatDoor
