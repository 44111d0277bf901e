/- Numbers of times: the runs (a part). -/
import Derived.Test.YtbojmpbccibmaaaGreatDoorCST
set_option linter.unusedVariables false
set_option linter.unusedSimpArgs false
set_option linter.unusedSectionVars false
set_option linter.deprecated false
set_option maxRecDepth 100000
namespace Go.Proofs.YtbojmpbccibmaaaGreatDoor
open Go Go.Abs

theorem u_192_208 : ((List.range 5).all (pairOk (upP 192 16))) = true := by kernel_rfl
theorem t_10_100_128_256 : ((List.range 5).all (blockOk 10 90 128 128)) = true := by kernel_rfl
theorem u_43_55 : ((List.range 5).all (pairOk (upP 43 12))) = true := by kernel_rfl
theorem l_224_240 : ((List.range 5).all (pairOk (loP 224 16))) = true := by kernel_rfl
theorem l_128_144 : ((List.range 5).all (pairOk (loP 128 16))) = true := by kernel_rfl
theorem u_278_289 : ((List.range 5).all (pairOk (upP 278 11))) = true := by kernel_rfl
theorem t_10_100_256_300 : ((List.range 5).all (blockOk 10 90 256 44)) = true := by kernel_rfl
theorem l_114_128 : ((List.range 5).all (pairOk (loP 114 14))) = true := by kernel_rfl
theorem t_0_10_10_100 : ((List.range 5).all (blockOk 0 10 10 90)) = true := by kernel_rfl
theorem t_192_224_224_256 : ((List.range 5).all (blockOk 192 32 224 32)) = true := by kernel_rfl
theorem l_66_77 : ((List.range 5).all (pairOk (loP 66 11))) = true := by kernel_rfl
theorem l_256_267 : ((List.range 5).all (pairOk (loP 256 11))) = true := by kernel_rfl
theorem t_10_32_32_55 : ((List.range 5).all (blockOk 10 22 32 23)) = true := by kernel_rfl
theorem t_208_224_192_208 : ((List.range 5).all (blockOk 208 16 192 16)) = true := by kernel_rfl
theorem t_128_144_144_160 : ((List.range 5).all (blockOk 128 16 144 16)) = true := by kernel_rfl
theorem t_55_66_66_77 : ((List.range 5).all (blockOk 55 11 66 11)) = true := by kernel_rfl
theorem t_10_21_21_32 : ((List.range 5).all (blockOk 10 11 21 11)) = true := by kernel_rfl

end Go.Proofs.YtbojmpbccibmaaaGreatDoor
