/-
  Plain numbers: windows in which a prime is found, as the kernel looks for it (part 2 of 4).
-/
import Derived.Test.YthgbejjenlfdnaaG1
set_option linter.unusedVariables false
set_option linter.unusedSimpArgs false
set_option maxRecDepth 100000
namespace Go.Refl.K

theorem gW13 : allW 16 (46620 + 41287680 * 13) = true := by decide +kernel
theorem gW14 : allW 16 (46620 + 41287680 * 14) = true := by decide +kernel
theorem gW15 : allW 16 (46620 + 41287680 * 15) = true := by decide +kernel
theorem gW16 : allW 16 (46620 + 41287680 * 16) = true := by decide +kernel
theorem gW17 : allW 16 (46620 + 41287680 * 17) = true := by decide +kernel
theorem gW18 : allW 16 (46620 + 41287680 * 18) = true := by decide +kernel
theorem gW19 : allW 16 (46620 + 41287680 * 19) = true := by decide +kernel
theorem gW20 : allW 16 (46620 + 41287680 * 20) = true := by decide +kernel
theorem gW21 : allW 16 (46620 + 41287680 * 21) = true := by decide +kernel
theorem gW22 : allW 16 (46620 + 41287680 * 22) = true := by decide +kernel
theorem gW23 : allW 16 (46620 + 41287680 * 23) = true := by decide +kernel
theorem gW24 : allW 16 (46620 + 41287680 * 24) = true := by decide +kernel
theorem gW25 : allW 16 (46620 + 41287680 * 25) = true := by decide +kernel
end Go.Refl.K
