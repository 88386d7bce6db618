/-
  Plain numbers: windows in which a prime is found, as the kernel looks for it (part 3 of 4).
-/
import Derived.Test.YthgbejjenlfdnaaG1
set_option linter.unusedVariables false
set_option linter.unusedSimpArgs false
set_option maxRecDepth 100000
namespace Go.Refl.K

theorem gW26 : allW 16 (46620 + 41287680 * 26) = true := by decide +kernel
theorem gW27 : allW 16 (46620 + 41287680 * 27) = true := by decide +kernel
theorem gW28 : allW 16 (46620 + 41287680 * 28) = true := by decide +kernel
theorem gW29 : allW 16 (46620 + 41287680 * 29) = true := by decide +kernel
theorem gW30 : allW 16 (46620 + 41287680 * 30) = true := by decide +kernel
theorem gW31 : allW 16 (46620 + 41287680 * 31) = true := by decide +kernel
theorem gW32 : allW 16 (46620 + 41287680 * 32) = true := by decide +kernel
theorem gW33 : allW 16 (46620 + 41287680 * 33) = true := by decide +kernel
theorem gW34 : allW 16 (46620 + 41287680 * 34) = true := by decide +kernel
theorem gW35 : allW 16 (46620 + 41287680 * 35) = true := by decide +kernel
theorem gW36 : allW 16 (46620 + 41287680 * 36) = true := by decide +kernel
theorem gW37 : allW 16 (46620 + 41287680 * 37) = true := by decide +kernel
theorem gW38 : allW 16 (46620 + 41287680 * 38) = true := by decide +kernel
end Go.Refl.K
