/-
  Plain numbers: windows in which a prime is found, as the kernel looks for it (part 1 of 4).
-/
import Derived.Test.YthgbejjenlfdnaaG1
set_option linter.unusedVariables false
set_option linter.unusedSimpArgs false
set_option maxRecDepth 100000
namespace Go.Refl.K

theorem gW0 : allW 16 (46620 + 41287680 * 0) = true := by decide +kernel
theorem gW1 : allW 16 (46620 + 41287680 * 1) = true := by decide +kernel
theorem gW2 : allW 16 (46620 + 41287680 * 2) = true := by decide +kernel
theorem gW3 : allW 16 (46620 + 41287680 * 3) = true := by decide +kernel
theorem gW4 : allW 16 (46620 + 41287680 * 4) = true := by decide +kernel
theorem gW5 : allW 16 (46620 + 41287680 * 5) = true := by decide +kernel
theorem gW6 : allW 16 (46620 + 41287680 * 6) = true := by decide +kernel
theorem gW7 : allW 16 (46620 + 41287680 * 7) = true := by decide +kernel
theorem gW8 : allW 16 (46620 + 41287680 * 8) = true := by decide +kernel
theorem gW9 : allW 16 (46620 + 41287680 * 9) = true := by decide +kernel
theorem gW10 : allW 16 (46620 + 41287680 * 10) = true := by decide +kernel
theorem gW11 : allW 16 (46620 + 41287680 * 11) = true := by decide +kernel
theorem gW12 : allW 16 (46620 + 41287680 * 12) = true := by decide +kernel
end Go.Refl.K
