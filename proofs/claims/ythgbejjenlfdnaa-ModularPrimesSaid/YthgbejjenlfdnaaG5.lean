/-
  Plain numbers: windows in which a prime is found, as the kernel looks for it (part 4 of 4).
-/
import Derived.Test.YthgbejjenlfdnaaG1
set_option linter.unusedVariables false
set_option linter.unusedSimpArgs false
set_option maxRecDepth 100000
namespace Go.Refl.K

theorem gW39 : allW 16 (46620 + 41287680 * 39) = true := by decide +kernel
theorem gW40 : allW 16 (46620 + 41287680 * 40) = true := by decide +kernel
theorem gW41 : allW 16 (46620 + 41287680 * 41) = true := by decide +kernel
theorem gW42 : allW 16 (46620 + 41287680 * 42) = true := by decide +kernel
theorem gW43 : allW 16 (46620 + 41287680 * 43) = true := by decide +kernel
theorem gW44 : allW 16 (46620 + 41287680 * 44) = true := by decide +kernel
theorem gW45 : allW 16 (46620 + 41287680 * 45) = true := by decide +kernel
theorem gW46 : allW 16 (46620 + 41287680 * 46) = true := by decide +kernel
theorem gW47 : allW 16 (46620 + 41287680 * 47) = true := by decide +kernel
theorem gW48 : allW 16 (46620 + 41287680 * 48) = true := by decide +kernel
theorem gW49 : allW 16 (46620 + 41287680 * 49) = true := by decide +kernel
theorem gW50 : allW 16 (46620 + 41287680 * 50) = true := by decide +kernel
theorem gW51 : allW 16 (46620 + 41287680 * 51) = true := by decide +kernel
theorem gW52 : allW 10 (46620 + 41287680 * 52) = true := by decide +kernel
end Go.Refl.K
