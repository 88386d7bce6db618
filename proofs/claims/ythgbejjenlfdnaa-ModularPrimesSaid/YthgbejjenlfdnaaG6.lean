/-
  Plain numbers: above each number below 2^31 - 1 there is a prime within 1000.
-/
import Derived.Test.YthgbejjenlfdnaaG2
import Derived.Test.YthgbejjenlfdnaaG3
import Derived.Test.YthgbejjenlfdnaaG4
import Derived.Test.YthgbejjenlfdnaaG5
set_option linter.unusedVariables false
set_option linter.unusedSimpArgs false
set_option maxRecDepth 100000
namespace Go.Refl.K

theorem gWs : ∀ i, i < 52 → allW 16 (46620 + 41287680 * i) = true
  | 0, _ => gW0
  | 1, _ => gW1
  | 2, _ => gW2
  | 3, _ => gW3
  | 4, _ => gW4
  | 5, _ => gW5
  | 6, _ => gW6
  | 7, _ => gW7
  | 8, _ => gW8
  | 9, _ => gW9
  | 10, _ => gW10
  | 11, _ => gW11
  | 12, _ => gW12
  | 13, _ => gW13
  | 14, _ => gW14
  | 15, _ => gW15
  | 16, _ => gW16
  | 17, _ => gW17
  | 18, _ => gW18
  | 19, _ => gW19
  | 20, _ => gW20
  | 21, _ => gW21
  | 22, _ => gW22
  | 23, _ => gW23
  | 24, _ => gW24
  | 25, _ => gW25
  | 26, _ => gW26
  | 27, _ => gW27
  | 28, _ => gW28
  | 29, _ => gW29
  | 30, _ => gW30
  | 31, _ => gW31
  | 32, _ => gW32
  | 33, _ => gW33
  | 34, _ => gW34
  | 35, _ => gW35
  | 36, _ => gW36
  | 37, _ => gW37
  | 38, _ => gW38
  | 39, _ => gW39
  | 40, _ => gW40
  | 41, _ => gW41
  | 42, _ => gW42
  | 43, _ => gW43
  | 44, _ => gW44
  | 45, _ => gW45
  | 46, _ => gW46
  | 47, _ => gW47
  | 48, _ => gW48
  | 49, _ => gW49
  | 50, _ => gW50
  | 51, _ => gW51
  | n + 52, h => absurd h (by omega)
theorem gW {j : Nat} (h : j < 3408896) : w0 (46620 + 630 * j) = true := by
  by_cases hj : j < 3407872
  · have := allW_iff 16 _ (gWs (j / 65536) (by omega)) (j % 65536) (by have : (2 : Nat) ^ 16 = 65536 := by decide
                                                                       omega)
    rw [show 46620 + 41287680 * (j / 65536) + 630 * (j % 65536) = 46620 + 630 * j by omega] at this
    exact this
  · have := allW_iff 10 _ gW52 (j - 3407872) (by have : (2 : Nat) ^ 10 = 1024 := by decide
                                                 omega)
    rw [show 46620 + 41287680 * 52 + 630 * (j - 3407872) = 46620 + 630 * j by omega] at this
    exact this
theorem gap {k : Nat} (h : k < 2147482647) : ∃ x, k < x ∧ x ≤ k + 1000 ∧ NP x := by
  by_cases hk : k < 46620
  · exact chn_spec _ 0 (by omega) chn_ok k (Nat.zero_le _) hk
  · obtain ⟨o, ho, hg⟩ := w0_get (gW (j := (k - 46620) / 630 + 1) (by omega))
    refine ⟨46620 + 630 * ((k - 46620) / 630 + 1) + o, by omega, by omega, cop_prime (B := 46340) (fun d => KK_low) (by omega) (by omega) hg⟩
end Go.Refl.K
