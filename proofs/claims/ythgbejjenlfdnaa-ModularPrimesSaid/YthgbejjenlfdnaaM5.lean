/-
  Plain laws: room for eight primes.
-/
import Derived.Test.YthgbejjenlfdnaaQ16
set_option linter.unusedVariables false
set_option linter.unusedSimpArgs false
set_option maxRecDepth 100000
namespace Go.Refl.S3
open Go Go.Refl Go.Proofs

theorem Pri_chk {n : Nat} (h2 : 2 ≤ n) (h3 : n < 2147483648) (h : allR (fun d => Nat.blt d 2 || (n % d != 0)) 16 0 = true) : Pri (n : Int) := by
  refine ⟨by omega, fun d hd hd2 hz => ?_⟩
  have hle : d < 65536 := by
    apply Classical.byContradiction
    intro hc
    have := sq_mono (r := 65536) (s := d) (by omega) (by omega)
    omega
  have := allR_sound 16 0 h d.toNat (by omega) (by omega)
  simp only [Bool.or_eq_true, Nat.blt_eq, bne_iff_ne, ne_eq] at this
  rcases this with h | h
  · omega
  · apply h
    have e : ((n % d.toNat : Nat) : Int) = (n : Int) % d := by
      rw [Int.natCast_emod, show ((d.toNat : Nat) : Int) = d by omega]
    omega
theorem pr1 : Pri ((2147483489 : Nat) : Int) := Pri_chk (by omega) (by omega) (by decide +kernel)
theorem pr2 : Pri ((2147483497 : Nat) : Int) := Pri_chk (by omega) (by omega) (by decide +kernel)
theorem pr3 : Pri ((2147483543 : Nat) : Int) := Pri_chk (by omega) (by omega) (by decide +kernel)
theorem pr4 : Pri ((2147483549 : Nat) : Int) := Pri_chk (by omega) (by omega) (by decide +kernel)
theorem pr5 : Pri ((2147483563 : Nat) : Int) := Pri_chk (by omega) (by omega) (by decide +kernel)
theorem pr6 : Pri ((2147483579 : Nat) : Int) := Pri_chk (by omega) (by omega) (by decide +kernel)
theorem pr7 : Pri ((2147483587 : Nat) : Int) := Pri_chk (by omega) (by omega) (by decide +kernel)
theorem Room_step {k : Nat} {p q : Int} (h0 : 0 ≤ p) (hpq : p < q) (hq : Pri q) (h1 : q < 2147483647) (H : ∀ r : Int, 0 ≤ r → r ≤ q → Room k r) : Room (k + 1) p := by
  refine ⟨h0, by omega, H _ ?_ ?_⟩
  · have := (nxt_Pri (n := p) (by omega)).1
    omega
  · apply Classical.byContradiction
    intro hc
    exact (nxt_Pri (n := p) (by omega)).2.2.2 q hpq (by omega) hq
theorem Room_mono : ∀ (k : Nat) (p : Int), Room (k + 1) p → Room k p
  | 0, _, _ => trivial
  | k + 1, p, h => ⟨h.1, h.2.1, Room_mono k _ h.2.2⟩
theorem Room_le {k j : Nat} {p : Int} (h : j ≤ k) (hr : Room k p) : Room j p := by
  induction k with
  | zero => rw [show j = 0 by omega]; trivial
  | succ k ih =>
    by_cases e : j = k + 1
    · rw [e]; exact hr
    · exact ih (by omega) (Room_mono k p hr)
theorem Room_eight {p : Int} (h0 : 0 ≤ p) (h1 : p < 2147483489) : Room 8 p := by
  have r1 : ∀ r : Int, 0 ≤ r → r ≤ 2147483587 → Room 1 r := fun r hr hr2 => ⟨hr, by omega, trivial⟩
  have r2 : ∀ r : Int, 0 ≤ r → r ≤ 2147483579 → Room 2 r := fun r hr hr2 => Room_step hr (by omega) pr7 (by omega) fun s h1 h2 => r1 s h1 (by omega)
  have r3 : ∀ r : Int, 0 ≤ r → r ≤ 2147483563 → Room 3 r := fun r hr hr2 => Room_step hr (by omega) pr6 (by omega) fun s h1 h2 => r2 s h1 (by omega)
  have r4 : ∀ r : Int, 0 ≤ r → r ≤ 2147483549 → Room 4 r := fun r hr hr2 => Room_step hr (by omega) pr5 (by omega) fun s h1 h2 => r3 s h1 (by omega)
  have r5 : ∀ r : Int, 0 ≤ r → r ≤ 2147483543 → Room 5 r := fun r hr hr2 => Room_step hr (by omega) pr4 (by omega) fun s h1 h2 => r4 s h1 (by omega)
  have r6 : ∀ r : Int, 0 ≤ r → r ≤ 2147483497 → Room 6 r := fun r hr hr2 => Room_step hr (by omega) pr3 (by omega) fun s h1 h2 => r5 s h1 (by omega)
  have r7 : ∀ r : Int, 0 ≤ r → r ≤ 2147483489 → Room 7 r := fun r hr hr2 => Room_step hr (by omega) pr2 (by omega) fun s h1 h2 => r6 s h1 (by omega)
  exact Room_step h0 (by omega) pr1 (by omega) fun s h1 h2 => r7 s h1 (by omega)
end Go.Refl.S3
