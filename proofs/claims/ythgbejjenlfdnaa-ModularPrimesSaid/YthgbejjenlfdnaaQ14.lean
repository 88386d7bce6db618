/-
  The fixed examples hold.
-/
import Derived.Test.YthgbejjenlfdnaaP10
set_option linter.unusedVariables false
set_option linter.unusedSimpArgs false
set_option maxRecDepth 100000
namespace Go.Refl.S3
open Go Go.Refl Go.Proofs

theorem mr2 : mr 2 = true := by decide +kernel
theorem mr3 : mr 3 = true := by decide +kernel
theorem mr5 : mr 5 = true := by decide +kernel
theorem mr8 : mr 8 = false := by decide +kernel
theorem mr9 : mr 9 = false := by decide +kernel
theorem mr10 : mr 10 = false := by decide +kernel
theorem mr11 : mr 11 = true := by decide +kernel
theorem inv37 : inv 3 7 = 5 := by
  unfold inv
  rw [show (3 : Int) % 7 = 3 from rfl, eiv_pos (by omega), show (7 : Int) % 3 = 1 from rfl, eiv_pos (by omega), show (3 : Int) % 1 = 0 from rfl, eiv_zero]
  rfl
theorem inv27 : inv 2 7 = 4 := by
  unfold inv
  rw [show (2 : Int) % 7 = 2 from rfl, eiv_pos (by omega), show (7 : Int) % 2 = 1 from rfl, eiv_pos (by omega), show (2 : Int) % 1 = 0 from rfl, eiv_zero]
  rfl
theorem inv13 : inv 1 3 = 1 := by
  unfold inv
  rw [show (1 : Int) % 3 = 1 from rfl, eiv_pos (by omega), show (3 : Int) % 1 = 0 from rfl, eiv_zero]
  rfl
theorem inv35 : inv 3 5 = 2 := by
  unfold inv
  rw [show (3 : Int) % 5 = 3 from rfl, eiv_pos (by omega), show (5 : Int) % 3 = 2 from rfl, eiv_pos (by omega), show (3 : Int) % 2 = 1 from rfl, eiv_pos (by omega), show (2 : Int) % 1 = 0 from rfl, eiv_zero]
  rfl
theorem nxt7 : nxt (fun m => mr m = true) 7 = 11 := by
  refine nxt_eq (by omega) mr11 fun k h1 h2 => ?_
  have : k = 8 ∨ k = 9 ∨ k = 10 := by omega
  rcases this with rfl | rfl | rfl
  · rw [mr8]; simp
  · rw [mr9]; simp
  · rw [mr10]; simp
theorem chi0 : chi [2, 3] [3, 5] 0 1 = some (8, 15) := by
  simp only [chi, mr3, mr5]
  rw [if_neg (by simp), if_neg (by decide), if_neg (by simp), show (1 : Int) % 3 = 1 from rfl, show (1 : Int) * 3 % 5 = 3 from rfl, if_neg (by decide), inv13, inv35]
  rfl
theorem isq50 : isq 50 = 7 := isq_eq (by omega) (by omega) (by omega)
theorem isq3 : isq 3 = 1 := isq_eq (by omega) (by omega) (by omega)
theorem rb0 : rb 51 101 = some (1, 2) := by
  unfold rb
  rw [if_neg (by omega), show ((101 : Int) - 1) / 2 = 50 from rfl, isq50]
  decide +kernel
theorem rb1 : rb 4 7 = none := by
  unfold rb
  rw [if_neg (by omega), show ((7 : Int) - 1) / 2 = 3 from rfl, isq3]
  decide +kernel

theorem e30 {y z : Int} (hy : Sm y) (hz : Sm z) : h30 (enc y, (enc z, ())) = some (decide (y = z), ()) := by
  show when (Is (enc y) ∧ Is (enc z)) (decide (dec (enc y) = dec (enc z)), ()) = _
  rw [when_pos ⟨Is.enc hy, Is.enc hz⟩, dec_enc, dec_enc]
theorem e26 {a p : List Int} (ha : WU a) (hp : WU p) (hs : p.length < 1000) (hl : a.length = p.length) : h26 (a, (p, ())) = some (chiR (chi a p 0 1)) := by
  show when (WU a ∧ WU p ∧ p.length < 1000) (open Classical in if a.length ≠ p.length then chiR none else chiR (chi a p 0 1)) = _
  rw [when_pos ⟨ha, hp, hs⟩, if_neg (by simpa using hl)]
theorem e11 {n : Int} (h : 0 ≤ n ∧ n < 2147483647) (hx : ∃ m, n < m ∧ m ≤ 2147483647 ∧ mr m = true) : h11 (n, ()) = some (nxt (fun m => mr m = true) n, (0, ())) := by
  show when ((0 ≤ n ∧ n < 18446744073709551616) ∧ (n < 2147483647 → ∃ m, n < m ∧ m ≤ 2147483647 ∧ mr m = true)) (open Classical in if n ≥ 2147483647 then (0, (1, ())) else (nxt (fun m => mr m = true) n, (0, ()))) = _
  rw [when_pos ⟨by omega, fun _ => hx⟩, if_neg (by omega)]
theorem WU.cons {w : Int} {l : List Int} (h : 0 ≤ w ∧ w < 18446744073709551616) (hl : WU l) : WU (w :: l) := by
  intro x hx
  rcases List.mem_cons.1 hx with rfl | hx
  · exact h
  · exact hl x hx
theorem WU.nil : WU [] := fun _ h => by cases h

noncomputable def h10 : DL [] → Option (DL [.bool]) := fun (_ : Unit) => some (true, ())
theorem s10 : SigOk Try.prog 10 ⟨[], [.bool], h10⟩ := ok10 fun (x : Unit) r h => by
  rw [← h]
  show g10 () = some (true, ())
  have T : ∀ z : Int, (z.natAbs : Int) < 1000 → Sm z := fun z hz => Sm.small (by omega)
  have A18 : h18 ((((enc 1).1, ((enc 1).2.1, ())), (((enc 2).1, ((enc 2).2.1, ())), ())), (7, ())) = some (4, (0, ())) := by
    refine (e18 (n := 1) (d := 2) (p := 7) (T 1 (by omega)) (T 2 (by omega)) (by omega)).trans ?_
    rw [if_neg (by omega), inv27]
    rfl
  have A26 : h26 ((List.set (List.set (List.replicate 2 (0 : Int)) 0 2) 1 3), ((List.set (List.set (List.replicate 2 (0 : Int)) 0 3) 1 5), ())) = some (enc 8, (enc 15, (0, ()))) := by
    refine (e26 (a := [2, 3]) (p := [3, 5]) (WU.cons (by omega) (WU.cons (by omega) WU.nil)) (WU.cons (by omega) (WU.cons (by omega) WU.nil)) (by decide) rfl).trans ?_
    rw [chi0]
    rfl
  have A16 : h16 (3, (7, ())) = some (5, (0, ())) := by
    rw [e16 (by omega) (by omega), if_neg (by omega), inv37]
  have hP : (101 : Int) < P 99 := by
    have := P_le (show 1 ≤ 99 by omega)
    have e1 : P 1 = 4294967296 := rfl
    omega
  have A33a : h33 (enc 51, (enc 101, ())) = some ((enc 1, (enc 2, ())), (true, ())) := by
    rw [e33 (T 51 (by omega)) (T 101 (by omega)) hP, rb0]
    rfl
  have A33b : h33 (enc 4, (enc 7, ())) = some ((enc 0, (enc 0, ())), (false, ())) := by
    rw [e33 (T 4 (by omega)) (T 7 (by omega)) (by omega), rb1]
    rfl
  have A11 : h11 (7, ()) = some (11, (0, ())) := by
    rw [e11 (by omega) ⟨11, by omega, by omega, mr11⟩, nxt7]
  have A30 : ∀ z : Int, (z.natAbs : Int) < 1000 → h30 (((enc z).1, ((enc z).2.1, ())), (enc z, ())) = some (true, ()) := fun z hz => (e30 (T z hz) (T z hz)).trans (by simp)
  have A13a : h13 (2, ()) = some (true, ()) := by rw [e13 (by omega), mr2]
  have A13b : h13 (9, ()) = some (false, ()) := by rw [e13 (by omega), mr9]
  have A20 : h20 (2, (10, (1000, ()))) = some (24, ()) := by rw [e20 (by omega) (by omega) (by omega)]; rfl
  rw [g10_eq, A11, Option.bind_some, A16, Option.bind_some, e27 (by omega), Option.bind_some, e27 (by omega), Option.bind_some]
  dsimp only
  rw [A18, Option.bind_some, A26, Option.bind_some, e27 (by omega), Option.bind_some, e27 (by omega), Option.bind_some]
  dsimp only
  rw [A33a, Option.bind_some, e27 (by omega), Option.bind_some, e27 (by omega), Option.bind_some]
  dsimp only
  rw [A33b, Option.bind_some, A13a, Option.bind_some, A13b, Option.bind_some]
  dsimp only
  rw [ife_t rfl, ife_t rfl, ife_t rfl, ife_t rfl, ifb_t rfl, ifnot_t rfl, ife_t rfl, ife_t rfl, ife_t rfl, e27 (by omega), Option.bind_some]
  dsimp only
  rw [A30 8 (by omega), Option.bind_some, ifb_t rfl, e27 (by omega), Option.bind_some]
  dsimp only
  rw [A30 15 (by omega), Option.bind_some, ifb_t rfl, ifb_t rfl, Option.bind_some]
  dsimp only
  rw [A30 1 (by omega), Option.bind_some, ifb_t rfl, Option.bind_some]
  dsimp only
  rw [A30 2 (by omega), Option.bind_some, ifb_t rfl, ifnot_t rfl, A20, Option.bind_some]
  rfl
end Go.Refl.S3
