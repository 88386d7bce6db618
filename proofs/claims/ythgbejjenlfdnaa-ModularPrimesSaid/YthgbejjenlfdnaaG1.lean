/-
  Plain numbers: windows of 630 numbers, in each of which a prime is found near the beginning.
-/
import Derived.Test.YthgbejjenlfdnaaK3
set_option linter.unusedVariables false
set_option linter.unusedSimpArgs false
set_option maxRecDepth 100000
namespace Go.Refl.K

noncomputable def w83 (x : Nat) : Bool := Bool.rec (motive := fun _ => Bool) (Bool.false) Bool.true (Nat.beq (Nat.gcd (Nat.add x (nat_lit 367)) KK) (nat_lit 1))
noncomputable def w82 (x : Nat) : Bool := Bool.rec (motive := fun _ => Bool) (w83 x) Bool.true (Nat.beq (Nat.gcd (Nat.add x (nat_lit 361)) KK) (nat_lit 1))
noncomputable def w81 (x : Nat) : Bool := Bool.rec (motive := fun _ => Bool) (w82 x) Bool.true (Nat.beq (Nat.gcd (Nat.add x (nat_lit 359)) KK) (nat_lit 1))
noncomputable def w80 (x : Nat) : Bool := Bool.rec (motive := fun _ => Bool) (w81 x) Bool.true (Nat.beq (Nat.gcd (Nat.add x (nat_lit 353)) KK) (nat_lit 1))
noncomputable def w79 (x : Nat) : Bool := Bool.rec (motive := fun _ => Bool) (w80 x) Bool.true (Nat.beq (Nat.gcd (Nat.add x (nat_lit 349)) KK) (nat_lit 1))
noncomputable def w78 (x : Nat) : Bool := Bool.rec (motive := fun _ => Bool) (w79 x) Bool.true (Nat.beq (Nat.gcd (Nat.add x (nat_lit 347)) KK) (nat_lit 1))
noncomputable def w77 (x : Nat) : Bool := Bool.rec (motive := fun _ => Bool) (w78 x) Bool.true (Nat.beq (Nat.gcd (Nat.add x (nat_lit 341)) KK) (nat_lit 1))
noncomputable def w76 (x : Nat) : Bool := Bool.rec (motive := fun _ => Bool) (w77 x) Bool.true (Nat.beq (Nat.gcd (Nat.add x (nat_lit 337)) KK) (nat_lit 1))
noncomputable def w75 (x : Nat) : Bool := Bool.rec (motive := fun _ => Bool) (w76 x) Bool.true (Nat.beq (Nat.gcd (Nat.add x (nat_lit 331)) KK) (nat_lit 1))
noncomputable def w74 (x : Nat) : Bool := Bool.rec (motive := fun _ => Bool) (w75 x) Bool.true (Nat.beq (Nat.gcd (Nat.add x (nat_lit 323)) KK) (nat_lit 1))
noncomputable def w73 (x : Nat) : Bool := Bool.rec (motive := fun _ => Bool) (w74 x) Bool.true (Nat.beq (Nat.gcd (Nat.add x (nat_lit 319)) KK) (nat_lit 1))
noncomputable def w72 (x : Nat) : Bool := Bool.rec (motive := fun _ => Bool) (w73 x) Bool.true (Nat.beq (Nat.gcd (Nat.add x (nat_lit 317)) KK) (nat_lit 1))
noncomputable def w71 (x : Nat) : Bool := Bool.rec (motive := fun _ => Bool) (w72 x) Bool.true (Nat.beq (Nat.gcd (Nat.add x (nat_lit 313)) KK) (nat_lit 1))
noncomputable def w70 (x : Nat) : Bool := Bool.rec (motive := fun _ => Bool) (w71 x) Bool.true (Nat.beq (Nat.gcd (Nat.add x (nat_lit 311)) KK) (nat_lit 1))
noncomputable def w69 (x : Nat) : Bool := Bool.rec (motive := fun _ => Bool) (w70 x) Bool.true (Nat.beq (Nat.gcd (Nat.add x (nat_lit 307)) KK) (nat_lit 1))
noncomputable def w68 (x : Nat) : Bool := Bool.rec (motive := fun _ => Bool) (w69 x) Bool.true (Nat.beq (Nat.gcd (Nat.add x (nat_lit 299)) KK) (nat_lit 1))
noncomputable def w67 (x : Nat) : Bool := Bool.rec (motive := fun _ => Bool) (w68 x) Bool.true (Nat.beq (Nat.gcd (Nat.add x (nat_lit 293)) KK) (nat_lit 1))
noncomputable def w66 (x : Nat) : Bool := Bool.rec (motive := fun _ => Bool) (w67 x) Bool.true (Nat.beq (Nat.gcd (Nat.add x (nat_lit 289)) KK) (nat_lit 1))
noncomputable def w65 (x : Nat) : Bool := Bool.rec (motive := fun _ => Bool) (w66 x) Bool.true (Nat.beq (Nat.gcd (Nat.add x (nat_lit 283)) KK) (nat_lit 1))
noncomputable def w64 (x : Nat) : Bool := Bool.rec (motive := fun _ => Bool) (w65 x) Bool.true (Nat.beq (Nat.gcd (Nat.add x (nat_lit 281)) KK) (nat_lit 1))
noncomputable def w63 (x : Nat) : Bool := Bool.rec (motive := fun _ => Bool) (w64 x) Bool.true (Nat.beq (Nat.gcd (Nat.add x (nat_lit 277)) KK) (nat_lit 1))
noncomputable def w62 (x : Nat) : Bool := Bool.rec (motive := fun _ => Bool) (w63 x) Bool.true (Nat.beq (Nat.gcd (Nat.add x (nat_lit 271)) KK) (nat_lit 1))
noncomputable def w61 (x : Nat) : Bool := Bool.rec (motive := fun _ => Bool) (w62 x) Bool.true (Nat.beq (Nat.gcd (Nat.add x (nat_lit 269)) KK) (nat_lit 1))
noncomputable def w60 (x : Nat) : Bool := Bool.rec (motive := fun _ => Bool) (w61 x) Bool.true (Nat.beq (Nat.gcd (Nat.add x (nat_lit 263)) KK) (nat_lit 1))
noncomputable def w59 (x : Nat) : Bool := Bool.rec (motive := fun _ => Bool) (w60 x) Bool.true (Nat.beq (Nat.gcd (Nat.add x (nat_lit 257)) KK) (nat_lit 1))
noncomputable def w58 (x : Nat) : Bool := Bool.rec (motive := fun _ => Bool) (w59 x) Bool.true (Nat.beq (Nat.gcd (Nat.add x (nat_lit 253)) KK) (nat_lit 1))
noncomputable def w57 (x : Nat) : Bool := Bool.rec (motive := fun _ => Bool) (w58 x) Bool.true (Nat.beq (Nat.gcd (Nat.add x (nat_lit 251)) KK) (nat_lit 1))
noncomputable def w56 (x : Nat) : Bool := Bool.rec (motive := fun _ => Bool) (w57 x) Bool.true (Nat.beq (Nat.gcd (Nat.add x (nat_lit 247)) KK) (nat_lit 1))
noncomputable def w55 (x : Nat) : Bool := Bool.rec (motive := fun _ => Bool) (w56 x) Bool.true (Nat.beq (Nat.gcd (Nat.add x (nat_lit 241)) KK) (nat_lit 1))
noncomputable def w54 (x : Nat) : Bool := Bool.rec (motive := fun _ => Bool) (w55 x) Bool.true (Nat.beq (Nat.gcd (Nat.add x (nat_lit 239)) KK) (nat_lit 1))
noncomputable def w53 (x : Nat) : Bool := Bool.rec (motive := fun _ => Bool) (w54 x) Bool.true (Nat.beq (Nat.gcd (Nat.add x (nat_lit 233)) KK) (nat_lit 1))
noncomputable def w52 (x : Nat) : Bool := Bool.rec (motive := fun _ => Bool) (w53 x) Bool.true (Nat.beq (Nat.gcd (Nat.add x (nat_lit 229)) KK) (nat_lit 1))
noncomputable def w51 (x : Nat) : Bool := Bool.rec (motive := fun _ => Bool) (w52 x) Bool.true (Nat.beq (Nat.gcd (Nat.add x (nat_lit 227)) KK) (nat_lit 1))
noncomputable def w50 (x : Nat) : Bool := Bool.rec (motive := fun _ => Bool) (w51 x) Bool.true (Nat.beq (Nat.gcd (Nat.add x (nat_lit 223)) KK) (nat_lit 1))
noncomputable def w49 (x : Nat) : Bool := Bool.rec (motive := fun _ => Bool) (w50 x) Bool.true (Nat.beq (Nat.gcd (Nat.add x (nat_lit 221)) KK) (nat_lit 1))
noncomputable def w48 (x : Nat) : Bool := Bool.rec (motive := fun _ => Bool) (w49 x) Bool.true (Nat.beq (Nat.gcd (Nat.add x (nat_lit 211)) KK) (nat_lit 1))
noncomputable def w47 (x : Nat) : Bool := Bool.rec (motive := fun _ => Bool) (w48 x) Bool.true (Nat.beq (Nat.gcd (Nat.add x (nat_lit 209)) KK) (nat_lit 1))
noncomputable def w46 (x : Nat) : Bool := Bool.rec (motive := fun _ => Bool) (w47 x) Bool.true (Nat.beq (Nat.gcd (Nat.add x (nat_lit 199)) KK) (nat_lit 1))
noncomputable def w45 (x : Nat) : Bool := Bool.rec (motive := fun _ => Bool) (w46 x) Bool.true (Nat.beq (Nat.gcd (Nat.add x (nat_lit 197)) KK) (nat_lit 1))
noncomputable def w44 (x : Nat) : Bool := Bool.rec (motive := fun _ => Bool) (w45 x) Bool.true (Nat.beq (Nat.gcd (Nat.add x (nat_lit 193)) KK) (nat_lit 1))
noncomputable def w43 (x : Nat) : Bool := Bool.rec (motive := fun _ => Bool) (w44 x) Bool.true (Nat.beq (Nat.gcd (Nat.add x (nat_lit 191)) KK) (nat_lit 1))
noncomputable def w42 (x : Nat) : Bool := Bool.rec (motive := fun _ => Bool) (w43 x) Bool.true (Nat.beq (Nat.gcd (Nat.add x (nat_lit 187)) KK) (nat_lit 1))
noncomputable def w41 (x : Nat) : Bool := Bool.rec (motive := fun _ => Bool) (w42 x) Bool.true (Nat.beq (Nat.gcd (Nat.add x (nat_lit 181)) KK) (nat_lit 1))
noncomputable def w40 (x : Nat) : Bool := Bool.rec (motive := fun _ => Bool) (w41 x) Bool.true (Nat.beq (Nat.gcd (Nat.add x (nat_lit 179)) KK) (nat_lit 1))
noncomputable def w39 (x : Nat) : Bool := Bool.rec (motive := fun _ => Bool) (w40 x) Bool.true (Nat.beq (Nat.gcd (Nat.add x (nat_lit 173)) KK) (nat_lit 1))
noncomputable def w38 (x : Nat) : Bool := Bool.rec (motive := fun _ => Bool) (w39 x) Bool.true (Nat.beq (Nat.gcd (Nat.add x (nat_lit 169)) KK) (nat_lit 1))
noncomputable def w37 (x : Nat) : Bool := Bool.rec (motive := fun _ => Bool) (w38 x) Bool.true (Nat.beq (Nat.gcd (Nat.add x (nat_lit 167)) KK) (nat_lit 1))
noncomputable def w36 (x : Nat) : Bool := Bool.rec (motive := fun _ => Bool) (w37 x) Bool.true (Nat.beq (Nat.gcd (Nat.add x (nat_lit 163)) KK) (nat_lit 1))
noncomputable def w35 (x : Nat) : Bool := Bool.rec (motive := fun _ => Bool) (w36 x) Bool.true (Nat.beq (Nat.gcd (Nat.add x (nat_lit 157)) KK) (nat_lit 1))
noncomputable def w34 (x : Nat) : Bool := Bool.rec (motive := fun _ => Bool) (w35 x) Bool.true (Nat.beq (Nat.gcd (Nat.add x (nat_lit 151)) KK) (nat_lit 1))
noncomputable def w33 (x : Nat) : Bool := Bool.rec (motive := fun _ => Bool) (w34 x) Bool.true (Nat.beq (Nat.gcd (Nat.add x (nat_lit 149)) KK) (nat_lit 1))
noncomputable def w32 (x : Nat) : Bool := Bool.rec (motive := fun _ => Bool) (w33 x) Bool.true (Nat.beq (Nat.gcd (Nat.add x (nat_lit 143)) KK) (nat_lit 1))
noncomputable def w31 (x : Nat) : Bool := Bool.rec (motive := fun _ => Bool) (w32 x) Bool.true (Nat.beq (Nat.gcd (Nat.add x (nat_lit 139)) KK) (nat_lit 1))
noncomputable def w30 (x : Nat) : Bool := Bool.rec (motive := fun _ => Bool) (w31 x) Bool.true (Nat.beq (Nat.gcd (Nat.add x (nat_lit 137)) KK) (nat_lit 1))
noncomputable def w29 (x : Nat) : Bool := Bool.rec (motive := fun _ => Bool) (w30 x) Bool.true (Nat.beq (Nat.gcd (Nat.add x (nat_lit 131)) KK) (nat_lit 1))
noncomputable def w28 (x : Nat) : Bool := Bool.rec (motive := fun _ => Bool) (w29 x) Bool.true (Nat.beq (Nat.gcd (Nat.add x (nat_lit 127)) KK) (nat_lit 1))
noncomputable def w27 (x : Nat) : Bool := Bool.rec (motive := fun _ => Bool) (w28 x) Bool.true (Nat.beq (Nat.gcd (Nat.add x (nat_lit 121)) KK) (nat_lit 1))
noncomputable def w26 (x : Nat) : Bool := Bool.rec (motive := fun _ => Bool) (w27 x) Bool.true (Nat.beq (Nat.gcd (Nat.add x (nat_lit 113)) KK) (nat_lit 1))
noncomputable def w25 (x : Nat) : Bool := Bool.rec (motive := fun _ => Bool) (w26 x) Bool.true (Nat.beq (Nat.gcd (Nat.add x (nat_lit 109)) KK) (nat_lit 1))
noncomputable def w24 (x : Nat) : Bool := Bool.rec (motive := fun _ => Bool) (w25 x) Bool.true (Nat.beq (Nat.gcd (Nat.add x (nat_lit 107)) KK) (nat_lit 1))
noncomputable def w23 (x : Nat) : Bool := Bool.rec (motive := fun _ => Bool) (w24 x) Bool.true (Nat.beq (Nat.gcd (Nat.add x (nat_lit 103)) KK) (nat_lit 1))
noncomputable def w22 (x : Nat) : Bool := Bool.rec (motive := fun _ => Bool) (w23 x) Bool.true (Nat.beq (Nat.gcd (Nat.add x (nat_lit 101)) KK) (nat_lit 1))
noncomputable def w21 (x : Nat) : Bool := Bool.rec (motive := fun _ => Bool) (w22 x) Bool.true (Nat.beq (Nat.gcd (Nat.add x (nat_lit 97)) KK) (nat_lit 1))
noncomputable def w20 (x : Nat) : Bool := Bool.rec (motive := fun _ => Bool) (w21 x) Bool.true (Nat.beq (Nat.gcd (Nat.add x (nat_lit 89)) KK) (nat_lit 1))
noncomputable def w19 (x : Nat) : Bool := Bool.rec (motive := fun _ => Bool) (w20 x) Bool.true (Nat.beq (Nat.gcd (Nat.add x (nat_lit 83)) KK) (nat_lit 1))
noncomputable def w18 (x : Nat) : Bool := Bool.rec (motive := fun _ => Bool) (w19 x) Bool.true (Nat.beq (Nat.gcd (Nat.add x (nat_lit 79)) KK) (nat_lit 1))
noncomputable def w17 (x : Nat) : Bool := Bool.rec (motive := fun _ => Bool) (w18 x) Bool.true (Nat.beq (Nat.gcd (Nat.add x (nat_lit 73)) KK) (nat_lit 1))
noncomputable def w16 (x : Nat) : Bool := Bool.rec (motive := fun _ => Bool) (w17 x) Bool.true (Nat.beq (Nat.gcd (Nat.add x (nat_lit 71)) KK) (nat_lit 1))
noncomputable def w15 (x : Nat) : Bool := Bool.rec (motive := fun _ => Bool) (w16 x) Bool.true (Nat.beq (Nat.gcd (Nat.add x (nat_lit 67)) KK) (nat_lit 1))
noncomputable def w14 (x : Nat) : Bool := Bool.rec (motive := fun _ => Bool) (w15 x) Bool.true (Nat.beq (Nat.gcd (Nat.add x (nat_lit 61)) KK) (nat_lit 1))
noncomputable def w13 (x : Nat) : Bool := Bool.rec (motive := fun _ => Bool) (w14 x) Bool.true (Nat.beq (Nat.gcd (Nat.add x (nat_lit 59)) KK) (nat_lit 1))
noncomputable def w12 (x : Nat) : Bool := Bool.rec (motive := fun _ => Bool) (w13 x) Bool.true (Nat.beq (Nat.gcd (Nat.add x (nat_lit 53)) KK) (nat_lit 1))
noncomputable def w11 (x : Nat) : Bool := Bool.rec (motive := fun _ => Bool) (w12 x) Bool.true (Nat.beq (Nat.gcd (Nat.add x (nat_lit 47)) KK) (nat_lit 1))
noncomputable def w10 (x : Nat) : Bool := Bool.rec (motive := fun _ => Bool) (w11 x) Bool.true (Nat.beq (Nat.gcd (Nat.add x (nat_lit 43)) KK) (nat_lit 1))
noncomputable def w9 (x : Nat) : Bool := Bool.rec (motive := fun _ => Bool) (w10 x) Bool.true (Nat.beq (Nat.gcd (Nat.add x (nat_lit 41)) KK) (nat_lit 1))
noncomputable def w8 (x : Nat) : Bool := Bool.rec (motive := fun _ => Bool) (w9 x) Bool.true (Nat.beq (Nat.gcd (Nat.add x (nat_lit 37)) KK) (nat_lit 1))
noncomputable def w7 (x : Nat) : Bool := Bool.rec (motive := fun _ => Bool) (w8 x) Bool.true (Nat.beq (Nat.gcd (Nat.add x (nat_lit 31)) KK) (nat_lit 1))
noncomputable def w6 (x : Nat) : Bool := Bool.rec (motive := fun _ => Bool) (w7 x) Bool.true (Nat.beq (Nat.gcd (Nat.add x (nat_lit 29)) KK) (nat_lit 1))
noncomputable def w5 (x : Nat) : Bool := Bool.rec (motive := fun _ => Bool) (w6 x) Bool.true (Nat.beq (Nat.gcd (Nat.add x (nat_lit 23)) KK) (nat_lit 1))
noncomputable def w4 (x : Nat) : Bool := Bool.rec (motive := fun _ => Bool) (w5 x) Bool.true (Nat.beq (Nat.gcd (Nat.add x (nat_lit 19)) KK) (nat_lit 1))
noncomputable def w3 (x : Nat) : Bool := Bool.rec (motive := fun _ => Bool) (w4 x) Bool.true (Nat.beq (Nat.gcd (Nat.add x (nat_lit 17)) KK) (nat_lit 1))
noncomputable def w2 (x : Nat) : Bool := Bool.rec (motive := fun _ => Bool) (w3 x) Bool.true (Nat.beq (Nat.gcd (Nat.add x (nat_lit 13)) KK) (nat_lit 1))
noncomputable def w1 (x : Nat) : Bool := Bool.rec (motive := fun _ => Bool) (w2 x) Bool.true (Nat.beq (Nat.gcd (Nat.add x (nat_lit 11)) KK) (nat_lit 1))
noncomputable def w0 (x : Nat) : Bool := Bool.rec (motive := fun _ => Bool) (w1 x) Bool.true (Nat.beq (Nat.gcd (Nat.add x (nat_lit 1)) KK) (nat_lit 1))
theorem w_step {x o : Nat} {b : Bool} (h : Bool.rec (motive := fun _ => Bool) b Bool.true (Nat.beq (Nat.gcd (Nat.add x o) KK) 1) = true) (ho : o < 370) (hb : b = true → ∃ o, o < 370 ∧ Nat.gcd (x + o) KK = 1) : ∃ o, o < 370 ∧ Nat.gcd (x + o) KK = 1 := by
  cases hc : Nat.beq (Nat.gcd (Nat.add x o) KK) 1 with
  | true => exact ⟨o, ho, Nat.eq_of_beq_eq_true hc⟩
  | false =>
    rw [hc] at h
    exact hb h
theorem w83_get {x : Nat} (h : w83 x = true) : ∃ o, o < 370 ∧ Nat.gcd (x + o) KK = 1 := w_step (o := 367) h (by omega) (fun h => by cases h)
theorem w82_get {x : Nat} (h : w82 x = true) : ∃ o, o < 370 ∧ Nat.gcd (x + o) KK = 1 := w_step (o := 361) h (by omega) (w83_get)
theorem w81_get {x : Nat} (h : w81 x = true) : ∃ o, o < 370 ∧ Nat.gcd (x + o) KK = 1 := w_step (o := 359) h (by omega) (w82_get)
theorem w80_get {x : Nat} (h : w80 x = true) : ∃ o, o < 370 ∧ Nat.gcd (x + o) KK = 1 := w_step (o := 353) h (by omega) (w81_get)
theorem w79_get {x : Nat} (h : w79 x = true) : ∃ o, o < 370 ∧ Nat.gcd (x + o) KK = 1 := w_step (o := 349) h (by omega) (w80_get)
theorem w78_get {x : Nat} (h : w78 x = true) : ∃ o, o < 370 ∧ Nat.gcd (x + o) KK = 1 := w_step (o := 347) h (by omega) (w79_get)
theorem w77_get {x : Nat} (h : w77 x = true) : ∃ o, o < 370 ∧ Nat.gcd (x + o) KK = 1 := w_step (o := 341) h (by omega) (w78_get)
theorem w76_get {x : Nat} (h : w76 x = true) : ∃ o, o < 370 ∧ Nat.gcd (x + o) KK = 1 := w_step (o := 337) h (by omega) (w77_get)
theorem w75_get {x : Nat} (h : w75 x = true) : ∃ o, o < 370 ∧ Nat.gcd (x + o) KK = 1 := w_step (o := 331) h (by omega) (w76_get)
theorem w74_get {x : Nat} (h : w74 x = true) : ∃ o, o < 370 ∧ Nat.gcd (x + o) KK = 1 := w_step (o := 323) h (by omega) (w75_get)
theorem w73_get {x : Nat} (h : w73 x = true) : ∃ o, o < 370 ∧ Nat.gcd (x + o) KK = 1 := w_step (o := 319) h (by omega) (w74_get)
theorem w72_get {x : Nat} (h : w72 x = true) : ∃ o, o < 370 ∧ Nat.gcd (x + o) KK = 1 := w_step (o := 317) h (by omega) (w73_get)
theorem w71_get {x : Nat} (h : w71 x = true) : ∃ o, o < 370 ∧ Nat.gcd (x + o) KK = 1 := w_step (o := 313) h (by omega) (w72_get)
theorem w70_get {x : Nat} (h : w70 x = true) : ∃ o, o < 370 ∧ Nat.gcd (x + o) KK = 1 := w_step (o := 311) h (by omega) (w71_get)
theorem w69_get {x : Nat} (h : w69 x = true) : ∃ o, o < 370 ∧ Nat.gcd (x + o) KK = 1 := w_step (o := 307) h (by omega) (w70_get)
theorem w68_get {x : Nat} (h : w68 x = true) : ∃ o, o < 370 ∧ Nat.gcd (x + o) KK = 1 := w_step (o := 299) h (by omega) (w69_get)
theorem w67_get {x : Nat} (h : w67 x = true) : ∃ o, o < 370 ∧ Nat.gcd (x + o) KK = 1 := w_step (o := 293) h (by omega) (w68_get)
theorem w66_get {x : Nat} (h : w66 x = true) : ∃ o, o < 370 ∧ Nat.gcd (x + o) KK = 1 := w_step (o := 289) h (by omega) (w67_get)
theorem w65_get {x : Nat} (h : w65 x = true) : ∃ o, o < 370 ∧ Nat.gcd (x + o) KK = 1 := w_step (o := 283) h (by omega) (w66_get)
theorem w64_get {x : Nat} (h : w64 x = true) : ∃ o, o < 370 ∧ Nat.gcd (x + o) KK = 1 := w_step (o := 281) h (by omega) (w65_get)
theorem w63_get {x : Nat} (h : w63 x = true) : ∃ o, o < 370 ∧ Nat.gcd (x + o) KK = 1 := w_step (o := 277) h (by omega) (w64_get)
theorem w62_get {x : Nat} (h : w62 x = true) : ∃ o, o < 370 ∧ Nat.gcd (x + o) KK = 1 := w_step (o := 271) h (by omega) (w63_get)
theorem w61_get {x : Nat} (h : w61 x = true) : ∃ o, o < 370 ∧ Nat.gcd (x + o) KK = 1 := w_step (o := 269) h (by omega) (w62_get)
theorem w60_get {x : Nat} (h : w60 x = true) : ∃ o, o < 370 ∧ Nat.gcd (x + o) KK = 1 := w_step (o := 263) h (by omega) (w61_get)
theorem w59_get {x : Nat} (h : w59 x = true) : ∃ o, o < 370 ∧ Nat.gcd (x + o) KK = 1 := w_step (o := 257) h (by omega) (w60_get)
theorem w58_get {x : Nat} (h : w58 x = true) : ∃ o, o < 370 ∧ Nat.gcd (x + o) KK = 1 := w_step (o := 253) h (by omega) (w59_get)
theorem w57_get {x : Nat} (h : w57 x = true) : ∃ o, o < 370 ∧ Nat.gcd (x + o) KK = 1 := w_step (o := 251) h (by omega) (w58_get)
theorem w56_get {x : Nat} (h : w56 x = true) : ∃ o, o < 370 ∧ Nat.gcd (x + o) KK = 1 := w_step (o := 247) h (by omega) (w57_get)
theorem w55_get {x : Nat} (h : w55 x = true) : ∃ o, o < 370 ∧ Nat.gcd (x + o) KK = 1 := w_step (o := 241) h (by omega) (w56_get)
theorem w54_get {x : Nat} (h : w54 x = true) : ∃ o, o < 370 ∧ Nat.gcd (x + o) KK = 1 := w_step (o := 239) h (by omega) (w55_get)
theorem w53_get {x : Nat} (h : w53 x = true) : ∃ o, o < 370 ∧ Nat.gcd (x + o) KK = 1 := w_step (o := 233) h (by omega) (w54_get)
theorem w52_get {x : Nat} (h : w52 x = true) : ∃ o, o < 370 ∧ Nat.gcd (x + o) KK = 1 := w_step (o := 229) h (by omega) (w53_get)
theorem w51_get {x : Nat} (h : w51 x = true) : ∃ o, o < 370 ∧ Nat.gcd (x + o) KK = 1 := w_step (o := 227) h (by omega) (w52_get)
theorem w50_get {x : Nat} (h : w50 x = true) : ∃ o, o < 370 ∧ Nat.gcd (x + o) KK = 1 := w_step (o := 223) h (by omega) (w51_get)
theorem w49_get {x : Nat} (h : w49 x = true) : ∃ o, o < 370 ∧ Nat.gcd (x + o) KK = 1 := w_step (o := 221) h (by omega) (w50_get)
theorem w48_get {x : Nat} (h : w48 x = true) : ∃ o, o < 370 ∧ Nat.gcd (x + o) KK = 1 := w_step (o := 211) h (by omega) (w49_get)
theorem w47_get {x : Nat} (h : w47 x = true) : ∃ o, o < 370 ∧ Nat.gcd (x + o) KK = 1 := w_step (o := 209) h (by omega) (w48_get)
theorem w46_get {x : Nat} (h : w46 x = true) : ∃ o, o < 370 ∧ Nat.gcd (x + o) KK = 1 := w_step (o := 199) h (by omega) (w47_get)
theorem w45_get {x : Nat} (h : w45 x = true) : ∃ o, o < 370 ∧ Nat.gcd (x + o) KK = 1 := w_step (o := 197) h (by omega) (w46_get)
theorem w44_get {x : Nat} (h : w44 x = true) : ∃ o, o < 370 ∧ Nat.gcd (x + o) KK = 1 := w_step (o := 193) h (by omega) (w45_get)
theorem w43_get {x : Nat} (h : w43 x = true) : ∃ o, o < 370 ∧ Nat.gcd (x + o) KK = 1 := w_step (o := 191) h (by omega) (w44_get)
theorem w42_get {x : Nat} (h : w42 x = true) : ∃ o, o < 370 ∧ Nat.gcd (x + o) KK = 1 := w_step (o := 187) h (by omega) (w43_get)
theorem w41_get {x : Nat} (h : w41 x = true) : ∃ o, o < 370 ∧ Nat.gcd (x + o) KK = 1 := w_step (o := 181) h (by omega) (w42_get)
theorem w40_get {x : Nat} (h : w40 x = true) : ∃ o, o < 370 ∧ Nat.gcd (x + o) KK = 1 := w_step (o := 179) h (by omega) (w41_get)
theorem w39_get {x : Nat} (h : w39 x = true) : ∃ o, o < 370 ∧ Nat.gcd (x + o) KK = 1 := w_step (o := 173) h (by omega) (w40_get)
theorem w38_get {x : Nat} (h : w38 x = true) : ∃ o, o < 370 ∧ Nat.gcd (x + o) KK = 1 := w_step (o := 169) h (by omega) (w39_get)
theorem w37_get {x : Nat} (h : w37 x = true) : ∃ o, o < 370 ∧ Nat.gcd (x + o) KK = 1 := w_step (o := 167) h (by omega) (w38_get)
theorem w36_get {x : Nat} (h : w36 x = true) : ∃ o, o < 370 ∧ Nat.gcd (x + o) KK = 1 := w_step (o := 163) h (by omega) (w37_get)
theorem w35_get {x : Nat} (h : w35 x = true) : ∃ o, o < 370 ∧ Nat.gcd (x + o) KK = 1 := w_step (o := 157) h (by omega) (w36_get)
theorem w34_get {x : Nat} (h : w34 x = true) : ∃ o, o < 370 ∧ Nat.gcd (x + o) KK = 1 := w_step (o := 151) h (by omega) (w35_get)
theorem w33_get {x : Nat} (h : w33 x = true) : ∃ o, o < 370 ∧ Nat.gcd (x + o) KK = 1 := w_step (o := 149) h (by omega) (w34_get)
theorem w32_get {x : Nat} (h : w32 x = true) : ∃ o, o < 370 ∧ Nat.gcd (x + o) KK = 1 := w_step (o := 143) h (by omega) (w33_get)
theorem w31_get {x : Nat} (h : w31 x = true) : ∃ o, o < 370 ∧ Nat.gcd (x + o) KK = 1 := w_step (o := 139) h (by omega) (w32_get)
theorem w30_get {x : Nat} (h : w30 x = true) : ∃ o, o < 370 ∧ Nat.gcd (x + o) KK = 1 := w_step (o := 137) h (by omega) (w31_get)
theorem w29_get {x : Nat} (h : w29 x = true) : ∃ o, o < 370 ∧ Nat.gcd (x + o) KK = 1 := w_step (o := 131) h (by omega) (w30_get)
theorem w28_get {x : Nat} (h : w28 x = true) : ∃ o, o < 370 ∧ Nat.gcd (x + o) KK = 1 := w_step (o := 127) h (by omega) (w29_get)
theorem w27_get {x : Nat} (h : w27 x = true) : ∃ o, o < 370 ∧ Nat.gcd (x + o) KK = 1 := w_step (o := 121) h (by omega) (w28_get)
theorem w26_get {x : Nat} (h : w26 x = true) : ∃ o, o < 370 ∧ Nat.gcd (x + o) KK = 1 := w_step (o := 113) h (by omega) (w27_get)
theorem w25_get {x : Nat} (h : w25 x = true) : ∃ o, o < 370 ∧ Nat.gcd (x + o) KK = 1 := w_step (o := 109) h (by omega) (w26_get)
theorem w24_get {x : Nat} (h : w24 x = true) : ∃ o, o < 370 ∧ Nat.gcd (x + o) KK = 1 := w_step (o := 107) h (by omega) (w25_get)
theorem w23_get {x : Nat} (h : w23 x = true) : ∃ o, o < 370 ∧ Nat.gcd (x + o) KK = 1 := w_step (o := 103) h (by omega) (w24_get)
theorem w22_get {x : Nat} (h : w22 x = true) : ∃ o, o < 370 ∧ Nat.gcd (x + o) KK = 1 := w_step (o := 101) h (by omega) (w23_get)
theorem w21_get {x : Nat} (h : w21 x = true) : ∃ o, o < 370 ∧ Nat.gcd (x + o) KK = 1 := w_step (o := 97) h (by omega) (w22_get)
theorem w20_get {x : Nat} (h : w20 x = true) : ∃ o, o < 370 ∧ Nat.gcd (x + o) KK = 1 := w_step (o := 89) h (by omega) (w21_get)
theorem w19_get {x : Nat} (h : w19 x = true) : ∃ o, o < 370 ∧ Nat.gcd (x + o) KK = 1 := w_step (o := 83) h (by omega) (w20_get)
theorem w18_get {x : Nat} (h : w18 x = true) : ∃ o, o < 370 ∧ Nat.gcd (x + o) KK = 1 := w_step (o := 79) h (by omega) (w19_get)
theorem w17_get {x : Nat} (h : w17 x = true) : ∃ o, o < 370 ∧ Nat.gcd (x + o) KK = 1 := w_step (o := 73) h (by omega) (w18_get)
theorem w16_get {x : Nat} (h : w16 x = true) : ∃ o, o < 370 ∧ Nat.gcd (x + o) KK = 1 := w_step (o := 71) h (by omega) (w17_get)
theorem w15_get {x : Nat} (h : w15 x = true) : ∃ o, o < 370 ∧ Nat.gcd (x + o) KK = 1 := w_step (o := 67) h (by omega) (w16_get)
theorem w14_get {x : Nat} (h : w14 x = true) : ∃ o, o < 370 ∧ Nat.gcd (x + o) KK = 1 := w_step (o := 61) h (by omega) (w15_get)
theorem w13_get {x : Nat} (h : w13 x = true) : ∃ o, o < 370 ∧ Nat.gcd (x + o) KK = 1 := w_step (o := 59) h (by omega) (w14_get)
theorem w12_get {x : Nat} (h : w12 x = true) : ∃ o, o < 370 ∧ Nat.gcd (x + o) KK = 1 := w_step (o := 53) h (by omega) (w13_get)
theorem w11_get {x : Nat} (h : w11 x = true) : ∃ o, o < 370 ∧ Nat.gcd (x + o) KK = 1 := w_step (o := 47) h (by omega) (w12_get)
theorem w10_get {x : Nat} (h : w10 x = true) : ∃ o, o < 370 ∧ Nat.gcd (x + o) KK = 1 := w_step (o := 43) h (by omega) (w11_get)
theorem w9_get {x : Nat} (h : w9 x = true) : ∃ o, o < 370 ∧ Nat.gcd (x + o) KK = 1 := w_step (o := 41) h (by omega) (w10_get)
theorem w8_get {x : Nat} (h : w8 x = true) : ∃ o, o < 370 ∧ Nat.gcd (x + o) KK = 1 := w_step (o := 37) h (by omega) (w9_get)
theorem w7_get {x : Nat} (h : w7 x = true) : ∃ o, o < 370 ∧ Nat.gcd (x + o) KK = 1 := w_step (o := 31) h (by omega) (w8_get)
theorem w6_get {x : Nat} (h : w6 x = true) : ∃ o, o < 370 ∧ Nat.gcd (x + o) KK = 1 := w_step (o := 29) h (by omega) (w7_get)
theorem w5_get {x : Nat} (h : w5 x = true) : ∃ o, o < 370 ∧ Nat.gcd (x + o) KK = 1 := w_step (o := 23) h (by omega) (w6_get)
theorem w4_get {x : Nat} (h : w4 x = true) : ∃ o, o < 370 ∧ Nat.gcd (x + o) KK = 1 := w_step (o := 19) h (by omega) (w5_get)
theorem w3_get {x : Nat} (h : w3 x = true) : ∃ o, o < 370 ∧ Nat.gcd (x + o) KK = 1 := w_step (o := 17) h (by omega) (w4_get)
theorem w2_get {x : Nat} (h : w2 x = true) : ∃ o, o < 370 ∧ Nat.gcd (x + o) KK = 1 := w_step (o := 13) h (by omega) (w3_get)
theorem w1_get {x : Nat} (h : w1 x = true) : ∃ o, o < 370 ∧ Nat.gcd (x + o) KK = 1 := w_step (o := 11) h (by omega) (w2_get)
theorem w0_get {x : Nat} (h : w0 x = true) : ∃ o, o < 370 ∧ Nat.gcd (x + o) KK = 1 := w_step (o := 1) h (by omega) (w1_get)
noncomputable def allW (k : Nat) : Nat → Bool := Nat.rec (motive := fun _ => Nat → Bool) w0 (fun k ih a => Bool.rec (motive := fun _ => Bool) Bool.false (ih (Nat.add a (Nat.mul 630 (Nat.pow 2 k)))) (ih a)) k
theorem allW_iff : ∀ k a, allW k a = true → ∀ i, i < 2 ^ k → w0 (a + 630 * i) = true
  | 0, a, h, i, h2 => by
    rw [Nat.pow_zero] at h2
    rw [show a + 630 * i = a by omega]
    exact h
  | k + 1, a, h, i, h2 => by
    have e : allW (k + 1) a = Bool.rec (motive := fun _ => Bool) Bool.false (allW k (a + 630 * 2 ^ k)) (allW k a) := rfl
    rw [e] at h
    cases hb : allW k a with
    | false => rw [hb] at h; cases h
    | true =>
      rw [hb] at h
      by_cases hi : i < 2 ^ k
      · exact allW_iff k a hb i hi
      · have := allW_iff k (a + 630 * 2 ^ k) h (i - 2 ^ k) (by rw [Nat.pow_succ] at h2; omega)
        rw [show a + 630 * 2 ^ k + 630 * (i - 2 ^ k) = a + 630 * i by omega] at this
        exact this
/-! The small numbers. -/
noncomputable def ptq (x : Nat) : Bool := kor (Nat.beq (Nat.gcd x KK) 1) (kand (Nat.ble x 46340) (prq x))
noncomputable def chn (l : List Nat) : Nat → Bool := List.rec (motive := fun _ => Nat → Bool) (fun b => Nat.ble 46620 b) (fun a _ ih b => kand (Nat.ble a (Nat.add b 1000)) (kand (Nat.blt 1 a) (kand (ptq a) (ih a)))) l
theorem ptq_prime {x : Nat} (h2 : 2 ≤ x) (hx : x < 2147483648) (h : ptq x = true) : NP x := by
  rcases kor_iff.1 h with h | h
  · exact cop_prime (B := 46340) (fun d => KK_low) h2 (by omega) (beq_iff.1 h)
  · obtain ⟨h1, h3⟩ := kand_iff.1 h
    exact prq_prime h2 (ble_iff.1 h1) h3
theorem chn_spec : ∀ (l : List Nat) (b : Nat), b < 2147000000 → chn l b = true → ∀ k, b ≤ k → k < 46620 → ∃ x, k < x ∧ x ≤ k + 1000 ∧ NP x
  | [], b, hb, h, k, h1, h2 => by
    have : 46620 ≤ b := ble_iff.1 h
    omega
  | a :: l, b, hb, h, k, h1, h2 => by
    have e : chn (a :: l) b = kand (Nat.ble a (Nat.add b 1000)) (kand (Nat.blt 1 a) (kand (ptq a) (chn l a))) := rfl
    rw [e] at h
    obtain ⟨a1, h⟩ := kand_iff.1 h
    obtain ⟨a2, h⟩ := kand_iff.1 h
    obtain ⟨a3, a4⟩ := kand_iff.1 h
    have a1 : a ≤ b + 1000 := ble_iff.1 a1
    have a2 : 1 < a := blt_iff.1 a2
    by_cases hk : k < a
    · exact ⟨a, hk, by omega, ptq_prime (by omega) (by omega) a3⟩
    · exact chn_spec l a (by omega) a4 k (by omega) h2
theorem chn_ok : chn [nat_lit 997, nat_lit 1997, nat_lit 2971, nat_lit 3967, nat_lit 4967, nat_lit 5953, nat_lit 6949, nat_lit 7949, nat_lit 8941, nat_lit 9941, nat_lit 10939, nat_lit 11939, nat_lit 12923, nat_lit 13921, nat_lit 14897, nat_lit 15889, nat_lit 16889, nat_lit 17881, nat_lit 18869, nat_lit 19867, nat_lit 20857, nat_lit 21851, nat_lit 22817, nat_lit 23813, nat_lit 24809, nat_lit 25801, nat_lit 26801, nat_lit 27799, nat_lit 28793, nat_lit 29789, nat_lit 30781, nat_lit 31771, nat_lit 32771, nat_lit 33769, nat_lit 34763, nat_lit 35759, nat_lit 36749, nat_lit 37747, nat_lit 38747, nat_lit 39733, nat_lit 40709, nat_lit 41687, nat_lit 42683, nat_lit 43669, nat_lit 44657, nat_lit 45641, nat_lit 46639] 0 = true := by decide +kernel
end Go.Refl.K
