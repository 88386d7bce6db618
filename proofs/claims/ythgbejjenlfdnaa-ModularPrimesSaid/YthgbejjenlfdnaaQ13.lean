/-
  Fractions rebuilt: what the program's function computes.
-/
import Derived.Test.YthgbejjenlfdnaaP9
set_option linter.unusedVariables false
set_option linter.unusedSimpArgs false
set_option maxRecDepth 100000
namespace Go.Refl.S3
open Go Go.Refl Go.Proofs

def rbEnd (m b r t : Int) : Option (Int × Int) := if t < 0 then (if -t < 1 ∨ -t > b ∨ Int.gcd (-t) m ≠ 1 then none else some (-r, -t)) else (if t < 1 ∨ t > b ∨ Int.gcd t m ≠ 1 then none else some (r, t))
def rbl (m b : Int) : Nat → Int → Int → Int → Int → Option (Int × Int)
  | 0, _, _, _, _ => none
  | k + 1, x, s, r, t => if r > b then rbl m b k r t (x % r) (s - x / r * t) else rbEnd m b r t
noncomputable def rb (u m : Int) : Option (Int × Int) := open Classical in if m ≤ 0 then none else rbl m (isq ((m - 1) / 2)) ((u % m).toNat + 1) m 0 (u % m) 1
noncomputable def rbR (r : Option (Int × Int)) : DL [tRat, .bool] := match r with
  | some (n, d) => (encR n d, (true, ()))
  | none => (encR 0 0, (false, ()))
noncomputable def h33 : DL [tInt, tInt] → Option (DL [tRat, .bool]) := fun (x : DInt × DInt × Unit) => when (Is x.1 ∧ Is x.2.1 ∧ dec x.2.1 < P 99) (rbR (rb (dec x.1) (dec x.2.1)))
theorem e33 {u m : Int} (hu : Sm u) (hm : Sm m) (h : m < P 99) : h33 (enc u, (enc m, ())) = some (rbR (rb u m)) := by
  show when (Is (enc u) ∧ Is (enc m) ∧ dec (enc m) < P 99) (rbR (rb (dec (enc u)) (dec (enc m)))) = _
  rw [dec_enc, dec_enc, when_pos ⟨Is.enc hu, Is.enc hm, h⟩]
theorem e56 {y z : Int} (hy : Sm y) (hz : Sm z) : h56 (enc y, (enc z, ())) = some (cmpI y z, ()) := HI2_eq hy hz
theorem e58 {y z : Int} (hy : Sm y) (hz : Sm z) : h58 (enc y, (enc z, ())) = some (enc (Int.gcd y z : Nat), ()) := HI2_eq hy hz
theorem e57 {z : Int} (h : Sm z) : h57 (enc z, ()) = some (enc (-z), ()) := HI1_eq h
theorem e46 {y z : Int} (hy : Sm y) (hz : Sm z) : h46 (enc y, (enc z, ())) = some (enc (y * z), ()) := HI2_eq hy hz
theorem e45 {y z : Int} (hy : Sm y) (hz : Sm z) : h45 (enc y, (enc z, ())) = some (enc (y + z), ()) := HI2_eq hy hz
theorem e53 {y z : Int} (hy : Sm y) (hz : Sm z) : h53 (enc y, (enc z, ())) = some (enc (y - z), ()) := HI2_eq hy hz
theorem cmpI_pos {a b : Int} : (cmpI a b > 0) ↔ a > b := by
  unfold cmpI
  split
  · constructor <;> intro <;> omega
  · split <;> constructor <;> intro <;> omega
theorem cmpI_zero {a b : Int} : (cmpI a b = 0) ↔ a = b := by
  unfold cmpI
  split
  · constructor <;> intro <;> omega
  · split <;> constructor <;> intro <;> omega
theorem sgn_neg {z : Int} : (sgn z < 0) ↔ z < 0 := by
  unfold sgn
  split
  · constructor <;> intro <;> omega
  · split <;> constructor <;> intro <;> omega
theorem sgn_le {z : Int} : (sgn z ≤ 0) ↔ z ≤ 0 := by
  unfold sgn
  split
  · constructor <;> intro <;> omega
  · split <;> constructor <;> intro <;> omega
theorem gcd_le {a b : Int} (hb : 0 < b) : ((Int.gcd a b : Nat) : Int) ≤ b := by
  have := Nat.le_of_dvd (show 0 < b.natAbs by omega) (Nat.gcd_dvd_right a.natAbs b.natAbs)
  unfold Int.gcd
  omega

theorem L33 (m b : Int) (hm : 0 < m) (hm1 : m < P 99) (hb0 : 0 ≤ b) (hbm : b ≤ m) (b2 b3 : Bool) (x2 x3 : List Int) : ∀ k : Nat, ∀ x s r t e : Int, r.toNat < k → 0 ≤ r → r < x → x ≤ m → (e = 1 ∨ e = -1) → 0 ≤ e * t → 0 ≤ -e * s → e * t * x + -e * s * r = m → -e * s ≤ m →
    g33_L8 (enc m).1 (enc m).2.1 b2 x2 b3 x3 (enc b).1 (enc b).2.1 (enc x).1 (enc x).2.1 (enc s).1 (enc s).2.1 (enc r).1 (enc r).2.1 (enc t).1 (enc t).2.1 = some (rbR (rbl m b k x s r t)) := by
  have hP : P 100 = 4294967296 * P 99 := P_succ 99
  have hP1 : P 99 = 4294967296 * P 98 := P_succ 98
  have hPp := P_pos 98
  have S : ∀ z : Int, (z.natAbs : Int) < P 100 → Sm z := fun z hz => Sm.of (k := 100) hz (by omega)
  intro k
  induction k with
  | zero => intro x s r t e h; omega
  | succ k ih =>
    intro x s r t e hk hr hrx hxm he ht hs h hsb
    obtain ⟨c1, c2, c3, c4⟩ := eiv_bound hm he (by omega) hr ht hs h hsb
    have sm : Sm m := S m (by omega)
    have sb : Sm b := S b (by omega)
    have sx : Sm x := S x (by omega)
    have ss : Sm s := S s (by omega)
    have sr : Sm r := S r (by omega)
    have st : Sm t := S t (by omega)
    have s1 : Sm 1 := Sm.small (by omega)
    have E1 : h56 (((enc r).1, ((enc r).2.1, ())), (((enc b).1, ((enc b).2.1, ())), ())) = some (cmpI r b, ()) := e56 sr sb
    rw [g33_L8_eq, E1, Option.bind_some]
    dsimp only
    simp only [rbl]
    by_cases h0 : r > b
    · rw [ifd_t (cmpI_pos.2 h0), if_pos h0]
      have hr0 : 0 < r := by omega
      have E2 : h52 (((enc x).1, ((enc x).2.1, ())), (((enc r).1, ((enc r).2.1, ())), ())) = some (qr x r) := e52 sx sr
      obtain ⟨q0, q1, m0, m1⟩ := quot_le (a := x) (b := r) (by omega) hr0
      have me := Int.mul_ediv_add_emod x r
      have sq : Sm (x / r) := S _ (by omega)
      have E3 : h46 (((enc (x / r)).1, ((enc (x / r)).2.1, ())), (((enc t).1, ((enc t).2.1, ())), ())) = some (enc (x / r * t), ()) := e46 sq st
      have ht' : 0 ≤ (-e) * (s - x / r * t) := by
        have : 0 ≤ x / r * (e * t) := Int.mul_nonneg q0 ht
        have e2 : (-e) * (s - x / r * t) = -e * s + x / r * (e * t) := by grind
        omega
      have hs' : 0 ≤ - -e * t := by rw [Int.neg_neg]; exact ht
      have hsum : (-e) * (s - x / r * t) * r + - -e * t * (x % r) = m := by
        have e3 : x % r = x - r * (x / r) := by omega
        rw [e3]
        clear ih ht' hs' me m0 m1 q0 q1 E1 E2 E3 sq sm sb sx ss sr st c1 c2 c3 c4 hsb hs ht hrx hxm e3 S
        grind
      have hsb' : - -e * t ≤ m := by
        rw [Int.neg_neg]
        rcases he with rfl | rfl <;> omega
      obtain ⟨d1, d2, d3, d4⟩ := eiv_bound hm (e := -e) (by rcases he with rfl | rfl <;> simp) (by omega) m0 ht' hs' hsum hsb'
      have sqt : Sm (x / r * t) := S _ (by omega)
      have E4 : h53 (((enc s).1, ((enc s).2.1, ())), (enc (x / r * t), ())) = some (enc (s - x / r * t), ()) := e53 ss sqt
      rw [E2, Option.bind_some, qr_of (by omega)]
      dsimp only
      rw [E3, Option.bind_some]
      dsimp only
      rw [E4, Option.bind_some]
      dsimp only
      exact ih r t (x % r) (s - x / r * t) (-e) (by omega) m0 m1 (by omega) (by rcases he with rfl | rfl <;> simp) ht' hs' hsum hsb'
    · rw [ifd_f (fun h => h0 (cmpI_pos.1 h)), if_neg h0]
      have E2 : h51 (((enc t).1, ((enc t).2.1, ())), ()) = some (sgn t, ()) := e51 st
      rw [E2, Option.bind_some]
      dsimp only
      unfold rbEnd
      have hz : rbR none = (((false, ([], ())), ((false, ([], ())), ())), (false, ())) := by
        unfold rbR encR
        rw [enc_zero]
      by_cases h1 : t < 0
      · rw [ifd_t (sgn_neg.2 h1), if_pos h1]
        have E3 : h57 (((enc r).1, ((enc r).2.1, ())), ()) = some (enc (-r), ()) := e57 sr
        have E4 : h57 (((enc t).1, ((enc t).2.1, ())), ()) = some (enc (-t), ()) := e57 st
        have E5 : h56 (((enc (-t)).1, ((enc (-t)).2.1, ())), (((enc 1).1, ((enc 1).2.1, ())), ())) = some (cmpI (-t) 1, ()) := e56 st.neg s1
        have E6 : h56 (((enc (-t)).1, ((enc (-t)).2.1, ())), (((enc b).1, ((enc b).2.1, ())), ())) = some (cmpI (-t) b, ()) := e56 st.neg sb
        have E7 : h58 (((enc (-t)).1, ((enc (-t)).2.1, ())), (((enc m).1, ((enc m).2.1, ())), ())) = some (enc (Int.gcd (-t) m : Nat), ()) := e58 st.neg sm
        have hg := gcd_le (a := -t) hm
        have E8 : h56 (enc (Int.gcd (-t) m : Nat), (((enc 1).1, ((enc 1).2.1, ())), ())) = some (cmpI (Int.gcd (-t) m : Nat) 1, ()) := e56 (S _ (by omega)) s1
        rw [E3, Option.bind_some, E4, Option.bind_some, e44 (by omega), Option.bind_some]
        dsimp only
        rw [E5, Option.bind_some]
        dsimp only
        by_cases g1 : -t < 1
        · rw [ifd_t (cmpI_neg.2 g1), if_pos (.inl g1), hz]
        · rw [ifd_f (fun h => g1 (cmpI_neg.1 h)), E6, Option.bind_some]
          dsimp only
          by_cases g2 : -t > b
          · rw [ifd_t (cmpI_pos.2 g2), if_pos (.inr (.inl g2)), hz]
          · rw [ifd_f (fun h => g2 (cmpI_pos.1 h)), E7, Option.bind_some]
            dsimp only
            rw [E8, Option.bind_some]
            dsimp only
            by_cases g3 : Int.gcd (-t) m ≠ 1
            · rw [ifn_t (fun h => g3 (by have := cmpI_zero.1 h; omega)), if_pos (.inr (.inr g3)), hz]
            · rw [ifn_f (cmpI_zero.2 (by omega)), if_neg (fun h => h.elim g1 fun h => h.elim g2 g3)]
              rfl
      · rw [ifd_f (fun h => h1 (sgn_neg.1 h)), if_neg h1]
        have E5 : h56 (((enc t).1, ((enc t).2.1, ())), (((enc 1).1, ((enc 1).2.1, ())), ())) = some (cmpI t 1, ()) := e56 st s1
        have E6 : h56 (((enc t).1, ((enc t).2.1, ())), (((enc b).1, ((enc b).2.1, ())), ())) = some (cmpI t b, ()) := e56 st sb
        have E7 : h58 (((enc t).1, ((enc t).2.1, ())), (((enc m).1, ((enc m).2.1, ())), ())) = some (enc (Int.gcd t m : Nat), ()) := e58 st sm
        have hg := gcd_le (a := t) hm
        have E8 : h56 (enc (Int.gcd t m : Nat), (((enc 1).1, ((enc 1).2.1, ())), ())) = some (cmpI (Int.gcd t m : Nat) 1, ()) := e56 (S _ (by omega)) s1
        rw [e44 (by omega), Option.bind_some]
        dsimp only
        rw [E5, Option.bind_some]
        dsimp only
        by_cases g1 : t < 1
        · rw [ifd_t (cmpI_neg.2 g1), if_pos (.inl g1), hz]
        · rw [ifd_f (fun h => g1 (cmpI_neg.1 h)), E6, Option.bind_some]
          dsimp only
          by_cases g2 : t > b
          · rw [ifd_t (cmpI_pos.2 g2), if_pos (.inr (.inl g2)), hz]
          · rw [ifd_f (fun h => g2 (cmpI_pos.1 h)), E7, Option.bind_some]
            dsimp only
            rw [E8, Option.bind_some]
            dsimp only
            by_cases g3 : Int.gcd t m ≠ 1
            · rw [ifn_t (fun h => g3 (by have := cmpI_zero.1 h; omega)), if_pos (.inr (.inr g3)), hz]
            · rw [ifn_f (cmpI_zero.2 (by omega)), if_neg (fun h => h.elim g1 fun h => h.elim g2 g3)]
              rfl
theorem s33 : SigOk Try.prog 33 ⟨[tInt, tInt], [tRat, .bool], h33⟩ := ok33 fun (x : DInt × DInt × Unit) r h => by
  obtain ⟨⟨⟨u, hu, hsu⟩, ⟨m, hm, hsm⟩, hm1⟩, rfl⟩ := when_some h
  obtain ⟨a, b, u'⟩ := x
  replace hu : a = enc u := hu
  replace hm : b = enc m := hm
  subst hu; subst hm
  replace hm1 : dec (enc m) < P 99 := hm1
  rw [dec_enc] at hm1
  show g33 (enc u, enc m, ()) = some (rbR (rb (dec (enc u)) (dec (enc m))))
  rw [dec_enc, dec_enc]
  have hP : P 100 = 4294967296 * P 99 := P_succ 99
  have hPp := P_pos 99
  have E1 : h51 (((enc m).1, ((enc m).2.1, ())), ()) = some (sgn m, ()) := e51 hsm
  have s1 : Sm 1 := Sm.small (by omega)
  have s2 : Sm 2 := Sm.small (by omega)
  have E2 : h53 (((enc m).1, ((enc m).2.1, ())), (enc 1, ())) = some (enc (m - 1), ()) := e53 hsm s1
  unfold rb
  rw [g33_eq, E1, Option.bind_some]
  dsimp only
  by_cases h0 : m ≤ 0
  · rw [ifd_t (sgn_le.2 h0), if_pos h0]
    unfold rbR encR
    rw [enc_zero]
  · have sm1 : Sm (m - 1) := Sm.of (k := 100) (by omega) (by omega)
    have E3 : h52 (enc (m - 1), (enc 2, ())) = some (qr (m - 1) 2) := e52 sm1 s2
    have h2 : 0 ≤ (m - 1) / 2 := by omega
    have E4 : h54 (((enc ((m - 1) / 2)).1, ((enc ((m - 1) / 2)).2.1, ())), (2, ())) = some (enc (isq ((m - 1) / 2)), (0, ())) := e54 h2 (by omega)
    have E5 : h52 (((enc u).1, ((enc u).2.1, ())), (((enc m).1, ((enc m).2.1, ())), ())) = some (qr u m) := e52 hsu hsm
    have hi := isq_spec h2
    have hil := isq_le h2
    have m0 := Int.emod_nonneg u (show m ≠ 0 by omega)
    have m1 := Int.emod_lt_of_pos u (show 0 < m by omega)
    rw [ifd_f (fun h => h0 (sgn_le.1 h)), if_neg h0, e44 (by omega), Option.bind_some]
    dsimp only
    rw [E2, Option.bind_some, e44 (by omega), Option.bind_some]
    dsimp only
    rw [E3, Option.bind_some, qr_of (by omega)]
    dsimp only
    rw [E4, Option.bind_some]
    dsimp only
    rw [E5, Option.bind_some, qr_of (by omega), e44 (by omega), Option.bind_some, Option.bind_some]
    exact L33 m (isq ((m - 1) / 2)) (by omega) hm1 hi.1 (by omega) _ _ _ _ ((u % m).toNat + 1) m 0 (u % m) 1 1 (by omega) m0 m1 (Int.le_refl _) (.inl rfl) (by omega) (by omega) (by omega) (by omega)
end Go.Refl.S3
