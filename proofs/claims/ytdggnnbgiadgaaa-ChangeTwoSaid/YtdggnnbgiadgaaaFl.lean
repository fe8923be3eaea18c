/- float64: what Trunc and the conversions give, and that they stay in range. -/
import Derived.Test.YtdggnnbgiadgaaaBase
import Derived.Laws.FloatArith
import Derived.Laws.Externs
set_option linter.unusedVariables false
namespace Go.Proofs.Ytdggnnbgiadgaaa
open Go.RowKit

abbrev dbl : Ieee.Format := Ieee.double
def isNan : Ieee.Datum → Bool
  | .nan _ _ => true
  | _ => false
theorem dbl_sw : dbl.signWeight = 9223372036854775808 := by decide
theorem dbl_bin : dbl.binade = 4503599627370496 := by decide
theorem dbl_inf : dbl.infRung = 9218868437227405312 := by decide
theorem dbl_least : dbl.leastPlace = -1074 := by decide
theorem read_word (neg : Bool) (r : Nat) (h : r < 9223372036854775808) :
    dbl.read (dbl.word neg r) = if r < 4503599627370496 then .number neg r (-1074) else if r < 9218868437227405312 then .number neg (4503599627370496 + r % 4503599627370496) (-1074 + (r / 4503599627370496 - 1 : Nat)) else if r = 9218868437227405312 then .infinity neg else .nan neg (r - 9218868437227405312) := by
  have h1 : dbl.word neg r / 9223372036854775808 % 2 = neg.toNat := by unfold Ieee.Format.word; rw [dbl_sw]; cases neg <;> simp <;> omega
  have h2 : dbl.word neg r % 9223372036854775808 = r := by unfold Ieee.Format.word; rw [dbl_sw]; cases neg <;> simp <;> omega
  unfold Ieee.Format.read
  simp only [dbl_sw, dbl_bin, dbl_inf, dbl_least, h1, h2]
  cases neg <;> rfl
theorem nan_word (neg : Bool) (r : Nat) (h : r ≤ 9218868437227405312) : isNan (dbl.read (dbl.word neg r)) = false := by
  rw [read_word neg r (by omega)]
  split
  · rfl
  split
  · rfl
  rw [if_pos (by omega)]
  rfl
theorem nan_write (neg : Bool) (m : Nat) (e : Int) : isNan (dbl.read (dbl.write (.number neg m e))) = false := by
  unfold Ieee.Format.write Ieee.Format.nearest
  dsimp only
  split
  · exact nan_word neg 0 (by omega)
  · refine nan_word neg _ ?_
    rw [← dbl_inf]
    exact Nat.min_le_right _ _
theorem nan_write_inf (neg : Bool) : isNan (dbl.read (dbl.write (.infinity neg))) = false := by cases neg <;> decide
theorem nan_write_nan (neg : Bool) (t : Nat) (h : t < 4503599627370496) : isNan (dbl.read (dbl.write (.nan neg (dbl.quiet t)))) = true := by
  have hq1 : dbl.quiet t < 2 ^ 52 := by
    unfold Ieee.Format.quiet
    exact Nat.or_lt_two_pow (by simpa using h) (by decide)
  have hq2 : 2 ^ 51 ≤ dbl.quiet t := by
    unfold Ieee.Format.quiet
    exact Nat.right_le_or
  unfold Ieee.Format.write
  dsimp only
  rw [dbl_inf, dbl_bin, Nat.mod_eq_of_lt (by simpa using hq1), read_word neg _ (by omega), if_neg (by omega), if_neg (by omega), if_neg (by omega)]
  rfl

theorem read_num {x : Nat} {s : Bool} {m : Nat} {e : Int} (h : dbl.read x = .number s m e) : m < 9007199254740992 ∧ -1074 ≤ e ∧ e ≤ 971 := by
  unfold Ieee.Format.read at h
  simp only [dbl_sw, dbl_bin, dbl_inf, dbl_least] at h
  split at h
  · cases h; omega
  split at h
  · cases h
    refine ⟨by omega, by omega, ?_⟩
    omega
  split at h <;> cases h
theorem read_nan {x : Nat} {s : Bool} {t : Nat} (h : dbl.read x = .nan s t) : t < 4503599627370496 := by
  unfold Ieee.Format.read at h
  simp only [dbl_sw, dbl_bin, dbl_inf, dbl_least] at h
  split at h
  · cases h
  split at h
  · cases h
  split at h
  · cases h
  · cases h; omega

/-- The number cut to a whole one. -/
def truncN (x : Nat) : Nat := dbl.write ((dbl.read x).integral .zero)
theorem nan_trunc {x : Nat} (h : isNan (dbl.read x) = false) : isNan (dbl.read (truncN x)) = false := by
  unfold truncN
  cases hd : dbl.read x with
  | number s m e => exact nan_write _ _ _
  | infinity s => exact nan_write_inf s
  | nan s t => rw [hd] at h; cases h

theorem order_self {x : Nat} (h : isNan (dbl.read x) = false) : (FloatKind.f64.format.order x x != some .eq) = false := by
  show (dbl.order x x != some .eq) = false
  unfold Ieee.Format.order
  cases hd : dbl.read x with
  | number s m e => simp [Ieee.Datum.order]
  | infinity s => simp [Ieee.Datum.order]
  | nan s t => rw [hd] at h; cases h
theorem order_nan {x : Nat} (h : isNan (dbl.read x) = true) : (FloatKind.f64.format.order x x != some .eq) = true := by
  show (dbl.order x x != some .eq) = true
  unfold Ieee.Format.order
  cases hd : dbl.read x with
  | number s m e => rw [hd] at h; cases h
  | infinity s => rw [hd] at h; cases h
  | nan s t => simp [Ieee.Datum.order]

theorem read_hi : dbl.read 4890909195324358656 = .number false 4503599627370496 11 := by decide
theorem read_lo : dbl.read 14114281232179134464 = .number true 4503599627370496 11 := by decide

theorem trunc_cut_le (s : Bool) (n d : Nat) : Ieee.Toward.zero.cut s n d ≤ n := by
  unfold Ieee.Toward.cut
  simp only [Bool.toNat_false, Nat.add_zero]
  exact Nat.div_le_self _ _

theorem toInt_num (s : Bool) (m : Nat) (e : Int) : (Ieee.Datum.number s m e).toInt .zero = some (Ieee.signed s (Ieee.Toward.zero.cut s (m <<< e.toNat) (-e).toNat) 0) := rfl
theorem signed0 (s : Bool) (n : Nat) : Ieee.signed s n 0 = if s then -(n : Int) else (n : Int) := by unfold Ieee.signed; simp

theorem big_shift {m k : Nat} (h : m <<< k ≤ 4503599627370496) : m <<< (k + 11) ≤ 9223372036854775808 := by
  rw [Nat.shiftLeft_eq] at h ⊢
  rw [Nat.pow_add]
  have : m * (2 ^ k * 2 ^ 11) = m * 2 ^ k * 2048 := by rw [← Nat.mul_assoc]
  rw [this]
  omega
theorem big_shift_lt {m k : Nat} (h : m <<< k < 4503599627370496) : m <<< (k + 11) < 9223372036854775808 := by
  rw [Nat.shiftLeft_eq] at h ⊢
  rw [Nat.pow_add]
  have : m * (2 ^ k * 2 ^ 11) = m * 2 ^ k * 2048 := by rw [← Nat.mul_assoc]
  rw [this]
  omega
theorem small_shift {m k : Nat} (h : m < 9007199254740992) (hk : k ≤ 10) : m <<< k < 9223372036854775808 := by
  rw [Nat.shiftLeft_eq]
  have : 2 ^ k ≤ 2 ^ 10 := Nat.pow_le_pow_right (by omega) hk
  calc m * 2 ^ k ≤ m * 2 ^ 10 := Nat.mul_le_mul_left _ this
    _ < 9223372036854775808 := by omega

/-- A float that is below 2^63, and not below -2^63, fits. -/
theorem fits_i64 {x : Nat} (h0 : isNan (dbl.read x) = false) (h1 : (FloatKind.f64.format.order x 4890909195324358656 == some .gt || FloatKind.f64.format.order x 4890909195324358656 == some .eq) = false)
    (h2 : (FloatKind.f64.format.order x 14114281232179134464 == some .lt) = false) : ∃ n, (dbl.read x).toInt .zero = some n ∧ -9223372036854775808 ≤ n ∧ n ≤ 9223372036854775807 := by
  change (dbl.order x 4890909195324358656 == some .gt || dbl.order x 4890909195324358656 == some .eq) = false at h1
  change (dbl.order x 14114281232179134464 == some .lt) = false at h2
  unfold Ieee.Format.order at h1 h2
  rw [read_hi] at h1
  rw [read_lo] at h2
  cases hd : dbl.read x with
  | nan s t => rw [hd] at h0; cases h0
  | infinity s =>
    rw [hd] at h1 h2
    cases s <;> simp [Ieee.Datum.order] at h1 h2
  | number s m e =>
    rw [hd] at h1 h2
    obtain ⟨hm, he1, he2⟩ := read_num hd
    refine ⟨_, toInt_num s m e, ?_⟩
    rw [signed0]
    have hcut := trunc_cut_le s (m <<< e.toNat) (-e).toNat
    by_cases h11 : e ≤ 10
    · have hk := small_shift hm (k := e.toNat) (by omega)
      split <;> omega
    · obtain ⟨k, rfl⟩ : ∃ k : Nat, e = (k : Int) + 11 := ⟨(e - 11).toNat, by omega⟩
      have hmin : min ((k : Int) + 11) 11 = 11 := by omega
      have hk0 : ((k : Int) + 11 - 11).toNat = k := by omega
      have hk1 : ((k : Int) + 11).toNat = k + 11 := by omega
      rw [hk1] at hcut ⊢
      simp only [Ieee.Datum.order, hmin, hk0] at h1 h2
      cases s with
      | false =>
        have hlt : m <<< k < 4503599627370496 := by
          rcases Nat.lt_trichotomy (m <<< k) 4503599627370496 with h | h | h
          · exact h
          · exfalso
            simp [Ieee.signed, h] at h1
          · exfalso
            have : compare (Ieee.signed false m k) (Ieee.signed false 4503599627370496 0) = .gt := by
              have e1 : Ieee.signed false m k = ((m <<< k : Nat) : Int) := rfl
              have e2 : Ieee.signed false 4503599627370496 0 = 4503599627370496 := rfl
              rw [e1, e2]
              generalize m <<< k = z at h ⊢
              simp only [compare, compareOfLessAndEq]
              rw [if_neg (by omega), if_neg (by omega)]
            simp [this] at h1
        have := big_shift_lt hlt
        simp
        omega
      | true =>
        have hle : m <<< k ≤ 4503599627370496 := by
          rcases Nat.lt_or_ge 4503599627370496 (m <<< k) with h | h
          · exfalso
            have : compare (Ieee.signed true m k) (Ieee.signed true 4503599627370496 0) = .lt := by
              have e1 : Ieee.signed true m k = -((m <<< k : Nat) : Int) := rfl
              have e2 : Ieee.signed true 4503599627370496 0 = -4503599627370496 := rfl
              rw [e1, e2]
              generalize m <<< k = z at h ⊢
              simp only [compare, compareOfLessAndEq]
              rw [if_pos (by omega)]
            simp [this] at h2
          · exact h
        have := big_shift hle
        simp
        omega
end Go.Proofs.Ytdggnnbgiadgaaa
