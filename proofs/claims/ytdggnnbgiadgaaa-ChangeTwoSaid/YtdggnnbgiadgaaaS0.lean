/- Walks of package word's and kind's small functions. -/
import Derived.Test.YtdggnnbgiadgaaaMem
namespace Go.Proofs.Ytdggnnbgiadgaaa
open Go.RowKit

def rightB (n : Int) : Bool := n == 1 || n == 2 || n == 4 || n == 8

theorem word_right (n : Int) (w : World) : Calls Try.prog 66 #[.int .i64 n] w fun e w' => e = .returned (.bool (rightB n)) ∧ w = w' := by
  go_enter Try.func66, Try.ntmps66
  go_wp2
  all_goals (go_ret; exact ⟨by simp [rightB, *], rfl⟩)

/-- Sign spreads the highest bit. -/
def signI (n wd : Int) : Int :=
  if wd = 1 then IntKind.u64.wrap (wrap64 (IntKind.u64.wrap (n * 72057594037927936)) / 72057594037927936)
  else if wd = 2 then IntKind.u64.wrap (wrap64 (IntKind.u64.wrap (n * 281474976710656)) / 281474976710656)
  else if wd = 4 then IntKind.u64.wrap (wrap64 (IntKind.u64.wrap (n * 4294967296)) / 4294967296)
  else n
theorem wrap_there (n : Int) (h0 : 0 ≤ n) (h1 : n ≤ 18446744073709551615) : IntKind.u64.wrap (wrap64 n) = n := by
  rw [IntKind.wrap_u64]; unfold wrap64; omega

theorem word_Sign1 (n : Int) (w : World) : Calls Try.prog 67 #[.int .u64 n, .int .i64 1] w fun e w' => e = .returned (.int .u64 (signI n 1)) ∧ w = w' := by
  go_enter Try.func67, Try.ntmps67
  go_wp2_with (go_at_call 66; refine (word_right _ _).mono ?_; rintro e w' ⟨rfl, rfl⟩)
  go_ret
  exact ⟨by simp [signI], rfl⟩
theorem word_Sign2 (n : Int) (w : World) : Calls Try.prog 67 #[.int .u64 n, .int .i64 2] w fun e w' => e = .returned (.int .u64 (signI n 2)) ∧ w = w' := by
  go_enter Try.func67, Try.ntmps67
  go_wp2_with (go_at_call 66; refine (word_right _ _).mono ?_; rintro e w' ⟨rfl, rfl⟩)
  go_ret
  exact ⟨by simp [signI], rfl⟩
theorem word_Sign4 (n : Int) (w : World) : Calls Try.prog 67 #[.int .u64 n, .int .i64 4] w fun e w' => e = .returned (.int .u64 (signI n 4)) ∧ w = w' := by
  go_enter Try.func67, Try.ntmps67
  go_wp2_with (go_at_call 66; refine (word_right _ _).mono ?_; rintro e w' ⟨rfl, rfl⟩)
  go_ret
  exact ⟨by simp [signI], rfl⟩
theorem word_Sign8 (n : Int) (w : World) (h0 : 0 ≤ n) (h1 : n ≤ 18446744073709551615) : Calls Try.prog 67 #[.int .u64 n, .int .i64 8] w fun e w' => e = .returned (.int .u64 (signI n 8)) ∧ w = w' := by
  go_enter Try.func67, Try.ntmps67
  go_wp2_with (go_at_call 66; refine (word_right _ _).mono ?_; rintro e w' ⟨rfl, rfl⟩)
  go_ret
  exact ⟨by simp [signI, wrap_there n h0 h1], rfl⟩
theorem word_Sign0 (n wd : Int) (w : World) (hr : rightB wd = false) : Calls Try.prog 67 #[.int .u64 n, .int .i64 wd] w fun e w' => e = .returned (.int .u64 (signI n wd)) ∧ w = w' := by
  have hs : signI n wd = n := by
    simp [rightB] at hr
    simp [signI, hr]
  have HS := Lib.hid hs
  clear hs
  go_enter Try.func67, Try.ntmps67
  go_wp2_with (go_at_call 66; refine (word_right _ _).mono ?_; rintro e w' ⟨rfl, rfl⟩)
  go_ret
  exact ⟨by rw [HS.out]; rfl, rfl⟩
theorem word_Sign (n wd : Int) (w : World) (h0 : 0 ≤ n) (h1 : n ≤ 18446744073709551615) : Calls Try.prog 67 #[.int .u64 n, .int .i64 wd] w fun e w' => e = .returned (.int .u64 (signI n wd)) ∧ w = w' := by
  by_cases hr : rightB wd = true
  · simp [rightB] at hr
    rcases hr with ((rfl | rfl) | rfl) | rfl
    · exact word_Sign1 n w
    · exact word_Sign2 n w
    · exact word_Sign4 n w
    · exact word_Sign8 n w h0 h1
  · exact word_Sign0 n wd w (by simpa using hr)

def fitsB (n wd : Int) (sg : Bool) : Bool :=
  if rightB wd = true then (if sg = true then signI n wd == n else wd == 8 || (if wd = 1 then n / 256 == 0 else if wd = 2 then n / 65536 == 0 else n / 4294967296 == 0)) else false
theorem word_Fits (n wd : Int) (sg : Bool) (w : World) (h0 : 0 ≤ n) (h1 : n ≤ 18446744073709551615) : Calls Try.prog 47 #[.int .u64 n, .int .i64 wd, .bool sg] w fun e w' => e = .returned (.bool (fitsB n wd sg)) ∧ w = w' := by
  by_cases hr : rightB wd = true
  · cases sg with
    | true =>
      have hs : fitsB n wd true = (signI n wd == n) := by simp [fitsB, hr]
      have HS := Lib.hid hs
      clear hs
      go_enter Try.func47, Try.ntmps47
      go_wp2_with (first | (go_at_call 66; refine (word_right _ _).mono ?_; rintro e w' ⟨rfl, rfl⟩) | (go_at_call 67; refine (word_Sign _ _ _ h0 h1).mono ?_; rintro e w' ⟨rfl, rfl⟩))
      go_ret
      exact ⟨by rw [HS.out]; rfl, rfl⟩
    | false =>
      simp [rightB] at hr
      rcases hr with ((rfl | rfl) | rfl) | rfl
      all_goals
        go_enter Try.func47, Try.ntmps47
        go_wp2_with (go_at_call 66; refine (word_right _ _).mono ?_; rintro e w' ⟨rfl, rfl⟩)
        go_ret
        exact ⟨by simp [fitsB, rightB], rfl⟩
  · have hr' : rightB wd = false := by simpa using hr
    have hs : fitsB n wd sg = false := by simp [fitsB, hr']
    have HS := Lib.hid hs
    clear hs hr
    go_enter Try.func47, Try.ntmps47
    go_wp2_with (go_at_call 66; refine (word_right _ _).mono ?_; rintro e w' ⟨rfl, rfl⟩)
    go_ret
    exact ⟨by rw [HS.out]; rfl, rfl⟩

def sizeI (k : Int) : Int := if k = 4 ∨ k = 8 ∨ k = 10 ∨ k = 11 then 8 else if k = 3 ∨ k = 7 then 4 else if k = 2 ∨ k = 6 then 2 else if k = 1 ∨ k = 5 ∨ k = 9 then 1 else 0
theorem word_Size (n : Int) (w : World) : Calls Try.prog 56 #[.int .i64 n] w fun e w' => e = .returned (.int .i64 (sizeI n)) ∧ w = w' := by
  go_enter Try.func56, Try.ntmps56
  go_wp2
  all_goals (go_ret; exact ⟨by simp_all [sizeI], rfl⟩)

theorem kind_between (n a b : Int) (w : World) : Calls Try.prog 68 #[.int .i64 n, .int .i64 a, .int .i64 b] w fun e w' => e = .returned (.bool (decide (a ≤ n) && decide (n ≤ b))) ∧ w = w' := by
  go_enter Try.func68, Try.ntmps68
  go_wp2
  all_goals (go_ret; exact ⟨by simp [*]; try omega, rfl⟩)

def plainB (k : Int) : Bool := decide (1 ≤ k) && decide (k ≤ 4)
def signedB (k : Int) : Bool := decide (5 ≤ k) && decide (k ≤ 8)
theorem kind_plain (n : Int) (w : World) : Calls Try.prog 50 #[.int .i64 n] w fun e w' => e = .returned (.bool (plainB n)) ∧ w = w' := by
  go_enter Try.func50, Try.ntmps50
  go_wp2_with (go_at_call 68; refine (kind_between _ _ _ _).mono ?_; rintro e w' ⟨rfl, rfl⟩)
  all_goals (go_ret; exact ⟨rfl, rfl⟩)
theorem kind_signed (n : Int) (w : World) : Calls Try.prog 48 #[.int .i64 n] w fun e w' => e = .returned (.bool (signedB n)) ∧ w = w' := by
  go_enter Try.func48, Try.ntmps48
  go_wp2_with (go_at_call 68; refine (kind_between _ _ _ _).mono ?_; rintro e w' ⟨rfl, rfl⟩)
  all_goals (go_ret; exact ⟨rfl, rfl⟩)

def mayB (k l : Int) : Bool := if k = 12 then decide (1 ≤ l) && decide (l ≤ 64) else decide (0 < sizeI k) && l == 0
def longI (k l : Int) : Int := if mayB k l = true then (if k = 12 then l else sizeI k) else 0

theorem kind_may (n : ByteArray) (k l : Int) (w : World) : Calls Try.prog 49 #[.agg #[.string n, .int .i64 k, .int .i64 l]] w fun e w' => e = .returned (.bool (mayB k l)) ∧ Below w.heap.size w w' := by
  by_cases hk : k = 12
  · subst hk
    by_cases hl : 1 ≤ l
    · have hm : mayB 12 l = decide (l ≤ 64) := by simp [mayB, hl]
      have HM := Lib.hid hm
      clear hm
      go_enter Try.func49, Try.ntmps49
      go_wp2_with (go_at_call 56; refine (word_Size _ _).mono ?_; rintro e w' ⟨rfl, rfl⟩)
      go_ret
      exact ⟨by rw [HM.out]; rfl, (Below.refl _ _).alloc (Nat.le_refl _) _⟩
    · have hm : mayB 12 l = false := by simp [mayB, hl]
      have HM := Lib.hid hm
      clear hm
      go_enter Try.func49, Try.ntmps49
      go_wp2_with (go_at_call 56; refine (word_Size _ _).mono ?_; rintro e w' ⟨rfl, rfl⟩)
      go_ret
      exact ⟨by rw [HM.out]; rfl, (Below.refl _ _).alloc (Nat.le_refl _) _⟩
  · have hk' : (k == 12) = false := by simp [hk]
    have Hk := Lib.hid hk
    by_cases hl : 0 < sizeI k
    · have hm : mayB k l = (l == 0) := by simp [mayB, hk, hl]
      have HM := Lib.hid hm
      clear hm hk
      go_enter Try.func49, Try.ntmps49
      go_wp2_with (go_at_call 56; refine (word_Size _ _).mono ?_; rintro e w' ⟨rfl, rfl⟩)
      go_ret
      exact ⟨by rw [HM.out]; rfl, (Below.refl _ _).alloc (Nat.le_refl _) _⟩
    · have hm : mayB k l = false := by simp [mayB, hk, hl]
      have HM := Lib.hid hm
      clear hm hk
      go_enter Try.func49, Try.ntmps49
      go_wp2_with (go_at_call 56; refine (word_Size _ _).mono ?_; rintro e w' ⟨rfl, rfl⟩)
      go_ret
      exact ⟨by rw [HM.out]; rfl, (Below.refl _ _).alloc (Nat.le_refl _) _⟩

theorem kind_Long (n : ByteArray) (k l : Int) (w : World) : Calls Try.prog 33 #[.agg #[.string n, .int .i64 k, .int .i64 l]] w fun e w' => e = .returned (.int .i64 (longI k l)) ∧ Below w.heap.size w w' := by
  go_enter Try.func33, Try.ntmps33
  go_wp2_with (first | (go_at_call 49; refine (kind_may _ _ _ _).mono ?_; rintro e w1 ⟨rfl, hb1⟩; obtain ⟨hc1, hf1⟩ := bcell hb1; have hz1 := hb1.size) | (go_at_call 56; refine (word_Size _ _).mono ?_; rintro e w' ⟨rfl, rfl⟩))
  all_goals (go_ret; exact ⟨by simp_all [longI], ((Below.refl _ _).alloc (Nat.le_refl _) _).trans (hb1.mono (by simp))⟩)
end Go.Proofs.Ytdggnnbgiadgaaa
