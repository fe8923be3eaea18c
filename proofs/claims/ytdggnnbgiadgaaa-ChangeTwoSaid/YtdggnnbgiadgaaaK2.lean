/- kind.Right. -/
import Derived.Test.YtdggnnbgiadgaaaK1
namespace Go.Proofs.Ytdggnnbgiadgaaa
open Go.RowKit

def fitsV (k l bits : Int) : Bool := if k = 12 then bits == 0 else if k = 9 then decide (bits ≤ 1) else fitsB bits (longI k l) (signedB k) || (k == 10 || k == 11)

theorem word_FitsIs {n wd : Int} {sg : Bool} (w : World) (h0 : 0 ≤ n) (h1 : n ≤ 18446744073709551615) {b : Bool} (hb : fitsB n wd sg = b) : Calls Try.prog 47 #[.int .u64 n, .int .i64 wd, .bool sg] w fun e w' => e = .returned (.bool b) ∧ w = w' := by
  subst hb; exact word_Fits n wd sg w h0 h1

theorem kind_Right1 (pf pv : Addr) (n : ByteArray) (k l bits : Int) (w : World) (h0 : 0 ≤ bits) (h1 : bits ≤ 18446744073709551615)
    (c0 : w.cell? ⟨pf.block, 0, none⟩ = some (.string n)) (c1 : w.cell? ⟨pf.block, 1, none⟩ = some (.int .i64 k)) (c2 : w.cell? ⟨pf.block, 2, none⟩ = some (.int .i64 l))
    (d1 : w.cell? ⟨pv.block, 1, none⟩ = some (.int .u64 bits)) :
    Calls Try.prog 46 #[.pointer (some ⟨pf.block, 0, none⟩), .pointer (some ⟨pv.block, 0, none⟩)] w fun e w' => e = .returned (.bool (fitsV k l bits)) ∧ Below w.heap.size w w' := by
  by_cases hk : k = 12
  · subst hk
    go_enter Try.func46, Try.ntmps46
    go_wp2_with fail
    go_ret
    exact ⟨by simp [fitsV], Below.refl _ _⟩
  · have hk' : (k == 12) = false := by simpa using hk
    by_cases h9 : k = 9
    · subst h9
      go_enter Try.func46, Try.ntmps46
      go_wp2_with fail
      go_ret
      exact ⟨by simp [fitsV], Below.refl _ _⟩
    · have h9' : (k == 9) = false := by simpa using h9
      have hf : fitsV k l bits = (fitsB bits (longI k l) (signedB k) || (k == 10 || k == 11)) := by simp [fitsV, hk, h9]
      have HF := Lib.hid hf
      clear hf hk h9
      cases hb : fitsB bits (longI k l) (signedB k) with
      | true =>
        have Hb := Lib.hid hb
        clear hb
        have e0 := bwc c0
        have e1 := bwc c1
        have e2 := bwc c2
        have f1 := bwc d1
        go_enter Try.func46, Try.ntmps46
        go_wp2_with fail
        refine wp_region_below (by kernel_rfl) (by kernel_rfl) ?_
        repeat (go_big_quiet_step ((first | (go_at_call 33; exact below_of (kind_Long _ _ _ _)) | (go_at_call 48; exact below_of_same (kind_signed _ _)) | (go_at_call 47; exact below_of_same (word_FitsIs _ h0 h1 Hb.out)))))
        refine wpQuiet_nil ?_
        intro w1 hb1
        go_wp2_with fail
        go_ret
        exact ⟨by rw [HF.out, Hb.out]; rfl, hb1⟩
      | false =>
        have Hb := Lib.hid hb
        clear hb
        have e0 := bwc c0
        have e1 := bwc c1
        have e2 := bwc c2
        have f1 := bwc d1
        by_cases h10 : k = 10
        · subst h10
          go_enter Try.func46, Try.ntmps46
          go_wp2_with fail
          refine wp_region_below (by kernel_rfl) (by kernel_rfl) ?_
          repeat (go_big_quiet_step ((first | (go_at_call 33; exact below_of (kind_Long _ _ _ _)) | (go_at_call 48; exact below_of_same (kind_signed _ _)) | (go_at_call 47; exact below_of_same (word_FitsIs _ h0 h1 Hb.out)))))
          refine wpQuiet_nil ?_
          intro w1 hb1
          go_wp2_with fail
          go_ret
          exact ⟨by rw [HF.out, Hb.out]; rfl, hb1⟩
        · have h10' : (k == 10) = false := by simpa using h10
          clear h10
          go_enter Try.func46, Try.ntmps46
          go_wp2_with fail
          refine wp_region_below (by kernel_rfl) (by kernel_rfl) ?_
          repeat (go_big_quiet_step ((first | (go_at_call 33; exact below_of (kind_Long _ _ _ _)) | (go_at_call 48; exact below_of_same (kind_signed _ _)) | (go_at_call 47; exact below_of_same (word_FitsIs _ h0 h1 Hb.out)))))
          refine wpQuiet_nil ?_
          intro w1 hb1
          go_wp2_with fail
          go_ret
          exact ⟨by rw [HF.out, Hb.out, h10']; rfl, hb1⟩

def valB (v : Vl) (f : Fld) : Bool := mayB f.kind f.long && (v.kind == f.kind && ((v.text.size : Int) == (if f.kind = 12 then f.long else 0) && fitsV f.kind f.long v.bits))

theorem kind_Right (v : Vl) (f : Fld) (w : World) (h0 : 0 ≤ v.bits) (h1 : v.bits ≤ 18446744073709551615) :
    Calls Try.prog 24 #[.agg #[.int .i64 v.kind, .int .u64 v.bits, .string v.text], .agg #[.string f.name, .int .i64 f.kind, .int .i64 f.long]] w fun e w' => e = .returned (.bool (valB v f)) ∧ Below w.heap.size w w' := by
  obtain ⟨vk, bits, tx⟩ := v
  obtain ⟨n, k, l⟩ := f
  dsimp only at h0 h1 ⊢
  by_cases hk : k = 12
  · subst hk
    go_enter Try.func24, Try.ntmps24
    go_wp2_with (first | (go_at_call 49; refine (kind_may _ _ _ _).mono ?_; rintro e w1 ⟨rfl, hb1⟩; obtain ⟨hc1, hf1⟩ := bcell hb1; have hz1 := hb1.size) | (go_at_call 46; refine (kind_Right1 ⟨w.heap.size + 1, 0, none⟩ ⟨w.heap.size, 0, none⟩ n 12 l bits _ h0 h1 (by go_simp) (by go_simp) (by go_simp) (by go_simp)).mono ?_; rintro e w2 ⟨rfl, hb2⟩))
    all_goals go_ret
    all_goals
      have hB1 : Below w.heap.size w w1 := (((Below.refl _ _).alloc (Nat.le_refl _) _).alloc (by simp) _).trans (hb1.mono (by simp; omega))
      refine ⟨?_, by first | exact hB1 | exact hB1.trans (hb2.mono hB1.size)⟩
      go_light
      refine ret_bool ?_
      clear hb1 hc1 hf1 hz1 hB1
      simp [valB, *]
  · have hk' : (k == 12) = false := by simpa using hk
    clear hk
    go_enter Try.func24, Try.ntmps24
    go_wp2_with (first | (go_at_call 49; refine (kind_may _ _ _ _).mono ?_; rintro e w1 ⟨rfl, hb1⟩; obtain ⟨hc1, hf1⟩ := bcell hb1; have hz1 := hb1.size) | (go_at_call 46; refine (kind_Right1 ⟨w.heap.size + 1, 0, none⟩ ⟨w.heap.size, 0, none⟩ n k l bits _ h0 h1 (by go_simp) (by go_simp) (by go_simp) (by go_simp)).mono ?_; rintro e w2 ⟨rfl, hb2⟩))
    all_goals go_ret
    all_goals
      have hB1 : Below w.heap.size w w1 := (((Below.refl _ _).alloc (Nat.le_refl _) _).alloc (by simp) _).trans (hb1.mono (by simp; omega))
      refine ⟨?_, by first | exact hB1 | exact hB1.trans (hb2.mono hB1.size)⟩
      go_light
      refine ret_bool ?_
      clear hb1 hc1 hf1 hz1 hB1
      have hk : ¬ k = 12 := by simpa using hk'
      simp [valB, *]
      try (intro hz; exact absurd (ByteArray.size_eq_zero_iff.1 hz) ‹_›)
end Go.Proofs.Ytdggnnbgiadgaaa
