/- field.Name. -/
import Derived.Test.YtdggnnbgiadgaaaK1
set_option linter.unusedVariables false
namespace Go.Proofs.Ytdggnnbgiadgaaa
open Go.RowKit

def okCh (i c : Nat) : Bool := (decide (97 ≤ c) && decide (c ≤ 122)) || (!(i == 0) && ((decide (48 ≤ c) && decide (c ≤ 57)) || c == 95))
def allOk (s : ByteArray) : Bool := (List.range s.size).all fun i => okCh i (s.data.toList.getD i 0).toNat
def nameB (s : ByteArray) : Bool := allOk s && (decide (1 ≤ s.size) && decide (s.size ≤ 15))

theorem getD_at (s : ByteArray) (i : Nat) (h : i < s.size) : s.data.toList.getD i 0 = s[i] := by
  rw [List.getD_eq_getElem?_getD, List.getElem?_eq_getElem (by simpa using h)]; rfl
theorem allOk_of (s : ByteArray) (h : ∀ i (hi : i < s.size), okCh i (s[i]'hi).toNat = true) : allOk s = true := by
  unfold allOk
  rw [List.all_eq_true]
  intro i hi
  have hi' : i < s.size := by simpa using hi
  rw [getD_at s i hi']; exact h i hi'
theorem allOk_not (s : ByteArray) (i : Nat) (hi : i < s.size) (h : okCh i (s[i]'hi).toNat = false) : allOk s = false := by
  rw [← Bool.not_eq_true]
  intro ha
  unfold allOk at ha
  rw [List.all_eq_true] at ha
  have := ha i (by simpa using hi)
  rw [getD_at s i hi, h] at this
  cases this

theorem next_at (w : World) (s : ByteArray) (pos c : Nat) (ty : TypeId) (h : pos < s.size) (hc : (s[pos]'h).toNat = c) (ha : c < 128) :
    (Instr.next (.pointer (some ⟨w.heap.size, 0, none⟩)) true ty).run Try.prog (w.iter s pos) = .ok (.tuple #[.bool true, .int .i64 pos, .int .i32 c]) (w.iter s (pos + 1)) := by
  subst hc; exact run_next_ascii w s pos ty h ha
theorem next_high (w : World) (s : ByteArray) (pos : Nat) (h : pos < s.size) (ha : 128 ≤ (s[pos]'h).toNat) :
    ∃ r wd : Nat, 128 ≤ r ∧ ∀ ty : TypeId, (Instr.next (.pointer (some ⟨w.heap.size, 0, none⟩)) true ty).run Try.prog (w.iter s pos) = .ok (.tuple #[.bool true, .int .i64 pos, .int .i32 r]) (w.iter s (pos + wd)) :=
  ⟨_, _, (decode_high s pos h ha).1, fun ty => run_next_any w s pos ty h⟩

def Upto (s : ByteArray) (pos : Nat) : Prop := ∀ i (hi : i < s.size), i < pos → okCh i (s[i]'hi).toNat = true
theorem Upto.next {s : ByteArray} {pos c : Nat} (h : Upto s pos) (hlt : pos < s.size) (hc : (s[pos]'hlt).toNat = c) (hok : okCh pos c = true) : Upto s (pos + 1) := by
  intro i hi hip
  by_cases e : i = pos
  · subst e; rw [hc]; exact hok
  · exact h i hi (by omega)
theorem Upto.all {s : ByteArray} {pos : Nat} (h : Upto s pos) (hp : ¬ pos < s.size) : allOk s = true := allOk_of s fun i hi => h i hi (by omega)
theorem name_no {s : ByteArray} {pos c : Nat} (hlt : pos < s.size) (hc : (s[pos]'hlt).toNat = c) (hok : okCh pos c = false) : nameB s = false := by
  unfold nameB; rw [allOk_not s pos hlt (by rw [hc]; exact hok)]; rfl
theorem name_end {s : ByteArray} {pos : Nat} (h : Upto s pos) (hp : ¬ pos < s.size) : nameB s = (decide (1 ≤ s.size) && decide (s.size ≤ 15)) := by
  unfold nameB; rw [h.all hp]; rfl
theorem okCh_a {i c : Nat} (h : 97 ≤ c) (h' : c ≤ 122) : okCh i c = true := by simp [okCh, h, h']
theorem okCh_c {i c : Nat} (hi : i ≠ 0) (h : 48 ≤ c) (h' : c ≤ 57) : okCh i c = true := by simp [okCh, h, h', hi]
theorem okCh_d {i : Nat} (hi : i ≠ 0) : okCh i 95 = true := by simp [okCh, hi]
theorem okCh_b {c : Nat} (h : c < 97 ∨ 122 < c) : okCh 0 c = false := by simp [okCh]; omega
theorem okCh_e {i c : Nat} (h : c < 97 ∨ 122 < c) (h1 : c < 48 ∨ 57 < c) (h2 : c ≠ 95) : okCh i c = false := by simp [okCh, h2]; omega
theorem len_ok {n : Nat} (h : 1 ≤ n) : decide ((n : Int) ≤ 15) = (decide (1 ≤ n) && decide (n ≤ 15)) := by simp [h]; omega
theorem len_no {n : Nat} (h : ¬ 1 ≤ n) : false = (decide (1 ≤ n) && decide (n ≤ 15)) := by simp [h]
theorem below_iter (w : World) (s : ByteArray) (p : Nat) : Below w.heap.size w (w.iter s p) := (Below.refl _ _).alloc (Nat.le_refl _) _

theorem field_Name (s : ByteArray) (w : World) (hs : s.size ≤ 140737488355328) : Calls Try.prog 32 #[.string s] w fun e w' => e = .returned (.bool (nameB s)) ∧ Below w.heap.size w w' := by
  go_enter Try.func32, Try.ntmps32
  go_wp2
  go_loopw [8] (fun _ wr => ∃ pos : Nat, pos ≤ s.size ∧ wr = w.iter s pos ∧ Hid (Upto s pos)) (fun _ wr => s.size - wr.iterPos w.heap.size)
  case atStart => exact ⟨0, Nat.zero_le _, rfl, fun i _ h => absurd h (by omega)⟩
  case round =>
    obtain ⟨pos, hp, rfl, HA⟩ := hrel
    by_cases hlt : pos < s.size
    · obtain ⟨c, hc⟩ : ∃ c, (s[pos]'hlt).toNat = c := ⟨_, rfl⟩
      have hc8 : c < 256 := by rw [← hc]; exact UInt8.toNat_lt _
      by_cases ha : c < 128
      · have hnx := fun ty => next_at w s pos c ty hlt hc ha
        by_cases hA : 97 ≤ c ∧ c ≤ 122
        · obtain ⟨g1, g2⟩ := hA
          have HN : Hid (Upto s (pos + 1)) := HA.out.next hlt hc (okCh_a g1 g2)
          clear hc HA
          go_wp2
          go_roundw
          case rel => exact ⟨pos + 1, by omega, rfl, HN⟩
          case measure => simp; omega
        · have hA' : c < 97 ∨ 122 < c := by omega
          clear hA
          by_cases h0 : pos = 0
          · subst h0
            have HN := Lib.hid (name_no hlt hc (okCh_b hA'))
            clear hc HA
            rcases hA' with g | g
            · have g' : (c : Int) < 97 := by omega
              go_wp2
              go_ret
              exact ⟨by rw [HN.out]; rfl, below_iter _ _ _⟩
            · have g' : (122 : Int) < (c : Int) := by omega
              have d1 : decide ((c : Int) ≤ 122) = false := by simp; omega
              go_wp2
              go_ret
              exact ⟨by rw [HN.out]; rfl, below_iter _ _ _⟩
          · by_cases hC : 48 ≤ c ∧ c ≤ 57
            · obtain ⟨g1, g2⟩ := hC
              have HN : Hid (Upto s (pos + 1)) := HA.out.next hlt hc (okCh_c h0 g1 g2)
              clear hc HA hA'
              go_wp2
              go_roundw
              case rel => exact ⟨pos + 1, by omega, rfl, HN⟩
              case measure => simp; omega
            · have hC' : c < 48 ∨ 57 < c := by omega
              clear hC
              by_cases hD : c = 95
              · subst hD
                have HN : Hid (Upto s (pos + 1)) := HA.out.next hlt hc (okCh_d h0)
                clear hc HA hA' hC'
                go_wp2
                go_roundw
                case rel => exact ⟨pos + 1, by omega, rfl, HN⟩
                case measure => simp; omega
              · have HN := Lib.hid (name_no hlt hc (okCh_e hA' hC' hD))
                have hD' : ((c : Int) != 95) = true := by simp; omega
                clear hc HA hD
                by_cases k : c < 48
                · have k' : (c : Int) < 48 := by omega
                  have d2 : decide ((c : Int) < 48) = true := by simp; omega
                  clear hA' hC' k
                  go_wp2
                  go_ret
                  exact ⟨by rw [HN.out]; rfl, below_iter _ _ _⟩
                · have k1 : (48 : Int) ≤ (c : Int) := by omega
                  have k2 : (57 : Int) < (c : Int) := by omega
                  have d2 : decide ((c : Int) < 48) = false := by simp; omega
                  have d3 : decide ((c : Int) ≤ 57) = false := by simp; omega
                  have d4 : decide ((57 : Int) < (c : Int)) = true := by simp; omega
                  rcases hA' with g | g
                  · have g' : (c : Int) < 97 := by omega
                    clear hC' k
                    go_wp2
                    go_ret
                    exact ⟨by rw [HN.out]; rfl, below_iter _ _ _⟩
                  · have g' : (122 : Int) < (c : Int) := by omega
                    have d1 : decide ((c : Int) ≤ 122) = false := by simp; omega
                    clear hC' k
                    go_wp2
                    go_ret
                    exact ⟨by rw [HN.out]; rfl, below_iter _ _ _⟩
      · obtain ⟨r, wd, hr, hnx⟩ := next_high w s pos hlt (by omega)
        have HN := Lib.hid (name_no hlt hc (okCh_e (by omega) (by omega) (by omega)))
        have h95 : ((r : Int) != 95) = true := by simp; omega
        have g' : (122 : Int) < (r : Int) := by omega
        have k1 : (48 : Int) ≤ (r : Int) := by omega
        have d1 : decide ((r : Int) ≤ 122) = false := by simp; omega
        have d2 : decide ((r : Int) < 48) = false := by simp; omega
        have d3 : decide ((r : Int) ≤ 57) = false := by simp; omega
        have d4 : decide ((57 : Int) < (r : Int)) = true := by simp; omega
        clear hc
        by_cases h0 : pos = 0
        · subst h0
          go_wp2
          go_ret
          exact ⟨by rw [HN.out]; rfl, below_iter _ _ _⟩
        · go_wp2
          go_ret
          exact ⟨by rw [HN.out]; rfl, below_iter _ _ _⟩
    · have hnx := fun ty => run_next_end (P := Try.prog) w s pos ty hlt
      have HN := Lib.hid (name_end HA.out hlt)
      by_cases h1 : 1 ≤ s.size
      all_goals
        go_wp2
        go_ret
        exact ⟨by rw [HN.out]; first | exact ret_bool (len_ok h1) | exact ret_bool (len_no h1), below_iter _ _ _⟩
end Go.Proofs.Ytdggnnbgiadgaaa
