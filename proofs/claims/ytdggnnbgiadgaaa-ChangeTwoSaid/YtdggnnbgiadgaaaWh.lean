/- math.Trunc, kind.Whole. -/
import Derived.Test.YtdggnnbgiadgaaaFl
set_option linter.unusedVariables false
namespace Go.Proofs.Ytdggnnbgiadgaaa
open Go.RowKit

theorem call_frombits (n : Int) (w : World) : (callFunc 72 #[.int .u64 n]).run Try.prog w = .ok (.value (.float .f64 n.toNat)) w := by
  rw [run_callFunc_extern Try.func72 (by kernel_rfl) (by kernel_rfl) (by kernel_rfl) (e := Extern.MathFloatBits.float64frombits) (by kernel_rfl)]
  rfl
theorem call_bits (b : Nat) (w : World) : (callFunc 59 #[.float .f64 b]).run Try.prog w = .ok (.value (.int .u64 (b : Int))) w := by
  rw [run_callFunc_extern Try.func59 (by kernel_rfl) (by kernel_rfl) (by kernel_rfl) (e := Extern.MathFloatBits.float64bits) (by kernel_rfl)]
  rfl
def truncSem (x : Nat) : Sem Value := match FloatKind.f64.decode x with
  | .nan s t =>
    if FloatKind.f64.format.quiet t = t then pure (.float .f64 x) else do
    let kept ← choose (.extern "math.Floor,Ceil,Trunc,RoundToEven.signallingNaN kept" 2)
    pure (.float .f64 (if kept == 1 then x else FloatKind.f64.encode (.nan s (FloatKind.f64.format.quiet t))))
  | d => pure (.float .f64 (FloatKind.f64.encode (d.integral .zero)))
theorem call_truncSem (x : Nat) (w : World) : (callFunc 88 #[.float .f64 x]).run Try.prog w = ((truncSem x).run Try.prog w).andThen fun v w' => .ok (.value v) w' := by
  rw [run_callFunc_extern Try.func88 (by kernel_rfl) (by kernel_rfl) (by kernel_rfl) (e := Extern.MathFloor.toIntegral "math.archTrunc" .zero) (by kernel_rfl)]
  rfl
theorem call_trunc (x : Nat) (w : World) (h : isNan (dbl.read x) = false) : (callFunc 88 #[.float .f64 x]).run Try.prog w = .ok (.value (.float .f64 (truncN x))) w := by
  rw [call_truncSem]
  unfold truncSem truncN
  cases hd : dbl.read x with
  | nan s t => rw [hd] at h; cases h
  | number s m e =>
    have hd' : FloatKind.f64.decode x = .number s m e := hd
    rw [hd']; rfl
  | infinity s =>
    have hd' : FloatKind.f64.decode x = .infinity s := hd
    rw [hd']; rfl
/-- A NaN stays one; a signalling one may be made quiet. -/
theorem call_trunc_nan (x : Nat) (w : World) (h : isNan (dbl.read x) = true) : ∃ y w', (callFunc 88 #[.float .f64 x]).run Try.prog w = .ok (.value (.float .f64 y)) w' ∧ isNan (dbl.read y) = true ∧ (w' = w ∨ w' = w.drew) := by
  rw [call_truncSem]
  unfold truncSem
  cases hd : dbl.read x with
  | number s m e => rw [hd] at h; cases h
  | infinity s => rw [hd] at h; cases h
  | nan s t =>
    have hd' : FloatKind.f64.decode x = .nan s t := hd
    have hn : isNan (dbl.read (FloatKind.f64.encode (.nan s (FloatKind.f64.format.quiet t)))) = true := nan_write_nan s t (read_nan hd)
    rw [hd']
    dsimp only
    by_cases hq : FloatKind.f64.format.quiet t = t
    · rw [if_pos hq]
      exact ⟨x, w, rfl, h, .inl rfl⟩
    · rw [if_neg hq]
      simp only [Sem.run_bind, run_choose_drew]
      split
      · refine ⟨_, _, rfl, ?_, .inl rfl⟩
        split
        · exact h
        · exact hn
      · refine ⟨_, _, rfl, ?_, .inr rfl⟩
        split
        · exact h
        · exact hn

set_option maxRecDepth 100000 in
theorem math_Trunc (x : Nat) (w : World) (h : isNan (dbl.read x) = false) : Calls Try.prog 71 #[.float .f64 x] w fun e w' => e = .returned (.float .f64 (truncN x)) ∧ w = w' := by
  have hc := call_trunc x w h
  clear h
  go_enter Try.func71, Try.ntmps71
  go_wp2_with fail
  go_ret
  exact ⟨rfl, rfl⟩
def RetNan (w : World) (e : Ending) (w' : World) : Prop := ∃ y, e = .returned (.float .f64 y) ∧ isNan (dbl.read y) = true ∧ Below w.heap.size w w'
set_option maxRecDepth 100000 in
theorem math_TruncNan (x : Nat) (w : World) (h : isNan (dbl.read x) = true) : Calls Try.prog 71 #[.float .f64 x] w (RetNan w) := by
  obtain ⟨y, w1, hc, hy, hw⟩ := call_trunc_nan x w h
  have hb : Below w.heap.size w w1 := by
    rcases hw with rfl | rfl
    · exact Below.refl _ _
    · exact (Below.refl _ _).drew
  have HY := Lib.hid hy
  clear h hy hw
  go_enter Try.func71, Try.ntmps71
  go_wp2_with fail
  go_ret
  exact ⟨y, rfl, HY.out, hb⟩

def wholeI (n : Nat) : Int :=
  if isNan (dbl.read n) = true then 0
  else if (FloatKind.f64.format.order (truncN n) 4890909195324358656 == some .gt || FloatKind.f64.format.order (truncN n) 4890909195324358656 == some .eq) = true then 9223372036854775807
  else if (FloatKind.f64.format.order (truncN n) 14114281232179134464 == some .lt) = true then -9223372036854775808
  else ((dbl.read (truncN n)).toInt .zero).getD 0
theorem wholeI_range (n : Nat) : -9223372036854775808 ≤ wholeI n ∧ wholeI n ≤ 9223372036854775807 := by
  unfold wholeI
  split
  · omega
  · rename_i h
    split
    · omega
    · split
      · omega
      · rename_i h1 h2
        obtain ⟨k, hk, h3, h4⟩ := fits_i64 (nan_trunc (by simpa using h)) (by simpa using h1) (by simpa using h2)
        rw [hk]
        exact ⟨h3, h4⟩

theorem kind_Whole (n : Int) (w : World) : Calls Try.prog 60 #[.int .u64 n] w fun e w' => e = .returned (.int .i64 (wholeI n.toNat)) ∧ Below w.heap.size w w' := by
  have hfb := call_frombits n w
  cases hn : isNan (dbl.read n.toNat) with
  | true =>
    have HW : Hid (wholeI n.toNat = 0) := by unfold wholeI; rw [if_pos hn]; exact rfl
    have HN := Lib.hid hn
    clear hn
    go_enter Try.func60, Try.ntmps60
    go_wp2_with fail
    refine (math_TruncNan n.toNat _ HN.out).mono ?_
    rintro e w1 ⟨y, rfl, hy, hb⟩
    have ho := order_nan hy
    clear hy hfb
    go_wp2_with fail
    go_ret
    exact ⟨by rw [HW.out]; rfl, hb⟩
  | false =>
    have hx := nan_trunc hn
    have ho := order_self hx
    have HN := Lib.hid hn
    have h1 : ∃ b, (FloatKind.f64.format.order (truncN n.toNat) 4890909195324358656 == some .gt || FloatKind.f64.format.order (truncN n.toNat) 4890909195324358656 == some .eq) = b := ⟨_, rfl⟩
    have h2 : ∃ b, (FloatKind.f64.format.order (truncN n.toNat) 14114281232179134464 == some .lt) = b := ⟨_, rfl⟩
    obtain ⟨b1, h1⟩ := h1
    obtain ⟨b2, h2⟩ := h2
    cases b1 with
    | true =>
      have HW : Hid (wholeI n.toNat = 9223372036854775807) := by unfold wholeI; rw [if_neg (by simp [hn]), if_pos h1]; exact rfl
      clear hn hx h2
      go_enter Try.func60, Try.ntmps60
      go_wp2_with fail
      refine (math_Trunc n.toNat _ HN.out).mono ?_
      rintro e w1 ⟨rfl, rfl⟩
      go_wp2_with fail
      go_ret
      exact ⟨by rw [HW.out]; rfl, Below.refl _ _⟩
    | false =>
      cases b2 with
      | true =>
        have HW : Hid (wholeI n.toNat = -9223372036854775808) := by unfold wholeI; rw [if_neg (by simp [hn]), if_neg (by rw [h1]; decide), if_pos h2]; exact rfl
        clear hn hx
        go_enter Try.func60, Try.ntmps60
        go_wp2_with fail
        refine (math_Trunc n.toNat _ HN.out).mono ?_
        rintro e w1 ⟨rfl, rfl⟩
        go_wp2_with fail
        go_ret
        exact ⟨by rw [HW.out]; rfl, Below.refl _ _⟩
      | false =>
        obtain ⟨k, hk, h3, h4⟩ := fits_i64 hx h1 h2
        have HW : Hid (wholeI n.toNat = k) := by unfold wholeI; rw [if_neg (by simp [hn]), if_neg (by rw [h1]; decide), if_neg (by rw [h2]; decide), hk]; exact rfl
        have hv : floatToIntVal .f64 (truncN n.toNat) .i64 = some k := by
          unfold floatToIntVal
          have : (FloatKind.f64.decode (truncN n.toNat)).toInt .zero = some k := hk
          rw [this]
          dsimp only
          rw [if_pos ⟨h3, h4⟩]
        have hcv := fun w => run_convert_float_int (P := Try.prog) w 91 2 .f64 .i64 (truncN n.toNat) k (by rw [Try.underlying91]; rfl) Try.underlying2 hv
        clear hn hx hk hv
        go_enter Try.func60, Try.ntmps60
        go_wp2_with fail
        refine (math_Trunc n.toNat _ HN.out).mono ?_
        rintro e w1 ⟨rfl, rfl⟩
        go_wp2_with fail
        go_ret
        exact ⟨by rw [HW.out]; rfl, Below.refl _ _⟩
end Go.Proofs.Ytdggnnbgiadgaaa
