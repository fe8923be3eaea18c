/- kind.Casts. -/
import Derived.Test.YtdggnnbgiadgaaaS0
import Derived.Deep.Light
namespace Go.Proofs.Ytdggnnbgiadgaaa
open Go.RowKit

def castsB (x k y l : Int) : Bool :=
  if longI x k = 0 then false else if longI y l = 0 then false else if x = y then true
  else if x = 9 then plainB y || (signedB y && decide (longI x k < longI y l))
  else if plainB x = true then ((plainB y || signedB y) && decide (longI x k < longI y l)) || y == 10
  else if signedB x = true then (signedB y && decide (longI x k < longI y l)) || y == 10
  else x == 10 && y == 8

theorem ret_bool {a b : Bool} (h : a = b) : Ending.returned (.bool a) = .returned (.bool b) := by rw [h]
theorem ret_int {k : IntKind} {a b : Int} (h : a = b) : Ending.returned (.int k a) = .returned (.int k b) := by rw [h]
theorem bwc {W : World} {a : Addr} {v : Value} (h : W.cell? a = some v) : ∀ p : BW W, p.val.cell? a = some v := fun p => p.cell h

theorem kind_Casts (n m : ByteArray) (x k y l : Int) (w : World) : Calls Try.prog 25 #[.agg #[.string n, .int .i64 x, .int .i64 k], .agg #[.string m, .int .i64 y, .int .i64 l]] w fun e w' => e = .returned (.bool (castsB x k y l)) ∧ Below w.heap.size w w' := by
  go_enter Try.func25, Try.ntmps25
  go_wp2_with fail
  have hB : Below w.heap.size w ((w.alloc (Obj.cells #[.string n, .int .i64 x, .int .i64 k] 43)).alloc (Obj.cells #[.string m, .int .i64 y, .int .i64 l] 43)) := ((Below.refl _ _).alloc (Nat.le_refl _) _).alloc (by simp) _
  have c0 : ((w.alloc (Obj.cells #[.string n, .int .i64 x, .int .i64 k] 43)).alloc (Obj.cells #[.string m, .int .i64 y, .int .i64 l] 43)).cell? ⟨w.heap.size, 0, none⟩ = some (.string n) := by go_simp
  have c1 : ((w.alloc (Obj.cells #[.string n, .int .i64 x, .int .i64 k] 43)).alloc (Obj.cells #[.string m, .int .i64 y, .int .i64 l] 43)).cell? ⟨w.heap.size, 1, none⟩ = some (.int .i64 x) := by go_simp
  have c2 : ((w.alloc (Obj.cells #[.string n, .int .i64 x, .int .i64 k] 43)).alloc (Obj.cells #[.string m, .int .i64 y, .int .i64 l] 43)).cell? ⟨w.heap.size, 2, none⟩ = some (.int .i64 k) := by go_simp
  have d0 : ((w.alloc (Obj.cells #[.string n, .int .i64 x, .int .i64 k] 43)).alloc (Obj.cells #[.string m, .int .i64 y, .int .i64 l] 43)).cell? ⟨w.heap.size + 1, 0, none⟩ = some (.string m) := by go_simp
  have d1 : ((w.alloc (Obj.cells #[.string n, .int .i64 x, .int .i64 k] 43)).alloc (Obj.cells #[.string m, .int .i64 y, .int .i64 l] 43)).cell? ⟨w.heap.size + 1, 1, none⟩ = some (.int .i64 y) := by go_simp
  have d2 : ((w.alloc (Obj.cells #[.string n, .int .i64 x, .int .i64 k] 43)).alloc (Obj.cells #[.string m, .int .i64 y, .int .i64 l] 43)).cell? ⟨w.heap.size + 1, 2, none⟩ = some (.int .i64 l) := by go_simp
  generalize hW : (w.alloc (Obj.cells #[.string n, .int .i64 x, .int .i64 k] 43)).alloc (Obj.cells #[.string m, .int .i64 y, .int .i64 l] 43) = W at *
  clear hW
  have e0 := bwc c0
  have e1 := bwc c1
  have e2 := bwc c2
  have f0 := bwc d0
  have f1 := bwc d1
  have f2 := bwc d2
  refine wp_region_below (by kernel_rfl) (by kernel_rfl) ?_
  repeat (go_big_quiet_step ((go_at_call 33; exact below_of (kind_Long _ _ _ _))))
  refine wpQuiet_nil ?_
  intro w1 hb1
  replace c1 := e1 ⟨w1, hb1⟩
  replace d1 := f1 ⟨w1, hb1⟩
  clear c0 c2 d0 d2 e0 e1 e2 f0 f1 f2
  dsimp only at c1 d1 ⊢
  replace hB := hB.trans (hb1.mono hB.size)
  go_wp2_with fail
  go_quiet (fail)
  go_wp2_with (first | (go_at_call 50; refine (kind_plain _ _).mono ?_; rintro e w' ⟨rfl, rfl⟩) | (go_at_call 48; refine (kind_signed _ _).mono ?_; rintro e w' ⟨rfl, rfl⟩))
  all_goals go_ret
  all_goals refine ⟨?_, below_drewN hB nq⟩
  all_goals (go_light; refine ret_bool ?_; clear c1 d1 hb1 hB)
  all_goals (try simp only [beq_iff_eq, beq_eq_false_iff_ne] at *)
  all_goals first | (unfold castsB; simp [*]; done) | grind [castsB]
end Go.Proofs.Ytdggnnbgiadgaaa
