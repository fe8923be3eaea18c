/- '==' of structs as one Bool. -/
import Derived.Test.YtdggnnbgiadgaaaF2
set_option linter.unusedVariables false
namespace Go.Proofs.Ytdggnnbgiadgaaa
open Go.RowKit
def fldEq (a b : Fld) : Bool := a.name.toList == b.name.toList && (a.kind == b.kind && (a.long == b.long))
def vlEq (a b : Vl) : Bool := a.kind == b.kind && (a.bits == b.bits && (a.text.toList == b.text.toList))
theorem eqFld_run (d : Nat) (w : World) (n m : ByteArray) (k l p q : Int) : (Op.equalIn (d + 2) 43 (.agg #[.string n, .int .i64 k, .int .i64 p]) (.agg #[.string m, .int .i64 l, .int .i64 q])).run Try.prog w = .ok (fldEq ⟨n, k, p⟩ ⟨m, l, q⟩) w := by
  rw [run_equalIn_struct (P := Try.prog) w (d + 1) 43 _ _ (by simp [Program.fieldsOf, Try.underlying43]) (by kernel_rfl)]
  simp only [Program.fieldsOf, Try.underlying43]
  go_simp
  unfold fldEq
  repeat' split
  all_goals simp_all
theorem eqVl_run (d : Nat) (w : World) (n m : ByteArray) (k l p q : Int) : (Op.equalIn (d + 2) 46 (.agg #[.int .i64 k, .int .u64 p, .string n]) (.agg #[.int .i64 l, .int .u64 q, .string m])).run Try.prog w = .ok (vlEq ⟨k, p, n⟩ ⟨l, q, m⟩) w := by
  rw [run_equalIn_struct (P := Try.prog) w (d + 1) 46 _ _ (by simp [Program.fieldsOf, Try.underlying46]) (by kernel_rfl)]
  simp only [Program.fieldsOf, Try.underlying46]
  go_simp
  unfold vlEq
  repeat' split
  all_goals simp_all
theorem toList_inj {a b : ByteArray} (h : a.toList = b.toList) : a = b := by
  rw [ByteArray.toList_eq, ByteArray.toList_eq] at h
  obtain ⟨x⟩ := a
  obtain ⟨y⟩ := b
  exact congrArg ByteArray.mk (Array.toList_inj.1 h)
theorem fldEq_iff (a b : Fld) : fldEq a b = true ↔ a = b := by
  obtain ⟨n, k, p⟩ := a; obtain ⟨m, l, q⟩ := b
  simp only [fldEq, Bool.and_eq_true, beq_iff_eq, Fld.mk.injEq]
  exact ⟨fun ⟨h1, h2, h3⟩ => ⟨toList_inj h1, h2, h3⟩, fun ⟨h1, h2, h3⟩ => ⟨by rw [h1], h2, h3⟩⟩
theorem vlEq_iff (a b : Vl) : vlEq a b = true ↔ a = b := by
  obtain ⟨n, k, p⟩ := a; obtain ⟨m, l, q⟩ := b
  simp only [vlEq, Bool.and_eq_true, beq_iff_eq, Vl.mk.injEq]
  exact ⟨fun ⟨h1, h2, h3⟩ => ⟨h1, h2, toList_inj h3⟩, fun ⟨h1, h2, h3⟩ => ⟨h1, h2, by rw [h3]⟩⟩
theorem nmEq_iff (a b : ByteArray) : nmEq a b = true ↔ a = b := by
  simp only [nmEq, beq_iff_eq]
  exact ⟨fun h => toList_inj h, fun h => by rw [h]⟩
end Go.Proofs.Ytdggnnbgiadgaaa
