/- alive. -/
import Derived.Test.YtdggnnbgiadgaaaLw2
set_option linter.unusedVariables false
namespace Go.Proofs.Ytdggnnbgiadgaaa
open Go.RowKit

theorem rs_blk {α : Type} {F : Flat α} {W : World} {g : Nat} {t : TypeId} {cs : Array Value} {xs : List α} (h : Blk W g t cs) (hc : cs.toList = F.cells xs) : RS F W (some ⟨g, 0, none⟩) xs := fun i u hi => by
  refine ⟨_, rfl, ?_⟩
  have e : (⟨g, 0, none⟩ : Addr).add i = ⟨g, i, none⟩ := by unfold Addr.add; split <;> simp_all
  rw [e]
  refine h.cellIs i u ?_
  rw [← Array.getElem?_toList, hc]
  exact hi
theorem add_zero_addr (a : Addr) : a.add 0 = a := by unfold Addr.add; simp
theorem rs_first {w : World} {A : Option Addr} {f : Fld} {l : List Fld} (h : RS FF w A (f :: l)) : ∃ ad, A = some ad ∧ w.cell? ad = some (.string f.name) ∧ w.cell? ⟨ad.block, ad.off + 1, none⟩ = some (.int .i64 f.kind) ∧ w.cell? ⟨ad.block, ad.off + 2, none⟩ = some (.int .i64 f.long) := by
  obtain ⟨ad, g, e, hg, h0, h1, h2⟩ := h.fld (k := 0) (by simp)
  simp at hg
  subst hg
  simp only [Nat.zero_mul, add_zero_addr] at h0 h1 h2
  exact ⟨ad, e, h0, h1, h2⟩
theorem rs_first_mv {w : World} {A : Option Addr} {m : Mv} {l : List Mv} (h : RS FM w A (m :: l)) : ∃ ad, A = some ad ∧ w.cell? ad = some (.int .i64 m.src) ∧ w.cell? ⟨ad.block, ad.off + 1, none⟩ = some (.int .i64 m.dflt.kind) ∧ w.cell? ⟨ad.block, ad.off + 2, none⟩ = some (.int .u64 m.dflt.bits) ∧ w.cell? ⟨ad.block, ad.off + 3, none⟩ = some (.string m.dflt.text) := by
  obtain ⟨ad, g, e, hg, h0, h1, h2, h3⟩ := h.mv (k := 0) (by simp)
  simp at hg
  subst hg
  simp only [Nat.zero_mul, add_zero_addr] at h0 h1 h2 h3
  exact ⟨ad, e, h0, h1, h2, h3⟩
def aF : Fld := ⟨⟨#[97]⟩, 1, 0⟩
def aC1 : Ch := ⟨4, ⟨#[97]⟩, ⟨⟨#[]⟩, 2, 0⟩, ⟨0, 0, ⟨#[]⟩⟩, []⟩
def aC2 : Ch := ⟨4, ⟨#[97]⟩, ⟨⟨#[]⟩, 5, 0⟩, ⟨0, 0, ⟨#[]⟩⟩, []⟩
def aC3 : Ch := ⟨3, ⟨#[97]⟩, ⟨⟨#[98]⟩, 0, 0⟩, ⟨0, 0, ⟨#[]⟩⟩, []⟩
theorem aM1 : makeT [aF] aC1 = (⟨[aF], [⟨⟨#[97]⟩, 2, 0⟩], [⟨0, Vl.zero⟩]⟩, 0) := by kernel_rfl
theorem aM2 : makeT [aF] aC2 = (Tb.zero, 80) := by kernel_rfl
theorem aM3 : makeT [aF] aC3 = (⟨[aF], [⟨⟨#[98]⟩, 1, 0⟩], [⟨0, Vl.zero⟩]⟩, 0) := by kernel_rfl
theorem aOk : FsOk [aF] := ⟨by decide, fun f hf => by simp at hf; subst hf; exact ⟨by decide, by decide, by decide⟩⟩
theorem aC1ok : ChOk aC1 := ⟨⟨by decide, by decide, by decide⟩, ⟨by decide, by decide, by decide⟩, by decide, by decide, fun n hn => by simp [aC1] at hn⟩
theorem aC2ok : ChOk aC2 := ⟨⟨by decide, by decide, by decide⟩, ⟨by decide, by decide, by decide⟩, by decide, by decide, fun n hn => by simp [aC2] at hn⟩
theorem aC3ok : ChOk aC3 := ⟨⟨by decide, by decide, by decide⟩, ⟨by decide, by decide, by decide⟩, by decide, by decide, fun n hn => by simp [aC3] at hn⟩
def RetTab3 (w : World) (r : Tb × Int) (e : Ending) (w' : World) : Prop := ∃ A0 c0 A1 c1 A2 c2, e = .returned (.tuple #[.agg #[.slice A0 r.1.old.length c0, .slice A1 r.1.new.length c1, .slice A2 r.1.moves.length c2], .int .i64 r.2]) ∧ RS FF w' A1 r.1.new ∧ RS FM w' A2 r.1.moves ∧ r.1.new.length ≤ c1 ∧ r.1.moves.length ≤ c2 ∧ Below w.heap.size w w'
theorem make_at (c : Ch) (W : World) (g : Nat) (hb : Blk W g 43 #[.string ⟨#[97]⟩, .int .i64 1, .int .i64 0]) (hc : ChOk c) (h0 : c.order = []) (r : Tb × Int) (hm : makeT [aF] c = r) :
    Calls Try.prog 15 #[.slice (some ⟨g, 0, none⟩) 1 1, .agg #[.int .i64 c.op, .string c.name, .string c.dst.name, .int .i64 c.dst.kind, .int .i64 c.dst.long, .int .i64 c.dflt.kind, .int .u64 c.dflt.bits, .string c.dflt.text, .slice none 0 0]] W (RetTab3 W r) := by
  have h := change_Make [aF] c (some ⟨g, 0, none⟩) none 1 0 W (rs_blk hb rfl) aOk (Nat.le_refl _) (by rw [h0]; exact RS.nil) (by rw [h0]; exact Nat.le_refl _) hc (by rw [h0]; exact Nat.zero_le _)
  rw [hm] at h
  unfold chCells at h
  rw [h0] at h
  refine h.mono ?_
  rintro e w1 ⟨v, rfl, ht, hb1, -⟩
  obtain ⟨A0, c0, A1, c1, A2, c2, rfl, o0, o1, o2, -⟩ := ht
  exact ⟨A0, c0, A1, c1, A2, c2, rfl, o1.at_.2, o2.at_.2, o1.at_.1, o2.at_.1, hb1⟩
theorem apply_at (c : Ch) (W : World) (g : Nat) (hb : Blk W g 43 #[.string ⟨#[97]⟩, .int .i64 1, .int .i64 0]) (hc : ChOk c) (h0 : c.order = []) (r : Tb × Int) (hm : makeT [aF] c = r) :
    Calls Try.prog 13 #[.slice (some ⟨g, 0, none⟩) 1 1, .agg #[.int .i64 c.op, .string c.name, .string c.dst.name, .int .i64 c.dst.kind, .int .i64 c.dst.long, .int .i64 c.dflt.kind, .int .u64 c.dflt.bits, .string c.dflt.text, .slice none 0 0]] W (RetFE W r.1.new r.2) := by
  have h := change_Apply [aF] c (some ⟨g, 0, none⟩) none 1 0 W (rs_blk hb rfl) aOk (Nat.le_refl _) (by rw [h0]; exact RS.nil) (by rw [h0]; exact Nat.le_refl _) hc (by rw [h0]; exact Nat.zero_le _)
  rw [hm] at h
  unfold chCells at h
  rw [h0] at h
  exact h
set_option maxHeartbeats 1000000 in
set_option maxRecDepth 100000 in
theorem law_alive (w : World) : Calls Try.prog 6 #[] w fun e w' => e = .returned (.bool true) ∧ Below w.heap.size w w' := by
  obtain ⟨W, hW⟩ : ∃ W, W = w.alloc (Obj.cells #[.string ⟨#[97]⟩, .int .i64 1, .int .i64 0] 43) := ⟨_, rfl⟩
  have b0 : Blk W w.heap.size 43 #[.string ⟨#[97]⟩, .int .i64 1, .int .i64 0] := hW ▸ Blk.new _ _ _
  have hB0 : Below w.heap.size w W := hW ▸ (Below.refl _ _).alloc (Nat.le_refl _) _
  have H1 := Lib.hid aM1
  have H2 := Lib.hid aM2
  have H3 := Lib.hid aM3
  have heq : ∀ w, (binOp .eql 57 (.agg #[.int .i64 0, .int .i64 0, .int .u64 0, .string ⟨#[]⟩]) (.agg #[.int .i64 0, .int .i64 0, .int .u64 0, .string ⟨#[]⟩])).run Try.prog w = .ok (.bool true) w := fun w => by kernel_rfl
  go_enter Try.func6, Try.ntmps6
  go_upto_region 2 with fail
  rw [← hW]
  clear hW
  go_wp2_with fail
  refine (make_at aC1 W w.heap.size b0 aC1ok rfl _ H1.out).mono ?_
  rintro e w1 ⟨A0, c0, A1, c1, A2, c2, rfl, r1, r2, l1, l2, hb1⟩
  dsimp only [aF, List.length_cons, List.length_nil] at *
  obtain ⟨a1, rfl, p0, p1, p2⟩ := rs_first r1
  obtain ⟨a2, rfl, m0, m1, m2, m3⟩ := rs_first_mv r2
  dsimp only [Vl.zero] at *
  clear r1 r2
  obtain ⟨W2, hW2⟩ : ∃ W2, W2 = w1.alloc (Obj.cells #[.slice A0 1 c0, .slice (some a1) 1 c1, .slice (some a2) 1 c2] 28) := ⟨_, rfl⟩
  have t2 : Blk W2 w1.heap.size 28 #[.slice A0 1 c0, .slice (some a1) 1 c1, .slice (some a2) 1 c2] := hW2 ▸ Blk.new _ _ _
  have hB2 : Below w1.heap.size w1 W2 := hW2 ▸ (Below.refl _ _).alloc (Nat.le_refl _) _
  have b2 := (b0.below hb1).below hB2
  have hBB2 : Below w.heap.size w W2 := (hB0.trans (hb1.mono hB0.size)).trans (hB2.mono (hB0.trans (hb1.mono hB0.size)).size)
  have q0 := keepc hB2 p0
  have q1 := keepc hB2 p1
  have k0 := keepc hB2 m0
  have k1 := keepc hB2 m1
  have k2 := keepc hB2 m2
  have k3 := keepc hB2 m3
  clear p0 p1 p2 m0 m1 m2 m3 hB0 hb1 hB2 b0
  go_upto_region 3 with fail
  rw [← hW2]
  clear hW2
  go_wp2_with fail
  refine (make_at aC2 W2 w.heap.size b2 aC2ok rfl _ H2.out).mono ?_
  rintro e w3 ⟨D0, d0, D1, d1, D2, d2, rfl, -, -, -, -, hb3⟩
  dsimp only [Tb.zero, List.length_nil] at *
  obtain ⟨W4, hW4⟩ : ∃ W4, W4 = w3.alloc (Obj.cells #[.slice D0 0 d0, .slice D1 0 d1, .slice D2 0 d2] 28) := ⟨_, rfl⟩
  have hB4 : Below w3.heap.size w3 W4 := hW4 ▸ (Below.refl _ _).alloc (Nat.le_refl _) _
  have hB34 : Below W2.heap.size W2 W4 := hb3.trans (hB4.mono hb3.size)
  have b4 := b2.below hB34
  go_upto_region 4 with fail
  rw [← hW4]
  clear hW4
  go_wp2_with fail
  refine (apply_at aC3 W4 w.heap.size b4 aC3ok rfl _ H3.out).mono ?_
  rintro e w5 ⟨E, ec, rfl, le, re, hb5⟩
  dsimp only [List.length_cons, List.length_nil] at *
  obtain ⟨a5, rfl, s0, s1, s2⟩ := rs_first re
  dsimp only at *
  have hB25 : Below W2.heap.size W2 w5 := hB34.trans (hb5.mono hB34.size)
  have t5 := t2.below hB25
  have u1 := t5.cellIs 1 (.slice (some a1) 1 c1) rfl
  have u2 := t5.cellIs 2 (.slice (some a2) 1 c2) rfl
  have v0 := keepc hB25 q0
  have v1 := keepc hB25 q1
  have x0 := keepc hB25 k0
  have x1 := keepc hB25 k1
  have x2 := keepc hB25 k2
  have x3 := keepc hB25 k3
  have hBB : Below w.heap.size w w5 := hBB2.trans (hB25.mono hBB2.size)
  clear q0 q1 k0 k1 k2 k3 t2 b2 b4 hb3 hB4 hB34 hb5 re t5
  go_wp2_with fail
  go_ret
  exact ⟨rfl, hBB⟩
end Go.Proofs.Ytdggnnbgiadgaaa
