/- change.orders, joined; change.named. -/
import Derived.Test.YtdggnnbgiadgaaaOrd
set_option linter.unusedVariables false
namespace Go.Proofs.Ytdggnnbgiadgaaa
open Go.RowKit

theorem change_orders (t : Tb) (c : Ch) (v : Value) (A : Option Addr) (cp base : Nat) (w : World) (hv : OwnTab w base v t) (hb : base ≤ w.heap.size) (ho : RS FI w A c.order) (hlc : c.order.length ≤ cp)
    (hl : c.order.length ≤ 40000) (hn : t.old.length ≤ 40000) :
    Calls Try.prog 31 #[v, .agg (chCells c A cp)] w (RetTE w base (ordersT t c)) := by
  unfold ordersT
  by_cases h : sorted c.order = upto t.old.length
  · rw [if_pos h]; exact change_ordersYes t c v A cp base w hv hb ho hlc hl hn h
  · rw [if_neg h]; exact change_ordersNo t c v A cp base w hv hb ho hlc hl hn h

def dropsS (t : Tb) (c : Ch) (k : Nat) : Tb × Int := (dropsT t k, 0)
def renamesS (t : Tb) (c : Ch) (k : Nat) : Tb × Int := (renamesT t c k, 0)
def namedT (s : Tb → Ch → Nat → Tb × Int) (t : Tb) (c : Ch) : Tb × Int := if findI t.old c.name < 0 then (t, 61) else s t c (findI t.old c.name).toNat

theorem findFrom_cases (l : List Fld) (nm : ByteArray) (i : Nat) : findFrom l nm i = -1 ∨ ∃ k : Nat, findFrom l nm i = ((i + k : Nat) : Int) ∧ k < l.length := by
  induction l generalizing i with
  | nil => exact .inl rfl
  | cons f l ih =>
    unfold findFrom
    by_cases h : nmEq f.name nm = true
    · exact .inr ⟨0, by simp [h], by simp⟩
    · rcases ih (i + 1) with h1 | ⟨k, h1, h2⟩
      · exact .inl (by simp [h, h1])
      · exact .inr ⟨k + 1, by simp [h, h1]; omega, by simp; omega⟩
theorem findI_cases (l : List Fld) (nm : ByteArray) : findI l nm = -1 ∨ ∃ k : Nat, findI l nm = (k : Int) ∧ k < l.length := by
  rcases findFrom_cases l nm 0 with h | ⟨k, h1, h2⟩
  · exact .inl h
  · exact .inr ⟨k, by unfold findI; rw [h1]; simp, h2⟩

theorem change_namedDrop (t : Tb) (c : Ch) (v : Value) (A : Option Addr) (cp base : Nat) (p : Addr) (w : World) (hv : OwnTab w base v t) (hb : base ≤ w.heap.size)
    (hn : t.old.length ≤ 40000) (hp : w.cell? p = some (.func (.func 28) #[] #[]))
    (hf : ∀ (k : Nat) (w' : World), k < t.old.length → OwnTab w' base v t → base ≤ w'.heap.size → Calls Try.prog 28 #[v, .agg (chCells c A cp), .int .i64 k] w' (RetTE w' base (dropsS t c k))) :
    Calls Try.prog 51 #[v, .agg (chCells c A cp), .pointer (some p)] w (RetTE w base (namedT (dropsS) t c)) := by
  obtain ⟨old, new, moves⟩ := t
  obtain ⟨op, cn, ⟨tn, tk, tl⟩, ⟨dk, db, dt⟩, order⟩ := c
  have hv0 := hv
  obtain ⟨A0, c0, A1, c1, A2, c2, rfl, o0, o1, o2, hne⟩ := hv
  dsimp only at *
  obtain ⟨W, hW⟩ : ∃ W, W = ((w.alloc (Obj.cells #[.slice A0 old.length c0, .slice A1 new.length c1, .slice A2 moves.length c2] 28)).alloc (Obj.cells (chCells ⟨op, cn, ⟨tn, tk, tl⟩, ⟨dk, db, dt⟩, order⟩ A cp) 52)).alloc (Obj.cells #[.slice none 0 0, .slice none 0 0, .slice none 0 0] 28) := ⟨_, rfl⟩
  have b0 : Blk W w.heap.size 28 #[.slice A0 old.length c0, .slice A1 new.length c1, .slice A2 moves.length c2] := by rw [hW]; exact ((Blk.new _ _ _).alloc _).alloc _
  have b1 : Blk W (w.heap.size + 1) 52 (chCells ⟨op, cn, ⟨tn, tk, tl⟩, ⟨dk, db, dt⟩, order⟩ A cp) := by rw [hW]; exact (Blk.second _ _ _ _).alloc _
  have b2 : Blk W (w.heap.size + 2) 28 #[.slice none 0 0, .slice none 0 0, .slice none 0 0] := by
    rw [hW]
    have := Blk.new ((w.alloc (Obj.cells #[.slice A0 old.length c0, .slice A1 new.length c1, .slice A2 moves.length c2] 28)).alloc (Obj.cells (chCells ⟨op, cn, ⟨tn, tk, tl⟩, ⟨dk, db, dt⟩, order⟩ A cp) 52)) 28 #[.slice none 0 0, .slice none 0 0, .slice none 0 0]
    simpa using this
  have hB : Below w.heap.size w W := by rw [hW]; exact (below_two _ _ _).alloc (by simp; omega) _
  have hv1 := hv0.below hB
  have hp1 := keepc hB hp
  have r0 := o0.at_.2.below hB
  have hc0 := o0.at_.1
  have u1 := b1.cellIs 1 (.string cn) rfl
  have u0 := b0.cellIs 0 (.slice A0 old.length c0) rfl
  clear o0 o1 o2
  go_enter Try.func51, Try.ntmps51
  go_upto_region 1 with fail
  rw [← hW]
  clear hW
  go_wp2_with fail
  refine (field_Find old A0 c0 cn W r0 (by omega) hc0).mono ?_
  rintro e w1 ⟨rfl, hb1⟩
  have d0 := b0.below hb1
  have d1 := b1.below hb1
  have d2 := b2.below hb1
  have hv2 := hv1.below hb1
  have hp2 := keepc hb1 hp1
  have hB1 : Below w.heap.size w w1 := hB.trans (hb1.mono hB.size)
  clear u0 u1 b0 b1 b2 hv1 hp1 r0 hb1 hB hp hv0
  have x0 := d0.cellIs 0 (.slice A0 old.length c0) rfl
  have x1 := d0.cellIs 1 (.slice A1 new.length c1) rfl
  have x2 := d0.cellIs 2 (.slice A2 moves.length c2) rfl
  rcases findI_cases old cn with hk | ⟨k, hk, hkl⟩
  · have HR : Hid (namedT (dropsS) ⟨old, new, moves⟩ ⟨op, cn, ⟨tn, tk, tl⟩, ⟨dk, db, dt⟩, order⟩ = (⟨old, new, moves⟩, 61)) := by unfold namedT; dsimp only; rw [hk]; rfl
    rw [hk]
    clear hk hf hp2
    have y0 := d2.cellIs 0 (.slice none 0 0) rfl
    have y1 := d2.cellIs 1 (.slice none 0 0) rfl
    have y2 := d2.cellIs 2 (.slice none 0 0) rfl
    have z0 := d2.frozen 0
    have z1 := d2.frozen 1
    have z2 := d2.frozen 2
    go_wp2_with fail
    refine bodyPost_ret (v := .tuple #[.agg #[.slice A0 old.length c0, .slice A1 new.length c1, .slice A2 moves.length c2], .int .i64 61]) (by simp [results, Try.results51, go_sem, y0, y1, y2]) rfl ⟨_, by rw [HR.out], ?_, ?_, ?_⟩
    · rw [HR.out]
      exact hv2.stored d2 _ _ _ _ _ _
    · exact (below_set (below_set (below_set hB1 (by omega) _ _) (by omega) _ _) (by omega) _ _).mono hb
    · exact far_set (far_set (far_set (far_below hB1) (by omega) _ _) (by omega) _ _) (by omega) _ _
  · have HR : Hid (namedT (dropsS) ⟨old, new, moves⟩ ⟨op, cn, ⟨tn, tk, tl⟩, ⟨dk, db, dt⟩, order⟩ = dropsS ⟨old, new, moves⟩ ⟨op, cn, ⟨tn, tk, tl⟩, ⟨dk, db, dt⟩, order⟩ k) := by unfold namedT; dsimp only; rw [hk, if_neg (by omega), Int.toNat_natCast]; exact rfl
    rw [hk]
    have hk0 : ¬ (k : Int) < 0 := by omega
    have v0 := d1.cellIs 0 (.int .i64 op) rfl
    have v1 := d1.cellIs 1 (.string cn) rfl
    have v2 := d1.cellIs 2 (.string tn) rfl
    have v3 := d1.cellIs 3 (.int .i64 tk) rfl
    have v4 := d1.cellIs 4 (.int .i64 tl) rfl
    have v5 := d1.cellIs 5 (.int .i64 dk) rfl
    have v6 := d1.cellIs 6 (.int .u64 db) rfl
    have v7 := d1.cellIs 7 (.string dt) rfl
    have v8 := d1.cellIs 8 (.slice A order.length cp) rfl
    clear hk
    go_wp2_with fail
    refine (hf k w1 hkl hv2 (by have := hB1.size; omega)).mono ?_
    rintro e w2 ⟨v', rfl, ht, hb2, hf2⟩
    rw [← HR.out] at ht ⊢
    have e2 := hf2 _ _ _ (by decide) (by decide) d2
    have hB2 := (hB1.mono hb).trans hb2
    have hF2 : Far w w2 := fun k t cs h1 h2 h => hf2 k t cs h1 h2 (h.below hB1)
    have ht' := ht
    obtain ⟨B0, k0, B1, k1, B2, k2, rfl, _, _, _, _⟩ := ht'
    generalize namedT dropsS ⟨old, new, moves⟩ ⟨op, cn, ⟨tn, tk, tl⟩, ⟨dk, db, dt⟩, order⟩ = r at *
    obtain ⟨⟨ro, rn, rm⟩, rc⟩ := r
    clear d0 d1 d2 hv2 hp2 hB1 x0 x1 x2 v0 v1 v2 v3 v4 v5 v6 v7 v8 hf hf2 hb2 HR
    have y0 := e2.cellIs 0 (.slice none 0 0) rfl
    have y1 := e2.cellIs 1 (.slice none 0 0) rfl
    have y2 := e2.cellIs 2 (.slice none 0 0) rfl
    have z0 := e2.frozen 0
    have z1 := e2.frozen 1
    have z2 := e2.frozen 2
    dsimp only at *
    go_wp2_with fail
    refine bodyPost_ret (v := .tuple #[.agg #[.slice B0 ro.length k0, .slice B1 rn.length k1, .slice B2 rm.length k2], .int .i64 rc]) (by simp [results, Try.results51, go_sem, y0, y1, y2]) rfl ⟨_, rfl, ?_, ?_, ?_⟩
    · exact ht.stored e2 _ _ _ _ _ _
    · exact below_set (below_set (below_set hB2 (by omega) _ _) (by omega) _ _) (by omega) _ _
    · exact far_set (far_set (far_set hF2 (by omega) _ _) (by omega) _ _) (by omega) _ _
theorem change_namedRename (t : Tb) (c : Ch) (v : Value) (A : Option Addr) (cp base : Nat) (p : Addr) (w : World) (hv : OwnTab w base v t) (hb : base ≤ w.heap.size)
    (hn : t.old.length ≤ 40000) (hp : w.cell? p = some (.func (.func 29) #[] #[]))
    (hf : ∀ (k : Nat) (w' : World), k < t.old.length → OwnTab w' base v t → base ≤ w'.heap.size → Calls Try.prog 29 #[v, .agg (chCells c A cp), .int .i64 k] w' (RetTE w' base (renamesS t c k))) :
    Calls Try.prog 51 #[v, .agg (chCells c A cp), .pointer (some p)] w (RetTE w base (namedT (renamesS) t c)) := by
  obtain ⟨old, new, moves⟩ := t
  obtain ⟨op, cn, ⟨tn, tk, tl⟩, ⟨dk, db, dt⟩, order⟩ := c
  have hv0 := hv
  obtain ⟨A0, c0, A1, c1, A2, c2, rfl, o0, o1, o2, hne⟩ := hv
  dsimp only at *
  obtain ⟨W, hW⟩ : ∃ W, W = ((w.alloc (Obj.cells #[.slice A0 old.length c0, .slice A1 new.length c1, .slice A2 moves.length c2] 28)).alloc (Obj.cells (chCells ⟨op, cn, ⟨tn, tk, tl⟩, ⟨dk, db, dt⟩, order⟩ A cp) 52)).alloc (Obj.cells #[.slice none 0 0, .slice none 0 0, .slice none 0 0] 28) := ⟨_, rfl⟩
  have b0 : Blk W w.heap.size 28 #[.slice A0 old.length c0, .slice A1 new.length c1, .slice A2 moves.length c2] := by rw [hW]; exact ((Blk.new _ _ _).alloc _).alloc _
  have b1 : Blk W (w.heap.size + 1) 52 (chCells ⟨op, cn, ⟨tn, tk, tl⟩, ⟨dk, db, dt⟩, order⟩ A cp) := by rw [hW]; exact (Blk.second _ _ _ _).alloc _
  have b2 : Blk W (w.heap.size + 2) 28 #[.slice none 0 0, .slice none 0 0, .slice none 0 0] := by
    rw [hW]
    have := Blk.new ((w.alloc (Obj.cells #[.slice A0 old.length c0, .slice A1 new.length c1, .slice A2 moves.length c2] 28)).alloc (Obj.cells (chCells ⟨op, cn, ⟨tn, tk, tl⟩, ⟨dk, db, dt⟩, order⟩ A cp) 52)) 28 #[.slice none 0 0, .slice none 0 0, .slice none 0 0]
    simpa using this
  have hB : Below w.heap.size w W := by rw [hW]; exact (below_two _ _ _).alloc (by simp; omega) _
  have hv1 := hv0.below hB
  have hp1 := keepc hB hp
  have r0 := o0.at_.2.below hB
  have hc0 := o0.at_.1
  have u1 := b1.cellIs 1 (.string cn) rfl
  have u0 := b0.cellIs 0 (.slice A0 old.length c0) rfl
  clear o0 o1 o2
  go_enter Try.func51, Try.ntmps51
  go_upto_region 1 with fail
  rw [← hW]
  clear hW
  go_wp2_with fail
  refine (field_Find old A0 c0 cn W r0 (by omega) hc0).mono ?_
  rintro e w1 ⟨rfl, hb1⟩
  have d0 := b0.below hb1
  have d1 := b1.below hb1
  have d2 := b2.below hb1
  have hv2 := hv1.below hb1
  have hp2 := keepc hb1 hp1
  have hB1 : Below w.heap.size w w1 := hB.trans (hb1.mono hB.size)
  clear u0 u1 b0 b1 b2 hv1 hp1 r0 hb1 hB hp hv0
  have x0 := d0.cellIs 0 (.slice A0 old.length c0) rfl
  have x1 := d0.cellIs 1 (.slice A1 new.length c1) rfl
  have x2 := d0.cellIs 2 (.slice A2 moves.length c2) rfl
  rcases findI_cases old cn with hk | ⟨k, hk, hkl⟩
  · have HR : Hid (namedT (renamesS) ⟨old, new, moves⟩ ⟨op, cn, ⟨tn, tk, tl⟩, ⟨dk, db, dt⟩, order⟩ = (⟨old, new, moves⟩, 61)) := by unfold namedT; dsimp only; rw [hk]; rfl
    rw [hk]
    clear hk hf hp2
    have y0 := d2.cellIs 0 (.slice none 0 0) rfl
    have y1 := d2.cellIs 1 (.slice none 0 0) rfl
    have y2 := d2.cellIs 2 (.slice none 0 0) rfl
    have z0 := d2.frozen 0
    have z1 := d2.frozen 1
    have z2 := d2.frozen 2
    go_wp2_with fail
    refine bodyPost_ret (v := .tuple #[.agg #[.slice A0 old.length c0, .slice A1 new.length c1, .slice A2 moves.length c2], .int .i64 61]) (by simp [results, Try.results51, go_sem, y0, y1, y2]) rfl ⟨_, by rw [HR.out], ?_, ?_, ?_⟩
    · rw [HR.out]
      exact hv2.stored d2 _ _ _ _ _ _
    · exact (below_set (below_set (below_set hB1 (by omega) _ _) (by omega) _ _) (by omega) _ _).mono hb
    · exact far_set (far_set (far_set (far_below hB1) (by omega) _ _) (by omega) _ _) (by omega) _ _
  · have HR : Hid (namedT (renamesS) ⟨old, new, moves⟩ ⟨op, cn, ⟨tn, tk, tl⟩, ⟨dk, db, dt⟩, order⟩ = renamesS ⟨old, new, moves⟩ ⟨op, cn, ⟨tn, tk, tl⟩, ⟨dk, db, dt⟩, order⟩ k) := by unfold namedT; dsimp only; rw [hk, if_neg (by omega), Int.toNat_natCast]; exact rfl
    rw [hk]
    have hk0 : ¬ (k : Int) < 0 := by omega
    have v0 := d1.cellIs 0 (.int .i64 op) rfl
    have v1 := d1.cellIs 1 (.string cn) rfl
    have v2 := d1.cellIs 2 (.string tn) rfl
    have v3 := d1.cellIs 3 (.int .i64 tk) rfl
    have v4 := d1.cellIs 4 (.int .i64 tl) rfl
    have v5 := d1.cellIs 5 (.int .i64 dk) rfl
    have v6 := d1.cellIs 6 (.int .u64 db) rfl
    have v7 := d1.cellIs 7 (.string dt) rfl
    have v8 := d1.cellIs 8 (.slice A order.length cp) rfl
    clear hk
    go_wp2_with fail
    refine (hf k w1 hkl hv2 (by have := hB1.size; omega)).mono ?_
    rintro e w2 ⟨v', rfl, ht, hb2, hf2⟩
    rw [← HR.out] at ht ⊢
    have e2 := hf2 _ _ _ (by decide) (by decide) d2
    have hB2 := (hB1.mono hb).trans hb2
    have hF2 : Far w w2 := fun k t cs h1 h2 h => hf2 k t cs h1 h2 (h.below hB1)
    have ht' := ht
    obtain ⟨B0, k0, B1, k1, B2, k2, rfl, _, _, _, _⟩ := ht'
    generalize namedT renamesS ⟨old, new, moves⟩ ⟨op, cn, ⟨tn, tk, tl⟩, ⟨dk, db, dt⟩, order⟩ = r at *
    obtain ⟨⟨ro, rn, rm⟩, rc⟩ := r
    clear d0 d1 d2 hv2 hp2 hB1 x0 x1 x2 v0 v1 v2 v3 v4 v5 v6 v7 v8 hf hf2 hb2 HR
    have y0 := e2.cellIs 0 (.slice none 0 0) rfl
    have y1 := e2.cellIs 1 (.slice none 0 0) rfl
    have y2 := e2.cellIs 2 (.slice none 0 0) rfl
    have z0 := e2.frozen 0
    have z1 := e2.frozen 1
    have z2 := e2.frozen 2
    dsimp only at *
    go_wp2_with fail
    refine bodyPost_ret (v := .tuple #[.agg #[.slice B0 ro.length k0, .slice B1 rn.length k1, .slice B2 rm.length k2], .int .i64 rc]) (by simp [results, Try.results51, go_sem, y0, y1, y2]) rfl ⟨_, rfl, ?_, ?_, ?_⟩
    · exact ht.stored e2 _ _ _ _ _ _
    · exact below_set (below_set (below_set hB2 (by omega) _ _) (by omega) _ _) (by omega) _ _
    · exact far_set (far_set (far_set hF2 (by omega) _ _) (by omega) _ _) (by omega) _ _
theorem change_namedRecast (t : Tb) (c : Ch) (v : Value) (A : Option Addr) (cp base : Nat) (p : Addr) (w : World) (hv : OwnTab w base v t) (hb : base ≤ w.heap.size)
    (hn : t.old.length ≤ 40000) (hp : w.cell? p = some (.func (.func 30) #[] #[]))
    (hf : ∀ (k : Nat) (w' : World), k < t.old.length → OwnTab w' base v t → base ≤ w'.heap.size → Calls Try.prog 30 #[v, .agg (chCells c A cp), .int .i64 k] w' (RetTE w' base (recastsT t c k))) :
    Calls Try.prog 51 #[v, .agg (chCells c A cp), .pointer (some p)] w (RetTE w base (namedT (recastsT) t c)) := by
  obtain ⟨old, new, moves⟩ := t
  obtain ⟨op, cn, ⟨tn, tk, tl⟩, ⟨dk, db, dt⟩, order⟩ := c
  have hv0 := hv
  obtain ⟨A0, c0, A1, c1, A2, c2, rfl, o0, o1, o2, hne⟩ := hv
  dsimp only at *
  obtain ⟨W, hW⟩ : ∃ W, W = ((w.alloc (Obj.cells #[.slice A0 old.length c0, .slice A1 new.length c1, .slice A2 moves.length c2] 28)).alloc (Obj.cells (chCells ⟨op, cn, ⟨tn, tk, tl⟩, ⟨dk, db, dt⟩, order⟩ A cp) 52)).alloc (Obj.cells #[.slice none 0 0, .slice none 0 0, .slice none 0 0] 28) := ⟨_, rfl⟩
  have b0 : Blk W w.heap.size 28 #[.slice A0 old.length c0, .slice A1 new.length c1, .slice A2 moves.length c2] := by rw [hW]; exact ((Blk.new _ _ _).alloc _).alloc _
  have b1 : Blk W (w.heap.size + 1) 52 (chCells ⟨op, cn, ⟨tn, tk, tl⟩, ⟨dk, db, dt⟩, order⟩ A cp) := by rw [hW]; exact (Blk.second _ _ _ _).alloc _
  have b2 : Blk W (w.heap.size + 2) 28 #[.slice none 0 0, .slice none 0 0, .slice none 0 0] := by
    rw [hW]
    have := Blk.new ((w.alloc (Obj.cells #[.slice A0 old.length c0, .slice A1 new.length c1, .slice A2 moves.length c2] 28)).alloc (Obj.cells (chCells ⟨op, cn, ⟨tn, tk, tl⟩, ⟨dk, db, dt⟩, order⟩ A cp) 52)) 28 #[.slice none 0 0, .slice none 0 0, .slice none 0 0]
    simpa using this
  have hB : Below w.heap.size w W := by rw [hW]; exact (below_two _ _ _).alloc (by simp; omega) _
  have hv1 := hv0.below hB
  have hp1 := keepc hB hp
  have r0 := o0.at_.2.below hB
  have hc0 := o0.at_.1
  have u1 := b1.cellIs 1 (.string cn) rfl
  have u0 := b0.cellIs 0 (.slice A0 old.length c0) rfl
  clear o0 o1 o2
  go_enter Try.func51, Try.ntmps51
  go_upto_region 1 with fail
  rw [← hW]
  clear hW
  go_wp2_with fail
  refine (field_Find old A0 c0 cn W r0 (by omega) hc0).mono ?_
  rintro e w1 ⟨rfl, hb1⟩
  have d0 := b0.below hb1
  have d1 := b1.below hb1
  have d2 := b2.below hb1
  have hv2 := hv1.below hb1
  have hp2 := keepc hb1 hp1
  have hB1 : Below w.heap.size w w1 := hB.trans (hb1.mono hB.size)
  clear u0 u1 b0 b1 b2 hv1 hp1 r0 hb1 hB hp hv0
  have x0 := d0.cellIs 0 (.slice A0 old.length c0) rfl
  have x1 := d0.cellIs 1 (.slice A1 new.length c1) rfl
  have x2 := d0.cellIs 2 (.slice A2 moves.length c2) rfl
  rcases findI_cases old cn with hk | ⟨k, hk, hkl⟩
  · have HR : Hid (namedT (recastsT) ⟨old, new, moves⟩ ⟨op, cn, ⟨tn, tk, tl⟩, ⟨dk, db, dt⟩, order⟩ = (⟨old, new, moves⟩, 61)) := by unfold namedT; dsimp only; rw [hk]; rfl
    rw [hk]
    clear hk hf hp2
    have y0 := d2.cellIs 0 (.slice none 0 0) rfl
    have y1 := d2.cellIs 1 (.slice none 0 0) rfl
    have y2 := d2.cellIs 2 (.slice none 0 0) rfl
    have z0 := d2.frozen 0
    have z1 := d2.frozen 1
    have z2 := d2.frozen 2
    go_wp2_with fail
    refine bodyPost_ret (v := .tuple #[.agg #[.slice A0 old.length c0, .slice A1 new.length c1, .slice A2 moves.length c2], .int .i64 61]) (by simp [results, Try.results51, go_sem, y0, y1, y2]) rfl ⟨_, by rw [HR.out], ?_, ?_, ?_⟩
    · rw [HR.out]
      exact hv2.stored d2 _ _ _ _ _ _
    · exact (below_set (below_set (below_set hB1 (by omega) _ _) (by omega) _ _) (by omega) _ _).mono hb
    · exact far_set (far_set (far_set (far_below hB1) (by omega) _ _) (by omega) _ _) (by omega) _ _
  · have HR : Hid (namedT (recastsT) ⟨old, new, moves⟩ ⟨op, cn, ⟨tn, tk, tl⟩, ⟨dk, db, dt⟩, order⟩ = recastsT ⟨old, new, moves⟩ ⟨op, cn, ⟨tn, tk, tl⟩, ⟨dk, db, dt⟩, order⟩ k) := by unfold namedT; dsimp only; rw [hk, if_neg (by omega), Int.toNat_natCast]; exact rfl
    rw [hk]
    have hk0 : ¬ (k : Int) < 0 := by omega
    have v0 := d1.cellIs 0 (.int .i64 op) rfl
    have v1 := d1.cellIs 1 (.string cn) rfl
    have v2 := d1.cellIs 2 (.string tn) rfl
    have v3 := d1.cellIs 3 (.int .i64 tk) rfl
    have v4 := d1.cellIs 4 (.int .i64 tl) rfl
    have v5 := d1.cellIs 5 (.int .i64 dk) rfl
    have v6 := d1.cellIs 6 (.int .u64 db) rfl
    have v7 := d1.cellIs 7 (.string dt) rfl
    have v8 := d1.cellIs 8 (.slice A order.length cp) rfl
    clear hk
    go_wp2_with fail
    refine (hf k w1 hkl hv2 (by have := hB1.size; omega)).mono ?_
    rintro e w2 ⟨v', rfl, ht, hb2, hf2⟩
    rw [← HR.out] at ht ⊢
    have e2 := hf2 _ _ _ (by decide) (by decide) d2
    have hB2 := (hB1.mono hb).trans hb2
    have hF2 : Far w w2 := fun k t cs h1 h2 h => hf2 k t cs h1 h2 (h.below hB1)
    have ht' := ht
    obtain ⟨B0, k0, B1, k1, B2, k2, rfl, _, _, _, _⟩ := ht'
    generalize namedT recastsT ⟨old, new, moves⟩ ⟨op, cn, ⟨tn, tk, tl⟩, ⟨dk, db, dt⟩, order⟩ = r at *
    obtain ⟨⟨ro, rn, rm⟩, rc⟩ := r
    clear d0 d1 d2 hv2 hp2 hB1 x0 x1 x2 v0 v1 v2 v3 v4 v5 v6 v7 v8 hf hf2 hb2 HR
    have y0 := e2.cellIs 0 (.slice none 0 0) rfl
    have y1 := e2.cellIs 1 (.slice none 0 0) rfl
    have y2 := e2.cellIs 2 (.slice none 0 0) rfl
    have z0 := e2.frozen 0
    have z1 := e2.frozen 1
    have z2 := e2.frozen 2
    dsimp only at *
    go_wp2_with fail
    refine bodyPost_ret (v := .tuple #[.agg #[.slice B0 ro.length k0, .slice B1 rn.length k1, .slice B2 rm.length k2], .int .i64 rc]) (by simp [results, Try.results51, go_sem, y0, y1, y2]) rfl ⟨_, rfl, ?_, ?_, ?_⟩
    · exact ht.stored e2 _ _ _ _ _ _
    · exact below_set (below_set (below_set hB2 (by omega) _ _) (by omega) _ _) (by omega) _ _
    · exact far_set (far_set (far_set hF2 (by omega) _ _) (by omega) _ _) (by omega) _ _
end Go.Proofs.Ytdggnnbgiadgaaa
