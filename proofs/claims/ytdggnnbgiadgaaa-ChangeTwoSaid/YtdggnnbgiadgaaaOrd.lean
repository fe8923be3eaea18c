/- change.orders. -/
import Derived.Test.YtdggnnbgiadgaaaOr0
set_option linter.unusedVariables false
set_option linter.unusedSimpArgs false
namespace Go.Proofs.Ytdggnnbgiadgaaa
open Go.RowKit

/-- What stands between two rounds of the second loop: k fields and j moves are made. -/
def OrdInv (w wr : World) (base h g : Nat) (old : List Fld) (order : List Int) (A0 : Option Addr) (c0 : Nat) (V1 V2 : Value) (k j : Nat) : Prop :=
  ∃ (A1 A2 : Option Addr) (c1 c2 : Nat), Blk wr g 28 #[.slice A0 old.length c0, V1, V2] ∧ Blk wr (g + 2) 28 #[.slice none 0 0, .slice none 0 0, .slice none 0 0] ∧
    Blk wr h 28 #[.slice A0 old.length c0, .slice A1 k c1, .slice A2 j c2] ∧
    Own FF 43 wr base (.slice A0 old.length c0) old ∧ Own FF 43 wr h (.slice A1 k c1) ((order.take k).map (pickF old)) ∧ Own FM 57 wr h (.slice A2 j c2) ((order.take j).map fun n => ⟨n, Vl.zero⟩) ∧ Below w.heap.size w wr

section
variable {w wr w5 : World} {base h g : Nat} {old : List Fld} {order : List Int} {A0 A4 A5 A6 : Option Addr} {c0 c4 c5 c6 : Nat} {V1 V2 : Value} {k j N : Nat}
theorem OrdInv.drew (hI : OrdInv w wr base h g old order A0 c0 V1 V2 k j) : OrdInv w wr.drew base h g old order A0 c0 V1 V2 k j := by
  obtain ⟨A1, A2, c1, c2, e0, e2, e3, q0, q1, q2, hB⟩ := hI
  exact ⟨A1, A2, c1, c2, e0, e2, e3, q0, q1, q2, hB.drew⟩
theorem take_map_succ {α β : Type} {l : List α} {k : Nat} {x : α} (f : α → β) (h : l[k]? = some x) : (l.take k).map f ++ [f x] = (l.take (k + 1)).map f := by
  rw [List.take_add_one, h]; simp
theorem ord_field (h0 : ∀ i, (Value.slice A0 old.length c0).ownBlock = some i → i < h) (hgh : g + 2 < h) (hwh : w.heap.size ≤ h) (e0 : Blk wr g 28 #[.slice A0 old.length c0, V1, V2])
    (e2 : Blk wr (g + 2) 28 #[.slice none 0 0, .slice none 0 0, .slice none 0 0]) (e3 : Blk wr h 28 #[.slice A0 old.length c0, .slice A4 k c4, .slice A5 j c5])
    (q0 : Own FF 43 wr base (.slice A0 old.length c0) old) (q1 : Own FF 43 wr h (.slice A4 k c4) ((order.take k).map (pickF old))) (q2 : Own FM 57 wr h (.slice A5 j c5) ((order.take j).map fun n => ⟨n, Vl.zero⟩))
    (hB : Below w.heap.size w wr) {n : Int} {f : Fld} (hn : order[k]? = some n) (hf : pickF old n = f)
    (hg : wr.grownBy w5 (Value.slice A4 k c4).ownBlock) (ho : Own FF 43 w5 h (.slice A6 N c6) ((order.take k).map (pickF old) ++ [f])) (hN : N = k + 1) :
    OrdInv w (w5.setCell ⟨h, 1, none⟩ (.slice A6 N c6)) base h g old order A0 c0 V1 V2 (k + 1) j := by
  subst hN hf
  rw [take_map_succ _ hn] at ho
  have d0 := e0.beside q1 (by decide) hg
  have d2 := e2.beside q1 (by decide) hg
  have d3 := e3.beside q1 (by decide) hg
  have hne : (Value.slice A0 old.length c0).ownBlock = none ∨ (Value.slice A0 old.length c0).ownBlock ≠ (Value.slice A4 k c4).ownBlock := by
    cases hv : (Value.slice A0 old.length c0).ownBlock with
    | none => exact .inl rfl
    | some i =>
      refine .inr fun e => ?_
      have h1 := h0 i hv
      have h2 := (q1.lt i e.symm).1
      omega
  have p0 := q0.grown hg hne
  have p2 := q2.beside q1 (by decide) hg
  have hwr : w.heap.size ≤ wr.heap.size := hB.size
  refine ⟨A6, A5, c6, c5, d0.far (p := ⟨h, 1, none⟩) (by show g ≠ h; omega) _, d2.far (p := ⟨h, 1, none⟩) (by show g + 2 ≠ h; omega) _, d3.set_ 1 _, p0.far_ (p0.ne_block d3 (by decide)) _ _, ho.far_ (ho.ne_block d3 (by decide)) _ _, p2.far_ (p2.ne_block d3 (by decide)) _ _, ?_⟩
  exact below_set (below_grownOwn hB q1 hg hwr hwh) hwh _ _
theorem ord_move (hgh : g + 2 < h) (hwh : w.heap.size ≤ h) (e0 : Blk wr g 28 #[.slice A0 old.length c0, V1, V2])
    (e2 : Blk wr (g + 2) 28 #[.slice none 0 0, .slice none 0 0, .slice none 0 0]) (e3 : Blk wr h 28 #[.slice A0 old.length c0, .slice A4 k c4, .slice A5 j c5])
    (q0 : Own FF 43 wr base (.slice A0 old.length c0) old) (q1 : Own FF 43 wr h (.slice A4 k c4) ((order.take k).map (pickF old))) (q2 : Own FM 57 wr h (.slice A5 j c5) ((order.take j).map fun n => ⟨n, Vl.zero⟩))
    (hB : Below w.heap.size w wr) {n : Int} (hn : order[j]? = some n)
    (hg : wr.grownBy w5 (Value.slice A5 j c5).ownBlock) (ho : Own FM 57 w5 h (.slice A6 N c6) (((order.take j).map fun n => (⟨n, Vl.zero⟩ : Mv)) ++ [⟨n, Vl.zero⟩])) (hN : N = j + 1) :
    OrdInv w (w5.setCell ⟨h, 2, none⟩ (.slice A6 N c6)) base h g old order A0 c0 V1 V2 k (j + 1) := by
  subst hN
  rw [take_map_succ (fun n => (⟨n, Vl.zero⟩ : Mv)) hn] at ho
  have d0 := e0.beside q2 (by decide) hg
  have d2 := e2.beside q2 (by decide) hg
  have d3 := e3.beside q2 (by decide) hg
  have p0 := q0.beside q2 (by decide) hg
  have p1 := q1.beside q2 (by decide) hg
  have hwr : w.heap.size ≤ wr.heap.size := hB.size
  refine ⟨A4, A6, c4, c6, d0.far (p := ⟨h, 2, none⟩) (by show g ≠ h; omega) _, d2.far (p := ⟨h, 2, none⟩) (by show g + 2 ≠ h; omega) _, d3.set_ 2 _, p0.far_ (p0.ne_block d3 (by decide)) _ _, p1.far_ (p1.ne_block d3 (by decide)) _ _, ho.far_ (ho.ne_block d3 (by decide)) _ _, ?_⟩
  exact below_set (below_grownOwn hB q2 hg hwr hwh) hwh _ _
end


theorem change_ordersNo (t : Tb) (c : Ch) (v : Value) (A : Option Addr) (cp base : Nat) (w : World) (hv : OwnTab w base v t) (hb : base ≤ w.heap.size) (ho : RS FI w A c.order) (hlc : c.order.length ≤ cp)
    (hl : c.order.length ≤ 40000) (hn : t.old.length ≤ 40000) (hno : ¬ sorted c.order = upto t.old.length) :
    Calls Try.prog 31 #[v, .agg (chCells c A cp)] w (RetTE w base (t, 80)) := by
  obtain ⟨old, new, moves⟩ := t
  obtain ⟨op, cn, ⟨tn, tk, tl⟩, ⟨dk, db, dt⟩, order⟩ := c
  obtain ⟨A0, c0, A1, c1, A2, c2, rfl, o0, o1, o2, hne⟩ := hv
  dsimp only at *
  obtain ⟨W, hW⟩ : ∃ W, W = ((w.alloc (Obj.cells #[.slice A0 old.length c0, .slice A1 new.length c1, .slice A2 moves.length c2] 28)).alloc (Obj.cells (chCells ⟨op, cn, ⟨tn, tk, tl⟩, ⟨dk, db, dt⟩, order⟩ A cp) 52)).alloc (Obj.cells #[.slice none 0 0, .slice none 0 0, .slice none 0 0] 28) := ⟨_, rfl⟩
  have b0 : Blk W w.heap.size 28 #[.slice A0 old.length c0, .slice A1 new.length c1, .slice A2 moves.length c2] := by rw [hW]; exact ((Blk.new _ _ _).alloc _).alloc _
  have b1 : Blk W (w.heap.size + 1) 52 (chCells ⟨op, cn, ⟨tn, tk, tl⟩, ⟨dk, db, dt⟩, order⟩ A cp) := by rw [hW]; exact (Blk.second _ _ _ _).alloc _
  have b2 : Blk W (w.heap.size + 2) 28 #[.slice none 0 0, .slice none 0 0, .slice none 0 0] := by
    rw [hW]
    have := Blk.new ((w.alloc (Obj.cells #[.slice A0 old.length c0, .slice A1 new.length c1, .slice A2 moves.length c2] 28)).alloc (Obj.cells (chCells ⟨op, cn, ⟨tn, tk, tl⟩, ⟨dk, db, dt⟩, order⟩ A cp) 52)) 28 #[.slice none 0 0, .slice none 0 0, .slice none 0 0]
    simpa using this
  have hB : Below w.heap.size w W := by rw [hW]; exact (below_two _ _ _).alloc (by simp; omega) _
  have p0 := o0.below hB
  have p1 := o1.below hB
  have p2 := o2.below hB
  have rA := ho.below hB
  have hBb := hB.mono hb
  have u8 := b1.cellIs 8 (.slice A order.length cp) rfl
  go_enter Try.func31, Try.ntmps31
  go_upto_region 1 with fail
  rw [← hW]
  clear hW
  go_wp2_with fail
  refine (clone_ints order A cp W rA (by omega) hlc).mono ?_
  rintro e w1 ⟨v1, rfl, hs1, hb1⟩
  obtain ⟨B, cB, rfl, hcB, rB⟩ := hs1.slice
  clear rB u8
  go_wp2_with fail
  refine (sort_ints order B cB _ w1 hs1 (by omega)).mono ?_
  rintro e w2 ⟨rfl, hs2, hg2⟩
  have hb2 := below_grownOwn hb1 hs1 hg2 hb1.size (Nat.le_refl _)
  have d0 := b0.below hb2
  have d1 := b1.below hb2
  have d2 := b2.below hb2
  have q0 := p0.below hb2
  have q1 := p1.below hb2
  have q2 := p2.below hb2
  have rA2 := rA.below hb2
  have hBb2 : Below w.heap.size w w2 := hB.trans (hb2.mono hB.size)
  clear b0 b1 b2 p0 p1 p2 hs1 hg2 hb1 hb2 rA hBb
  have x0 := d0.cellIs 0 (.slice A0 old.length c0) rfl
  have hl2 := d2.lt
  have rB := hs2.at_.2
  go_wp2_with fail
  obtain ⟨W3, hW3⟩ : ∃ W3, W3 = w2.alloc (Obj.cells #[.slice A0 old.length c0, .slice none 0 0, .slice none 0 0] 28) := ⟨_, rfl⟩
  have e0 : Blk W3 w.heap.size 28 #[.slice A0 old.length c0, .slice A1 new.length c1, .slice A2 moves.length c2] := by rw [hW3]; exact d0.alloc _
  have e1 : Blk W3 (w.heap.size + 1) 52 (chCells ⟨op, cn, ⟨tn, tk, tl⟩, ⟨dk, db, dt⟩, order⟩ A cp) := by rw [hW3]; exact d1.alloc _
  have e2 : Blk W3 (w.heap.size + 2) 28 #[.slice none 0 0, .slice none 0 0, .slice none 0 0] := by rw [hW3]; exact d2.alloc _
  have e3 : Blk W3 w2.heap.size 28 #[.slice A0 old.length c0, .slice none 0 0, .slice none 0 0] := by rw [hW3]; exact Blk.new _ _ _
  have rB3 : RS FI W3 B (sorted order) := by rw [hW3]; exact rB.alloc _
  have rA3 : RS FI W3 A order := by rw [hW3]; exact rA2.alloc _
  have k0 : Own FF 43 W3 base (.slice A0 old.length c0) old := by rw [hW3]; exact q0.alloc _
  have k1 : Own FF 43 W3 base (.slice A1 new.length c1) new := by rw [hW3]; exact q1.alloc _
  have k2 : Own FM 57 W3 base (.slice A2 moves.length c2) moves := by rw [hW3]; exact q2.alloc _
  have hB3 : Below w.heap.size w W3 := by rw [hW3]; exact hBb2.alloc hBb2.size _
  rw [← hW3]
  have hgt : w.heap.size + 2 < w2.heap.size := hl2
  have hk0 : ∀ k, (Value.slice A0 old.length c0).ownBlock = some k → k < w.heap.size := fun k h => (o0.lt k h).2
  have hs3 : W3.heap.size = w2.heap.size + 1 := by rw [hW3]; simp
  generalize w2.heap.size = h3 at *
  clear hW3 d0 d1 d2 q0 q1 q2 rA2 hBb2 x0 hl2 rB hs2
  have x8 := e1.cellIs 8 (.slice A order.length cp) rfl
  have x0 := e0.cellIs 0 (.slice A0 old.length c0) rfl
  have x1 := e0.cellIs 1 (.slice A1 new.length c1) rfl
  have x2 := e0.cellIs 2 (.slice A2 moves.length c2) rfl
  have y0 := e2.cellIs 0 (.slice none 0 0) rfl
  have y1 := e2.cellIs 1 (.slice none 0 0) rfl
  have y2 := e2.cellIs 2 (.slice none 0 0) rfl
  have z0 := e2.frozen 0
  have z1 := e2.frozen 1
  have z2 := e2.frozen 2
  have hfin : OwnTab W3 base (.agg #[.slice A0 old.length c0, .slice A1 new.length c1, .slice A2 moves.length c2]) ⟨old, new, moves⟩ := ⟨A0, c0, A1, c1, A2, c2, rfl, k0, k1, k2, hne⟩
  clear e3 rA3 k0 k1 k2 hk0 hs3 hgt o0 o1 o2 ho
  go_loopw [8, 9, 22] (fun _ _ i wr => ∃ k : Nat, k ≤ order.length ∧ i = .int .i64 k ∧ wr = W3 ∧ Hid (0 < k → order.length = old.length) ∧ Hid ((sorted order).take k = upto k)) (fun _ _ i _ => order.length - (intOf i).toNat)
  case atStart => exact ⟨0, Nat.zero_le _, rfl, rfl, fun h => absurd h (by omega), rfl⟩
  case round =>
    obtain ⟨k, hk, rfl, rfl, H1, H2⟩ := hrel
    by_cases hlt : k < order.length
    · obtain ⟨ad, x, rfl, hx, hcx⟩ := rB3.int_ (k := k) (by rw [sorted_length]; exact hlt)
      have HX := Lib.hid hx
      have HL := Lib.hid hlt
      have e1 : (k : Int) < (order.length : Int) := by omega
      clear hx hlt
      by_cases hxk : x = (k : Int)
      · subst hxk
        have g1 : ((k : Int) != (k : Int)) = false := by simp
        by_cases hle : order.length = old.length
        · have g2 : ((order.length : Int) != (old.length : Int)) = false := by simp; omega
          have hn1 : (sorted order).take (k + 1) = upto (k + 1) := by
            rw [List.take_add_one, H2.out, HX.out]; simp [upto, List.range_succ]
          have HN := Lib.hid hn1
          have HE := Lib.hid hle
          clear hle hn1
          go_wp2_with fail
          go_roundw
          case rel => exact ⟨k + 1, HL.out, by go_num, trivial, fun _ => HE.out, HN.out⟩
          case measure => simp [intOf]; have := HL.out; omega
        · have g2 : ((order.length : Int) != (old.length : Int)) = true := by simp; omega
          go_wp2_with fail
          refine bodyPost_ret (v := .tuple #[.agg #[.slice A0 old.length c0, .slice A1 new.length c1, .slice A2 moves.length c2], .int .i64 80]) (by simp [results, Try.results31, go_sem, y0, y1, y2]) rfl ⟨_, rfl, ?_, ?_, ?_⟩
          · exact hfin.stored e2 _ _ _ _ _ _
          · exact (below_set (below_set (below_set hB3 (by omega) _ _) (by omega) _ _) (by omega) _ _).mono hb
          · exact far_set (far_set (far_set (far_below hB3) (by omega) _ _) (by omega) _ _) (by omega) _ _
      · have g1 : (x != (k : Int)) = true := by simp [hxk]
        go_wp2_with fail
        refine bodyPost_ret (v := .tuple #[.agg #[.slice A0 old.length c0, .slice A1 new.length c1, .slice A2 moves.length c2], .int .i64 80]) (by simp [results, Try.results31, go_sem, y0, y1, y2]) rfl ⟨_, rfl, ?_, ?_, ?_⟩
        · exact hfin.stored e2 _ _ _ _ _ _
        · exact (below_set (below_set (below_set hB3 (by omega) _ _) (by omega) _ _) (by omega) _ _).mono hb
        · exact far_set (far_set (far_set (far_below hB3) (by omega) _ _) (by omega) _ _) (by omega) _ _
    · have hk' : k = order.length := by omega
      subst hk'
      have h0 : order.length = 0 := by
        rcases Nat.eq_zero_or_pos order.length with h | h
        · exact h
        · exact absurd (by have := H2.out; rw [List.take_of_length_le (by rw [sorted_length]; exact Nat.le_refl _)] at this; rw [this, H1.out h]) hno
      have h1 : old.length ≠ 0 := fun h => hno (by rw [h, List.eq_nil_of_length_eq_zero h0]; exact List.eq_nil_of_length_eq_zero (sorted_length []))
      obtain rfl := List.eq_nil_of_length_eq_zero h0
      have g3 : ((0 : Int) != (old.length : Int)) = true := by simp; omega
      have HX := Lib.hid hno
      clear hno h0 h1 hlt hk hl hlc H1 H2 hcB
      go_wp2_with fail
      go_loopw [11, 43] (fun _ i w9 => i = .int .i64 0 ∧ w9 = wr) (fun _ i _ => 0)
      case atStart => exact ⟨rfl, rfl⟩
      case round =>
        obtain ⟨rfl, rfl⟩ := hrel
        go_wp2_with fail
        refine bodyPost_ret (v := .tuple #[.agg #[.slice A0 old.length c0, .slice A1 new.length c1, .slice A2 moves.length c2], .int .i64 80]) (by simp [results, Try.results31, go_sem, y0, y1, y2]) rfl ⟨_, rfl, ?_, ?_, ?_⟩
        · exact hfin.stored e2 _ _ _ _ _ _
        · exact (below_set (below_set (below_set hB3 (by omega) _ _) (by omega) _ _) (by omega) _ _).mono hb
        · exact far_set (far_set (far_set (far_below hB3) (by omega) _ _) (by omega) _ _) (by omega) _ _

theorem change_ordersYes (t : Tb) (c : Ch) (v : Value) (A : Option Addr) (cp base : Nat) (w : World) (hv : OwnTab w base v t) (hb : base ≤ w.heap.size) (ho : RS FI w A c.order) (hlc : c.order.length ≤ cp)
    (hl : c.order.length ≤ 40000) (hn : t.old.length ≤ 40000) (hyes : sorted c.order = upto t.old.length) :
    Calls Try.prog 31 #[v, .agg (chCells c A cp)] w (RetTE w base (⟨t.old, c.order.map (pickF t.old), c.order.map fun n => ⟨n, Vl.zero⟩⟩, 0)) := by
  obtain ⟨old, new, moves⟩ := t
  obtain ⟨op, cn, ⟨tn, tk, tl⟩, ⟨dk, db, dt⟩, order⟩ := c
  obtain ⟨A0, c0, A1, c1, A2, c2, rfl, o0, o1, o2, hne⟩ := hv
  dsimp only at *
  obtain ⟨W, hW⟩ : ∃ W, W = ((w.alloc (Obj.cells #[.slice A0 old.length c0, .slice A1 new.length c1, .slice A2 moves.length c2] 28)).alloc (Obj.cells (chCells ⟨op, cn, ⟨tn, tk, tl⟩, ⟨dk, db, dt⟩, order⟩ A cp) 52)).alloc (Obj.cells #[.slice none 0 0, .slice none 0 0, .slice none 0 0] 28) := ⟨_, rfl⟩
  have b0 : Blk W w.heap.size 28 #[.slice A0 old.length c0, .slice A1 new.length c1, .slice A2 moves.length c2] := by rw [hW]; exact ((Blk.new _ _ _).alloc _).alloc _
  have b1 : Blk W (w.heap.size + 1) 52 (chCells ⟨op, cn, ⟨tn, tk, tl⟩, ⟨dk, db, dt⟩, order⟩ A cp) := by rw [hW]; exact (Blk.second _ _ _ _).alloc _
  have b2 : Blk W (w.heap.size + 2) 28 #[.slice none 0 0, .slice none 0 0, .slice none 0 0] := by
    rw [hW]
    have := Blk.new ((w.alloc (Obj.cells #[.slice A0 old.length c0, .slice A1 new.length c1, .slice A2 moves.length c2] 28)).alloc (Obj.cells (chCells ⟨op, cn, ⟨tn, tk, tl⟩, ⟨dk, db, dt⟩, order⟩ A cp) 52)) 28 #[.slice none 0 0, .slice none 0 0, .slice none 0 0]
    simpa using this
  have hB : Below w.heap.size w W := by rw [hW]; exact (below_two _ _ _).alloc (by simp; omega) _
  have p0 := o0.below hB
  have p1 := o1.below hB
  have p2 := o2.below hB
  have rA := ho.below hB
  have hBb := hB.mono hb
  have u8 := b1.cellIs 8 (.slice A order.length cp) rfl
  go_enter Try.func31, Try.ntmps31
  go_upto_region 1 with fail
  rw [← hW]
  clear hW
  go_wp2_with fail
  refine (clone_ints order A cp W rA (by omega) hlc).mono ?_
  rintro e w1 ⟨v1, rfl, hs1, hb1⟩
  obtain ⟨B, cB, rfl, hcB, rB⟩ := hs1.slice
  clear rB u8
  go_wp2_with fail
  refine (sort_ints order B cB _ w1 hs1 (by omega)).mono ?_
  rintro e w2 ⟨rfl, hs2, hg2⟩
  have hb2 := below_grownOwn hb1 hs1 hg2 hb1.size (Nat.le_refl _)
  have d0 := b0.below hb2
  have d1 := b1.below hb2
  have d2 := b2.below hb2
  have q0 := p0.below hb2
  have q1 := p1.below hb2
  have q2 := p2.below hb2
  have rA2 := rA.below hb2
  have hBb2 : Below w.heap.size w w2 := hB.trans (hb2.mono hB.size)
  clear b0 b1 b2 p0 p1 p2 hs1 hg2 hb1 hb2 rA hBb
  have x0 := d0.cellIs 0 (.slice A0 old.length c0) rfl
  have hl2 := d2.lt
  have rB := hs2.at_.2
  go_wp2_with fail
  obtain ⟨W3, hW3⟩ : ∃ W3, W3 = w2.alloc (Obj.cells #[.slice A0 old.length c0, .slice none 0 0, .slice none 0 0] 28) := ⟨_, rfl⟩
  have e0 : Blk W3 w.heap.size 28 #[.slice A0 old.length c0, .slice A1 new.length c1, .slice A2 moves.length c2] := by rw [hW3]; exact d0.alloc _
  have e1 : Blk W3 (w.heap.size + 1) 52 (chCells ⟨op, cn, ⟨tn, tk, tl⟩, ⟨dk, db, dt⟩, order⟩ A cp) := by rw [hW3]; exact d1.alloc _
  have e2 : Blk W3 (w.heap.size + 2) 28 #[.slice none 0 0, .slice none 0 0, .slice none 0 0] := by rw [hW3]; exact d2.alloc _
  have e3 : Blk W3 w2.heap.size 28 #[.slice A0 old.length c0, .slice none 0 0, .slice none 0 0] := by rw [hW3]; exact Blk.new _ _ _
  have rB3 : RS FI W3 B (sorted order) := by rw [hW3]; exact rB.alloc _
  have rA3 : RS FI W3 A order := by rw [hW3]; exact rA2.alloc _
  have k0 : Own FF 43 W3 base (.slice A0 old.length c0) old := by rw [hW3]; exact q0.alloc _
  have k1 : Own FF 43 W3 base (.slice A1 new.length c1) new := by rw [hW3]; exact q1.alloc _
  have k2 : Own FM 57 W3 base (.slice A2 moves.length c2) moves := by rw [hW3]; exact q2.alloc _
  have hB3 : Below w.heap.size w W3 := by rw [hW3]; exact hBb2.alloc hBb2.size _
  rw [← hW3]
  have hgt : w.heap.size + 2 < w2.heap.size := hl2
  have hk0 : ∀ k, (Value.slice A0 old.length c0).ownBlock = some k → k < w.heap.size := fun k h => (o0.lt k h).2
  have hs3 : W3.heap.size = w2.heap.size + 1 := by rw [hW3]; simp
  generalize w2.heap.size = h3 at *
  clear hW3 d0 d1 d2 q0 q1 q2 rA2 hBb2 x0 hl2 rB hs2
  have x8 := e1.cellIs 8 (.slice A order.length cp) rfl
  have x0 := e0.cellIs 0 (.slice A0 old.length c0) rfl
  have x1 := e0.cellIs 1 (.slice A1 new.length c1) rfl
  have x2 := e0.cellIs 2 (.slice A2 moves.length c2) rfl
  have y0 := e2.cellIs 0 (.slice none 0 0) rfl
  have y1 := e2.cellIs 1 (.slice none 0 0) rfl
  have y2 := e2.cellIs 2 (.slice none 0 0) rfl
  have z0 := e2.frozen 0
  have z1 := e2.frozen 1
  have z2 := e2.frozen 2
  have hle := order_len hyes
  have h0 : OrdInv w W3 base h3 w.heap.size old order A0 c0 (.slice A1 new.length c1) (.slice A2 moves.length c2) 0 0 :=
    ⟨none, none, 0, 0, e0, e2, e3, k0, Own.nil _ _ _ _, Own.nil _ _ _ _, hB3⟩
  have HA : Hid (RS FI w A order) := ho
  have HS := Lib.hid hyes
  have H0 := Lib.hid h0
  have HE := Lib.hid hle
  clear e0 e1 e2 e3 rA3 k0 k1 k2 hs3 o0 o1 o2 ho hyes h0 hle
  go_loopw [8, 9, 22] (fun _ _ i wr => ∃ k : Nat, k ≤ order.length ∧ i = .int .i64 k ∧ wr = W3) (fun _ _ i _ => order.length - (intOf i).toNat)
  case atStart => exact ⟨0, Nat.zero_le _, rfl, rfl⟩
  case round =>
    obtain ⟨k, hk, rfl, rfl⟩ := hrel
    by_cases hlt : k < order.length
    · obtain ⟨ad, x, rfl, hx, hcx⟩ := rB3.int_ (k := k) (by rw [sorted_length]; exact hlt)
      have hxk : x = (k : Int) := by
        have h9 := upto_get (n := old.length) (k := k) (by have := HE.out; omega)
        rw [HS.out, h9] at hx
        exact (Option.some.inj hx).symm
      subst hxk
      have e1 : (k : Int) < (order.length : Int) := by omega
      have g1 : ((k : Int) != (k : Int)) = false := by simp
      have g2 : ((order.length : Int) != (old.length : Int)) = false := by have := HE.out; simp; omega
      have HL := Lib.hid hlt
      clear hx hlt
      go_wp2_with fail
      go_roundw
      case rel => exact ⟨k + 1, HL.out, by go_num, trivial⟩
      case measure => simp [intOf]; have := HL.out; omega
    · have hk' : k = order.length := by omega
      subst hk'
      clear rB3 hlt hk y0 y1 y2 z0 z1 z2
      have h0 := H0.out
      clear H0
      clear hB3
      go_wp2_with fail
      go_loopw [11, 43] (fun _ i w9 => ∃ k : Nat, k ≤ order.length ∧ i = .int .i64 k ∧ OrdInv w w9 base h3 w.heap.size old order A0 c0 (.slice A1 new.length c1) (.slice A2 moves.length c2) k k) (fun _ i _ => order.length - (intOf i).toNat)
      case atStart => exact ⟨0, Nat.zero_le _, rfl, h0⟩
      case round =>
        clear h0 x0 x1 x2 x8
        obtain ⟨k, hk, rfl, A4, A5, c4, c5, e0, e2, e3, q0, q1, q2, hB⟩ := hrel
        have rA := HA.out.below hB
        by_cases hlt : k < order.length
        · obtain ⟨ad, n, rfl, hno, hcn⟩ := rA.int_ hlt
          obtain ⟨m, rfl, hm⟩ := order_mem HS.out (List.mem_of_getElem? hno)
          obtain ⟨ae, f, rfl, hf, f0, f1, f2⟩ := q0.at_.2.fld (k := m) hm
          have e1 : (k : Int) < (order.length : Int) := by omega
          have em : (m : Int) < (old.length : Int) := by omega
          have hne5 : some (ae.add (m * 3)).block ≠ (Value.slice A4 k c4).ownBlock := by
            obtain ⟨g', cur0, hg', _⟩ := q0.form (by omega)
            have hae : ae = ⟨g', 0, none⟩ := by cases hg'; rfl
            have h1 := hk0 g' (by rw [hae]; rfl)
            have h2 : (ae.add (m * 3)).block = g' := by rw [hae]; unfold Addr.add; split <;> rfl
            rw [h2]
            intro h
            have := (q1.lt g' h.symm).1
            omega
          have hlt5 : (ae.add (m * 3)).block < wr.heap.size := World.block_lt_of_cell? wr _ f0
          have hk5 : ∀ i, (Value.slice (some ae) old.length c0).ownBlock = some i → i < h3 := fun i h => by have := hk0 i h; omega
          have hwh : w.heap.size ≤ h3 := by omega
          have hpf : pickF old (m : Int) = f := by unfold pickF; rw [Int.toNat_natCast, hf]; rfl
          have hnn : ((order.take k).map (pickF old) ++ [f]).length = k + 1 := by simp; omega
          have hnm : (((order.take k).map fun n => (⟨n, Vl.zero⟩ : Mv)) ++ [(⟨(m : Int), Vl.zero⟩ : Mv)]).length = k + 1 := by simp; omega
          have HPF := Lib.hid hpf
          have HNN := Lib.hid hnn
          have HNM := Lib.hid hnm
          clear hpf hnn hnm
          have HO := Lib.hid hno
          have HL := Lib.hid hlt
          have hbs : h3 ≤ wr.heap.size := Nat.le_of_lt e3.lt
          have hbs9 : h3 ≤ (wr.alloc (Obj.cells #[.string f.name, .int .i64 f.kind, .int .i64 f.long] 43)).drew.heap.size := by show h3 ≤ (wr.alloc _).heap.size; simp; omega
          have hll : ((order.take k).map (pickF old)).length + 1 ≤ 60000 := by simp; omega
          have hll2 : ((order.take k).map fun n => (⟨n, Vl.zero⟩ : Mv)).length + 1 ≤ 60000 := by simp; omega
          clear hf hno hlt
          have x0 := e0.cellIs 0 (.slice (some ae) old.length c0) rfl
          have x1 := e3.cellIs 1 (.slice A4 k c4) rfl
          have x1a := (e3.alloc (Obj.cells #[.string f.name, .int .i64 f.kind, .int .i64 f.long] 43)).cellIs 1 (.slice A4 k c4) rfl
          go_upto_region 13 with fail
          go_cut [43] from 43 to 64 (fun s wx => s = .int .i64 k ∧ OrdInv w wx base h3 w.heap.size old order (some ae) c0 (.slice A1 new.length c1) (.slice A2 moves.length c2) (k + 1) k)
          case first =>
            go_region_law ((refine step_append_one FF wr.heap.size h3 rfl (.tmp 48) (.tmp 54) 22 43 _ 32 rfl Try.underlying22 infoF rfl (by decide) (.slice A4 k c4) ((order.take k).map (pickF old)) f #[.string f.name, .int .i64 f.kind, .int .i64 f.long] rfl (by simp [Act.eval, Act.put]) (by simp [Act.eval, Act.put]) (by first | exact Blk.drew (Blk.new _ _ _) | exact Blk.new _ _ _) (by first | exact Own.drew (Own.alloc q1 _) | exact Own.alloc q1 _ | exact Own.alloc (Own.drew q1) _) (by first | exact hbs9 | simpa using hbs9) hll (by decide) ?_; intro v5 w5 ho hg0 hat0; obtain ⟨A6, c6, rfl, hc6, hr6⟩ := ho.slice; have hg := World.grownBy.trans (World.grownBy_alloc wr _ _) (grown_undrew hg0); have s1 := (e3.beside q1 (by decide) hg).frozen 1; have s2 := (e3.beside q1 (by decide) hg).cellIs 1 (.slice A4 k c4) rfl; have s3 := (e3.beside q1 (by decide) hg).lt; have s4 := (e0.beside q1 (by decide) hg).cellIs 0 (.slice (some ae) old.length c0) rfl; have j0 := (hg.cell_far (ae.add (m * 3)) hlt5 hne5).trans f0; have j1 := (hg.cell_far ⟨(ae.add (m * 3)).block, (ae.add (m * 3)).off + 1, none⟩ hlt5 hne5).trans f1; have j2 := (hg.cell_far ⟨(ae.add (m * 3)).block, (ae.add (m * 3)).off + 2, none⟩ hlt5 hne5).trans f2; clear hr6))
            all_goals (go_wp2_with fail; go_meet)
            all_goals
              rw [HNN.out] at ho
              refine ⟨rfl, ?_⟩
              first
                | exact ord_field hk5 hgt hwh e0 e2 e3 q0 q1 q2 hB HO.out HPF.out hg ho rfl
                | exact (ord_field hk5 hgt hwh e0 e2 e3 q0 q1 q2 hB HO.out HPF.out hg ho rfl).drew
          case rest =>
            clear e0 e2 e3 q0 q1 q2 hB x0 x1 x1a f0 f1 f2 hcn rA hbs hbs9 hll hne5 hlt5
            obtain ⟨rfl, A6, A7, c6, c7, e0, e2, e3, q0, q1, q2, hB⟩ := hcut
            have hbs : h3 ≤ wc.heap.size := Nat.le_of_lt e3.lt
            have x2 := e3.cellIs 2 (.slice A7 k c7) rfl
            go_wp2_with (at_builtin; refine Stopped.out ?_)
            constructor
            refine wp_append_at FM wc.heap.size (by simp) h3 rfl (.tmp 58) (.tmp 61) 26 57 _ 40 rfl Try.underlying26 infoM rfl (by decide) (.slice A7 k c7) ((order.take k).map fun n => (⟨n, Vl.zero⟩ : Mv)) ⟨(m : Int), Vl.zero⟩ _ rfl rfl rfl q2 hbs hll2 (by decide) ?_
            intro v7 w7 ho hg hat
            obtain ⟨A8, c8, rfl, hc8, hr8⟩ := ho.slice
            have s1 := (e3.beside q2 (by decide) hg).frozen 2
            have s2 := (e3.beside q2 (by decide) hg).cellIs 2 (.slice A7 k c7) rfl
            have s3 := (e3.beside q2 (by decide) hg).lt
            clear hr8
            go_wp2_with fail
            go_roundw
            case rel =>
              rw [HNM.out] at ho
              refine ⟨k + 1, HL.out, by go_num, ?_⟩
              exact ord_move hgt hwh e0 e2 e3 q0 q1 q2 hB HO.out hg ho rfl
            case measure => simp [intOf]; have := HL.out; omega
        · have hk' : k = order.length := by omega
          subst hk'
          have g3 : ((order.length : Int) != (old.length : Int)) = false := by have := HE.out; simp; omega
          rw [List.take_of_length_le (Nat.le_refl _)] at q1 q2
          clear hk hlt rA
          have x0 := e0.cellIs 0 (.slice A0 old.length c0) rfl
          have z0 := e2.frozen 0
          have z1 := e2.frozen 1
          have z2 := e2.frozen 2
          have y0 := e2.cellIs 0 (.slice none 0 0) rfl
          have y1 := e2.cellIs 1 (.slice none 0 0) rfl
          have y2 := e2.cellIs 2 (.slice none 0 0) rfl
          have o0 := e3.cellIs 0 (.slice A0 old.length c0) rfl
          have o1 := e3.cellIs 1 (.slice A4 order.length c4) rfl
          have o2 := e3.cellIs 2 (.slice A5 order.length c5) rfl
          have hfin : OwnTab wr base (.agg #[.slice A0 old.length c0, .slice A4 order.length c4, .slice A5 order.length c5]) ⟨old, order.map (pickF old), order.map fun n => ⟨n, Vl.zero⟩⟩ := by
            refine ⟨A0, c0, A4, c4, A5, c5, by simp, q0, ?_, ?_, ?_⟩
            · simp only [List.length_map]; exact q1.lower (by omega)
            · simp only [List.length_map]; exact q2.lower (by omega)
            · simp only [List.length_map]
              cases hv : (Value.slice A4 order.length c4).ownBlock with
              | none => exact .inl rfl
              | some i =>
                refine .inr fun e => ?_
                have h1 := hk0 i e.symm
                have h2 := (q1.lt i hv).1
                omega
          go_wp2_with fail
          refine bodyPost_ret (v := .tuple #[.agg #[.slice A0 old.length c0, .slice A4 order.length c4, .slice A5 order.length c5], .int .i64 0]) (by simp [results, Try.results31, go_sem, y0, y1, y2]) rfl ⟨_, rfl, ?_, ?_, ?_⟩
          · exact hfin.stored e2 _ _ _ _ _ _
          · exact (below_set (below_set (below_set hB (by omega) _ _) (by omega) _ _) (by omega) _ _).mono hb
          · exact far_set (far_set (far_set (far_below hB) (by omega) _ _) (by omega) _ _) (by omega) _ _
end Go.Proofs.Ytdggnnbgiadgaaa
