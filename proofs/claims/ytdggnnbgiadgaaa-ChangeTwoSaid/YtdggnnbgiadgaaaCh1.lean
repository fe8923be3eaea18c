/- change.adds. -/
import Derived.Test.YtdggnnbgiadgaaaCh0
set_option linter.unusedVariables false
namespace Go.Proofs.Ytdggnnbgiadgaaa
open Go.RowKit

theorem f2base {base g : Nat} {w w5 : World} {u : Value} (hb : base ≤ w.heap.size) (h : w.heap.size < w5.heap.size) : base ≤ (w5.setCell ⟨w.heap.size, 1, none⟩ u).heap.size := by simp [World.setCell]; omega

/-- Behind the append of a field and its store into the table's box (block g). -/
structure Mid (w1 W : World) (base g : Nat) (old new' : List Fld) (moves : List Mv) (A0 A1 A2 : Option Addr) (c0 c1 c2 : Nat) : Prop where
  box : Blk W g 28 #[.slice A0 old.length c0, .slice A1 new'.length c1, .slice A2 moves.length c2]
  o0 : Own FF 43 W base (.slice A0 old.length c0) old
  o1 : Own FF 43 W base (.slice A1 new'.length c1) new'
  o2 : Own FM 57 W base (.slice A2 moves.length c2) moves
  ne : (Value.slice A1 new'.length c1).ownBlock = none ∨ (Value.slice A1 new'.length c1).ownBlock ≠ (Value.slice A0 old.length c0).ownBlock
  below : Below base w1 W
  other : ∀ k t cs, k ≠ g → t ≠ 43 → t ≠ 57 → Blk w1 k t cs → Blk W k t cs

theorem mid_field {w1 w5 : World} {base g : Nat} {old new : List Fld} {moves : List Mv} {A0 A1 A2 A3 : Option Addr} {c0 c1 c2 c3 : Nat} {f : Fld} (hm : Mid w1 w1 base g old new moves A0 A1 A2 c0 c1 c2) (hbg : base ≤ g)
    (hg : w1.grownBy w5 (Value.slice A1 new.length c1).ownBlock) (ho : Own FF 43 w5 base (.slice A3 (new ++ [f]).length c3) (new ++ [f]))
    (hat : (Value.slice A3 (new ++ [f]).length c3).ownBlock = (Value.slice A1 new.length c1).ownBlock ∨ ∃ b, (Value.slice A3 (new ++ [f]).length c3).ownBlock = some b ∧ w1.heap.size ≤ b) :
    Mid w1 (w5.setCell ⟨g, 1, none⟩ (.slice A3 (new.length + 1) c3)) base g old (new ++ [f]) moves A0 A3 A2 c0 c3 c2 := by
  have hlen : (new ++ [f]).length = new.length + 1 := by simp
  have e0 := hm.box.beside hm.o1 (by decide) hg
  have hw1 : base ≤ w1.heap.size := by have := hm.box.lt; omega
  have k0 : Own FF 43 w5 base (.slice A0 old.length c0) old := hm.o0.grown hg (ne_symm hm.ne)
  have k2 := hm.o2.beside hm.o1 (by decide) hg
  refine ⟨?_, k0.far_ (k0.ne_block e0 (by decide)) _ _, ho.far_ (ho.ne_block e0 (by decide)) _ _, k2.far_ (k2.ne_block e0 (by decide)) _ _, ?_, ?_, ?_⟩
  · have := e0.set_ 1 (.slice A3 (new.length + 1) c3)
    rw [hlen]
    exact this
  · rcases hat with h | ⟨b, h, hb⟩
    · rw [h]; exact hm.ne
    · refine .inr fun e => ?_
      have := (hm.o0.lt b (e.symm.trans h)).2
      omega
  · exact below_set (below_grownOwn (Below.refl _ _) hm.o1 hg hw1 (Nat.le_refl _)) hbg _ _
  · intro k t cs hk ht _ hb
    exact (hb.beside hm.o1 (fun e => ht e.symm) hg).far (p := ⟨g, 1, none⟩) hk _

theorem mid_move {w0 w1 w5 : World} {base g : Nat} {old new : List Fld} {moves : List Mv} {A0 A1 A2 A3 : Option Addr} {c0 c1 c2 c3 : Nat} {m : Mv} (hm : Mid w0 w1 base g old new moves A0 A1 A2 c0 c1 c2) (hbg : base ≤ g)
    (hg : w1.grownBy w5 (Value.slice A2 moves.length c2).ownBlock) (ho : Own FM 57 w5 base (.slice A3 (moves ++ [m]).length c3) (moves ++ [m])) :
    Mid w0 (w5.setCell ⟨g, 2, none⟩ (.slice A3 (moves.length + 1) c3)) base g old new (moves ++ [m]) A0 A1 A3 c0 c1 c3 := by
  have hlen : (moves ++ [m]).length = moves.length + 1 := by simp
  have e0 := hm.box.beside hm.o2 (by decide) hg
  have hw1 : base ≤ w1.heap.size := by have := hm.box.lt; omega
  have k0 := hm.o0.beside hm.o2 (by decide) hg
  have k1 := hm.o1.beside hm.o2 (by decide) hg
  refine ⟨?_, k0.far_ (k0.ne_block e0 (by decide)) _ _, k1.far_ (k1.ne_block e0 (by decide)) _ _, ho.far_ (ho.ne_block e0 (by decide)) _ _, hm.ne, ?_, ?_⟩
  · have := e0.set_ 2 (.slice A3 (moves.length + 1) c3)
    rw [hlen]
    exact this
  · exact below_set (below_grownOwn hm.below hm.o2 hg hw1 (Nat.le_refl _)) hbg _ _
  · intro k t cs hk h1 h2 hb
    exact ((hm.other k t cs hk h1 h2 hb).beside hm.o2 (fun e => h2 e.symm) hg).far (p := ⟨g, 2, none⟩) hk _
theorem Mid.tab {w0 w1 : World} {base g : Nat} {old new : List Fld} {moves : List Mv} {A0 A1 A2 : Option Addr} {c0 c1 c2 : Nat} (hm : Mid w0 w1 base g old new moves A0 A1 A2 c0 c1 c2) :
    OwnTab w1 base (.agg #[.slice A0 old.length c0, .slice A1 new.length c1, .slice A2 moves.length c2]) ⟨old, new, moves⟩ := ⟨A0, c0, A1, c1, A2, c2, rfl, hm.o0, hm.o1, hm.o2, hm.ne⟩

theorem Mid.far {w w0 w1 : World} {base g : Nat} {old new : List Fld} {moves : List Mv} {A0 A1 A2 : Option Addr} {c0 c1 c2 : Nat} (hm : Mid w0 w1 base g old new moves A0 A1 A2 c0 c1 c2) (h : Below w.heap.size w w0) (hg : w.heap.size ≤ g) : Far w w1 :=
  fun k t cs h1 h2 hb => hm.other k t cs (by have := hb.lt; omega) h1 h2 (hb.below h)

theorem change_adds (t : Tb) (c : Ch) (v : Value) (A : Option Addr) (cp base : Nat) (w : World) (hv : OwnTab w base v t) (hb : base ≤ w.heap.size) (hc : ChOk c) (hn : t.new.length ≤ 40000) (hm : t.moves.length ≤ 40000) :
    Calls Try.prog 26 #[v, .agg (chCells c A cp)] w (RetTE w base (addsT t c)) := by
  obtain ⟨old, new, moves⟩ := t
  obtain ⟨op, cn, ⟨tn, tk, tl⟩, ⟨dk, db, dt⟩, order⟩ := c
  obtain ⟨A0, c0, A1, c1, A2, c2, rfl, o0, o1, o2, hne⟩ := hv
  dsimp only at *
  have hd := hc.dflt.bits
  dsimp only at hd
  obtain ⟨hd0, hd1⟩ := hd
  obtain ⟨W, hW⟩ : ∃ W, W = ((w.alloc (Obj.cells #[.slice A0 old.length c0, .slice A1 new.length c1, .slice A2 moves.length c2] 28)).alloc (Obj.cells (chCells ⟨op, cn, ⟨tn, tk, tl⟩, ⟨dk, db, dt⟩, order⟩ A cp) 52)).alloc (Obj.cells #[.slice none 0 0, .slice none 0 0, .slice none 0 0] 28) := ⟨_, rfl⟩
  have b0 : Blk W w.heap.size 28 #[.slice A0 old.length c0, .slice A1 new.length c1, .slice A2 moves.length c2] := by rw [hW]; exact ((Blk.new _ _ _).alloc _).alloc _
  have b1 : Blk W (w.heap.size + 1) 52 (chCells ⟨op, cn, ⟨tn, tk, tl⟩, ⟨dk, db, dt⟩, order⟩ A cp) := by rw [hW]; exact (Blk.second _ _ _ _).alloc _
  have b2 : Blk W (w.heap.size + 2) 28 #[.slice none 0 0, .slice none 0 0, .slice none 0 0] := by
    rw [hW]
    have := Blk.new ((w.alloc (Obj.cells #[.slice A0 old.length c0, .slice A1 new.length c1, .slice A2 moves.length c2] 28)).alloc (Obj.cells (chCells ⟨op, cn, ⟨tn, tk, tl⟩, ⟨dk, db, dt⟩, order⟩ A cp) 52)) 28 #[.slice none 0 0, .slice none 0 0, .slice none 0 0]
    simpa using this
  have hB : Below w.heap.size w W := by rw [hW]; exact (below_two _ _ _).alloc (by simp; omega) _
  have p0 := o0.below hB
  have p1 := o1.below hB
  have p2 := o2.below hB
  have hBb := hB
  go_enter Try.func26, Try.ntmps26
  go_wp2_with fail
  rw [← hW]
  clear hW
  cases hval : valB ⟨dk, db, dt⟩ ⟨tn, tk, tl⟩ with
  | false =>
    have hR : addsT ⟨old, new, moves⟩ ⟨op, cn, ⟨tn, tk, tl⟩, ⟨dk, db, dt⟩, order⟩ = (⟨old, new, moves⟩, 80) := by unfold addsT; rw [hval]; rfl
    have HR := Lib.hid hR
    have HV := Lib.hid hval
    clear hR hval
    refine (kind_Right ⟨dk, db, dt⟩ ⟨tn, tk, tl⟩ _ hd0 hd1).mono ?_
    rintro e w1 ⟨rfl, hb1⟩
    rw [HV.out]
    have q0 := p0.below hb1
    have q1 := p1.below hb1
    have q2 := p2.below hb1
    have d0 := b0.below hb1
    have d2 := b2.below hb1
    have hBb1 := hBb.trans (hb1.mono (by have := hB.size; omega))
    clear b0 b1 b2 p0 p1 p2 hB hBb hb1
    have x0 := d0.cellIs 0 (.slice A0 old.length c0) rfl
    have x1 := d0.cellIs 1 (.slice A1 new.length c1) rfl
    have x2 := d0.cellIs 2 (.slice A2 moves.length c2) rfl
    have y0 := d2.cellIs 0 (.slice none 0 0) rfl
    have y1 := d2.cellIs 1 (.slice none 0 0) rfl
    have y2 := d2.cellIs 2 (.slice none 0 0) rfl
    have z0 := d2.frozen 0
    have z1 := d2.frozen 1
    have z2 := d2.frozen 2
    go_wp2_with fail
    refine bodyPost_ret (v := .tuple #[.agg #[.slice A0 old.length c0, .slice A1 new.length c1, .slice A2 moves.length c2], .int .i64 80]) (by simp [results, Try.results26, go_sem, y0, y1, y2]) rfl ⟨_, by rw [HR.out], ?_, ?_, ?_⟩
    · rw [HR.out]
      exact OwnTab.stored (t := ⟨old, new, moves⟩) ⟨A0, c0, A1, c1, A2, c2, rfl, q0, q1, q2, hne⟩ d2 _ _ _ _ _ _
    · exact (below_set (below_set (below_set hBb1 (by omega) _ _) (by omega) _ _) (by omega) _ _).mono hb
    · exact far_set (far_set (far_set (far_below hBb1) (by omega) _ _) (by omega) _ _) (by omega) _ _
  | true =>
    have hR : addsT ⟨old, new, moves⟩ ⟨op, cn, ⟨tn, tk, tl⟩, ⟨dk, db, dt⟩, order⟩ = (⟨old, new ++ [⟨tn, tk, tl⟩], moves ++ [⟨-1, ⟨dk, db, dt⟩⟩]⟩, 0) := by unfold addsT; rw [hval]; rfl
    have HR := Lib.hid hR
    have HV := Lib.hid hval
    clear hR hval
    refine (kind_Right ⟨dk, db, dt⟩ ⟨tn, tk, tl⟩ _ hd0 hd1).mono ?_
    rintro e w1 ⟨rfl, hb1⟩
    rw [HV.out]
    have q0 := p0.below hb1
    have q1 := p1.below hb1
    have q2 := p2.below hb1
    have d0 := b0.below hb1
    have d1 := b1.below hb1
    have d2 := b2.below hb1
    have hBb1 := hBb.trans (hb1.mono (by have := hB.size; omega))
    clear b0 b1 b2 p0 p1 p2 hB hBb hb1
    have x1 := d0.cellIs 1 (.slice A1 new.length c1) rfl
    have u2 := d1.cellIs 2 (.string tn) rfl
    have u3 := d1.cellIs 3 (.int .i64 tk) rfl
    have u4 := d1.cellIs 4 (.int .i64 tl) rfl
    have hlt0 := d0.lt
    have hlt1 := d1.lt
    have q1l : new.length + 1 ≤ 60000 := by omega
    have q2l : moves.length + 1 ≤ 60000 := by omega
    have hb1s : base ≤ w1.heap.size := by have := d0.lt; omega
    have u5 := d1.cellIs 5 (.int .i64 dk) rfl
    have u6 := d1.cellIs 6 (.int .u64 db) rfl
    have u7 := d1.cellIs 7 (.string dt) rfl
    have hmid : Mid w1 w1 base w.heap.size old new moves A0 A1 A2 c0 c1 c2 := ⟨d0, q0, q1, q2, hne, Below.refl _ _, fun _ _ _ _ _ _ h => h⟩
    go_wp2_with (at_builtin; refine Stopped.out ?_)
    constructor
    refine wp_append_one FF base rfl (.tmp 14) (.tmp 17) 22 43 _ 32 rfl Try.underlying22 infoF rfl (by decide) (.slice A1 new.length c1) new ⟨tn, tk, tl⟩ _ rfl rfl rfl q1 hb1s q1l (by decide) ?_
    intro v5 w5 ho hg hat
    obtain ⟨A3, c3, rfl, hc3, hr3⟩ := ho.slice
    have m1 := mid_field hmid hb hg ho hat
    have e0 := d0.beside q1 (by decide) hg
    have s1 := e0.cellIs 1 (.slice A1 new.length c1) rfl
    have s3 := e0.frozen 1
    have hl5 := e0.lt
    have e1 := d1.beside q1 (by decide) hg
    have s4 := e1.cellIs 5 (.int .i64 dk) rfl
    have t1 := m1.other _ _ _ (by simp) (by decide) (by decide) d1
    have s2 := m1.box.cellIs 2 (.slice A2 moves.length c2) rfl
    have s5 := t1.cellIs 5 (.int .i64 dk) rfl
    have s6 := t1.cellIs 6 (.int .u64 db) rfl
    have s7 := t1.cellIs 7 (.string dt) rfl
    have hbm := Nat.le_trans hb (Nat.le_of_lt m1.box.lt)
    clear hr3
    go_wp2_with (at_builtin; refine Stopped.out ?_)
    constructor
    refine wp_append_at FM w5.heap.size (by simp [World.setCell]) base rfl (.tmp 21) (.tmp 25) 26 57 _ 40 rfl Try.underlying26 infoM rfl (by decide) (.slice A2 moves.length c2) moves ⟨-1, ⟨dk, db, dt⟩⟩ _ rfl rfl rfl m1.o2 hbm q2l (by decide) ?_
    intro v7 w7 ho7 hg7 hat7
    obtain ⟨A4, c4, rfl, hc4, hr4⟩ := ho7.slice
    have m2 := mid_move m1 hb hg7 ho7
    have k0 := m1.box.beside m1.o2 (by decide) hg7
    have j0 := k0.cellIs 0 (.slice A0 old.length c0) rfl
    have j1 := k0.cellIs 1 (.slice A3 (new ++ [(⟨tn, tk, tl⟩ : Fld)]).length c3) rfl
    have j2 := k0.cellIs 2 (.slice A2 moves.length c2) rfl
    have j3 := k0.frozen 2
    have hl7 := k0.lt
    have b2' := m2.other _ _ _ (by simp) (by decide) (by decide) d2
    have x0 := m2.box.cellIs 0 (.slice A0 old.length c0) rfl
    have x1' := m2.box.cellIs 1 (.slice A3 (new ++ [(⟨tn, tk, tl⟩ : Fld)]).length c3) rfl
    have x2' := m2.box.cellIs 2 (.slice A4 (moves ++ [(⟨-1, ⟨dk, db, dt⟩⟩ : Mv)]).length c4) rfl
    have y0 := b2'.cellIs 0 (.slice none 0 0) rfl
    have y1 := b2'.cellIs 1 (.slice none 0 0) rfl
    have y2 := b2'.cellIs 2 (.slice none 0 0) rfl
    have z0 := b2'.frozen 0
    have z1 := b2'.frozen 1
    have z2 := b2'.frozen 2
    simp only [List.length_append, List.length_cons, List.length_nil, Nat.zero_add] at j1 x1' x2'
    clear hr4 x1
    go_wp2_with fail
    refine bodyPost_ret (v := .tuple #[.agg #[.slice A0 old.length c0, .slice A3 (new.length + 1) c3, .slice A4 (moves.length + 1) c4], .int .i64 0]) (by simp [results, Try.results26, go_sem, y0, y1, y2]) rfl ⟨_, by rw [HR.out], ?_, ?_, ?_⟩
    · rw [HR.out]
      have h9 := m2.tab
      simp only [List.length_append, List.length_cons, List.length_nil, Nat.zero_add] at h9
      exact h9.stored b2' _ _ _ _ _ _
    · exact below_set (below_set (below_set ((hBb1.mono hb).trans m2.below) (by omega) _ _) (by omega) _ _) (by omega) _ _
    · exact far_set (far_set (far_set (m2.far hBb1 (Nat.le_refl _)) (by omega) _ _) (by omega) _ _) (by omega) _ _
end Go.Proofs.Ytdggnnbgiadgaaa
