/- change.drops, renames, recasts. -/
import Derived.Test.YtdggnnbgiadgaaaCh1
set_option linter.unusedVariables false
namespace Go.Proofs.Ytdggnnbgiadgaaa
open Go.RowKit

theorem mid_new {w0 w1 w5 : World} {base g n' : Nat} {old new new' : List Fld} {moves : List Mv} {A0 A1 A2 A3 : Option Addr} {c0 c1 c2 c3 : Nat} (hm : Mid w0 w1 base g old new moves A0 A1 A2 c0 c1 c2) (hbg : base ≤ g)
    (hg : w1.grownBy w5 (Value.slice A1 new.length c1).ownBlock) (hn : n' = new'.length) (ho : Own FF 43 w5 base (.slice A3 n' c3) new')
    (hat : (Value.slice A3 n' c3).ownBlock = (Value.slice A1 new.length c1).ownBlock) :
    Mid w0 (w5.setCell ⟨g, 1, none⟩ (.slice A3 n' c3)) base g old new' moves A0 A3 A2 c0 c3 c2 := by
  subst hn
  have e0 := hm.box.beside hm.o1 (by decide) hg
  have hw1 : base ≤ w1.heap.size := by have := hm.box.lt; omega
  have k0 : Own FF 43 w5 base (.slice A0 old.length c0) old := hm.o0.grown hg (ne_symm hm.ne)
  have k2 := hm.o2.beside hm.o1 (by decide) hg
  refine ⟨e0.set_ 1 (.slice A3 new'.length c3), k0.far_ (k0.ne_block e0 (by decide)) _ _, ho.far_ (ho.ne_block e0 (by decide)) _ _, k2.far_ (k2.ne_block e0 (by decide)) _ _, ?_, ?_, ?_⟩
  · rw [hat]; exact hm.ne
  · exact below_set (below_grownOwn hm.below hm.o1 hg hw1 (Nat.le_refl _)) hbg _ _
  · intro k t cs hk ht h2 hb
    exact ((hm.other k t cs hk ht h2 hb).beside hm.o1 (fun e => ht e.symm) hg).far (p := ⟨g, 1, none⟩) hk _
theorem mid_mv {w0 w1 w5 : World} {base g n' : Nat} {old new : List Fld} {moves moves' : List Mv} {A0 A1 A2 A3 : Option Addr} {c0 c1 c2 c3 : Nat} (hm : Mid w0 w1 base g old new moves A0 A1 A2 c0 c1 c2) (hbg : base ≤ g)
    (hg : w1.grownBy w5 (Value.slice A2 moves.length c2).ownBlock) (hn : n' = moves'.length) (ho : Own FM 57 w5 base (.slice A3 n' c3) moves') :
    Mid w0 (w5.setCell ⟨g, 2, none⟩ (.slice A3 n' c3)) base g old new moves' A0 A1 A3 c0 c1 c3 := by
  subst hn
  have e0 := hm.box.beside hm.o2 (by decide) hg
  have hw1 : base ≤ w1.heap.size := by have := hm.box.lt; omega
  have k0 := hm.o0.beside hm.o2 (by decide) hg
  have k1 := hm.o1.beside hm.o2 (by decide) hg
  refine ⟨e0.set_ 2 (.slice A3 moves'.length c3), k0.far_ (k0.ne_block e0 (by decide)) _ _, k1.far_ (k1.ne_block e0 (by decide)) _ _, ho.far_ (ho.ne_block e0 (by decide)) _ _, hm.ne, ?_, ?_⟩
  · exact below_set (below_grownOwn hm.below hm.o2 hg hw1 (Nat.le_refl _)) hbg _ _
  · intro k t cs hk h1 h2 hb
    exact ((hm.other k t cs hk h1 h2 hb).beside hm.o2 (fun e => h2 e.symm) hg).far (p := ⟨g, 2, none⟩) hk _

theorem tw_length {α : Type} (l : List α) (k : Nat) (hk : k < l.length) : l.length - 1 = (l.take k ++ l.drop (k + 1)).length := by simp; omega

theorem change_drops (t : Tb) (c : Ch) (v : Value) (A : Option Addr) (cp base k : Nat) (w : World) (hv : OwnTab w base v t) (hb : base ≤ w.heap.size) (hn : t.new.length ≤ 40000) (hm : t.moves.length ≤ 40000) (hk : k < t.new.length) (hk2 : k < t.moves.length) :
    Calls Try.prog 28 #[v, .agg (chCells c A cp), .int .i64 k] w (RetTE w base (dropsT t k, 0)) := by
  obtain ⟨old, new, moves⟩ := t
  obtain ⟨op, cn, ⟨tn, tk, tl⟩, ⟨dk, db, dt⟩, order⟩ := c
  obtain ⟨A0, c0, A1, c1, A2, c2, rfl, o0, o1, o2, hne⟩ := hv
  dsimp only at *
  obtain ⟨g1, cur1, rfl, -, -, -, -, -, -, -⟩ := o1.form (by omega)
  obtain ⟨g2, cur2, rfl, -, -, -, -, -, -, -⟩ := o2.form (by omega)
  obtain ⟨W, hW⟩ : ∃ W, W = ((w.alloc (Obj.cells #[.slice A0 old.length c0, .slice (some ⟨g1, 0, none⟩) new.length c1, .slice (some ⟨g2, 0, none⟩) moves.length c2] 28)).alloc (Obj.cells (chCells ⟨op, cn, ⟨tn, tk, tl⟩, ⟨dk, db, dt⟩, order⟩ A cp) 52)).alloc (Obj.cells #[.slice none 0 0, .slice none 0 0, .slice none 0 0] 28) := ⟨_, rfl⟩
  have b0 : Blk W w.heap.size 28 #[.slice A0 old.length c0, .slice (some ⟨g1, 0, none⟩) new.length c1, .slice (some ⟨g2, 0, none⟩) moves.length c2] := by rw [hW]; exact ((Blk.new _ _ _).alloc _).alloc _
  have b2 : Blk W (w.heap.size + 2) 28 #[.slice none 0 0, .slice none 0 0, .slice none 0 0] := by
    rw [hW]
    have := Blk.new ((w.alloc (Obj.cells #[.slice A0 old.length c0, .slice (some ⟨g1, 0, none⟩) new.length c1, .slice (some ⟨g2, 0, none⟩) moves.length c2] 28)).alloc (Obj.cells (chCells ⟨op, cn, ⟨tn, tk, tl⟩, ⟨dk, db, dt⟩, order⟩ A cp) 52)) 28 #[.slice none 0 0, .slice none 0 0, .slice none 0 0]
    simpa using this
  have hB : Below w.heap.size w W := by rw [hW]; exact (below_two _ _ _).alloc (by simp; omega) _
  have p0 := o0.below hB
  have p1 := o1.below hB
  have p2 := o2.below hB
  have hBb := hB
  have hmid : Mid W W base w.heap.size old new moves A0 (some ⟨g1, 0, none⟩) (some ⟨g2, 0, none⟩) c0 c1 c2 := ⟨b0, p0, p1, p2, hne, Below.refl _ _, fun _ _ _ _ _ _ h => h⟩
  have hn5 : new.length ≤ 50000 := by omega
  have hm5 : moves.length ≤ 50000 := by omega
  go_enter Try.func28, Try.ntmps28
  go_wp2_with fail
  rw [← hW]
  clear hW
  refine (del_F g1 c1 k base new _ p1 hk hn5).mono ?_
  rintro e w1 ⟨rfl, ho1, hg1⟩
  have m1 := mid_new hmid hb hg1 (tw_length new k hk) ho1 rfl
  have e0 := b0.beside p1 (by decide) hg1
  have s1 := e0.cellIs 1 (.slice (some ⟨g1, 0, none⟩) new.length c1) rfl
  have s3 := e0.frozen 1
  have hl1 := e0.lt
  have x2 := m1.box.cellIs 2 (.slice (some ⟨g2, 0, none⟩) moves.length c2) rfl
  clear b0 e0 hmid p0 p1 p2 o0 o1 o2 hne
  go_wp2_with fail
  refine (del_M g2 c2 k base moves _ m1.o2 hk2 hm5).mono ?_
  rintro e w2 ⟨rfl, ho2, hg2⟩
  have m2 := mid_mv m1 hb hg2 (tw_length moves k hk2) ho2
  have e0 := m1.box.beside m1.o2 (by decide) hg2
  have u1 := e0.cellIs 2 (.slice (some ⟨g2, 0, none⟩) moves.length c2) rfl
  have u3 := e0.frozen 2
  have hl2 := e0.lt
  have b2' := m2.other _ _ _ (by simp) (by decide) (by decide) b2
  have x0 := m2.box.cellIs 0 (.slice A0 old.length c0) rfl
  have x1 := m2.box.cellIs 1 (.slice (some ⟨g1, 0, none⟩) (new.take k ++ new.drop (k + 1)).length c1) rfl
  have x2' := m2.box.cellIs 2 (.slice (some ⟨g2, 0, none⟩) (moves.take k ++ moves.drop (k + 1)).length c2) rfl
  rw [← tw_length new k hk] at x1
  rw [← tw_length moves k hk2] at x2'
  have y0 := b2'.cellIs 0 (.slice none 0 0) rfl
  have y1 := b2'.cellIs 1 (.slice none 0 0) rfl
  have y2 := b2'.cellIs 2 (.slice none 0 0) rfl
  have z0 := b2'.frozen 0
  have z1 := b2'.frozen 1
  have z2 := b2'.frozen 2
  clear e0 s1 s3 x2
  go_wp2_with fail
  refine bodyPost_ret (v := .tuple #[.agg #[.slice A0 old.length c0, .slice (some ⟨g1, 0, none⟩) (new.length - 1) c1, .slice (some ⟨g2, 0, none⟩) (moves.length - 1) c2], .int .i64 0]) (by simp [results, Try.results28, go_sem, y0, y1, y2]) rfl ⟨_, rfl, ?_, ?_, ?_⟩
  · have h9 := m2.tab
    rw [← tw_length new k hk, ← tw_length moves k hk2] at h9
    exact h9.stored b2' _ _ _ _ _ _
  · exact below_set (below_set (below_set ((hBb.mono hb).trans m2.below) (by omega) _ _) (by omega) _ _) (by omega) _ _
  · exact far_set (far_set (far_set (m2.far hBb (Nat.le_refl _)) (by omega) _ _) (by omega) _ _) (by omega) _ _

/-! ### A store into an element -/
theorem Flat.cells_set {α : Type} (F : Flat α) (xs : List α) (k j : Nat) (x y : α) (u : Value) (hx : xs[k]? = some x) (hj : j < F.sz) (hy : F.enc y = (F.enc x).set j u) : F.cells (xs.set k y) = (F.cells xs).set (k * F.sz + j) u := by
  induction xs generalizing k with
  | nil => simp at hx
  | cons a xs ih =>
    cases k with
    | zero =>
      simp at hx
      subst hx
      rw [List.set_cons_zero, F.cells_cons, F.cells_cons, hy, Nat.zero_mul, Nat.zero_add, List.set_append_left _ _ (by rw [F.len]; exact hj)]
    | succ k =>
      rw [List.set_cons_succ, F.cells_cons, F.cells_cons, ih k (by simpa using hx), List.set_append_right _ _ (by rw [F.len, Nat.add_mul]; omega), F.len]
      congr 2
      rw [Nat.add_mul]; omega
theorem Own.store {α : Type} {F : Flat α} {e : TypeId} {w : World} {base g c n : Nat} {xs : List α} (h : Own F e w base (.slice (some ⟨g, 0, none⟩) n c) xs) {k j : Nat} {x y : α} {u : Value} (hx : xs[k]? = some x) (hj : j < F.sz) (hy : F.enc y = (F.enc x).set j u) :
    Own F e (w.setCell ⟨g, k * F.sz + j, none⟩ u) base (.slice (some ⟨g, 0, none⟩) n c) (xs.set k y) := by
  obtain ⟨cur, rfl, _⟩ := h.formS
  unfold Own at h ⊢
  rw [F.cells_set xs k j x y u hx hj hy, List.length_set]
  exact (h.stored (k * F.sz + j) u).1
theorem Own.elem {α : Type} {F : Flat α} {e : TypeId} {w : World} {base g c n : Nat} {xs : List α} (h : Own F e w base (.slice (some ⟨g, 0, none⟩) n c) xs) {k j : Nat} {x : α} {u : Value} (hx : xs[k]? = some x) (hj : j < F.sz) (hu : (F.enc x)[j]? = some u) :
    w.cell? ⟨g, k * F.sz + j, none⟩ = some u ∧ w.frozen? ⟨g, k * F.sz + j, none⟩ = false := by
  obtain ⟨cur, rfl, hb, hh, _⟩ := h.formS
  refine ⟨?_, hh.frozen _⟩
  have hg := F.cells_get xs k j hj
  rw [hx] at hg
  obtain ⟨ad, he, hc⟩ := h.at_.2 (k * F.sz + j) u (by rw [hg]; exact hu)
  cases he
  simpa [Addr.add_lit] using hc
theorem grown_set (w : World) (g i : Nat) (u : Value) : w.grownBy (w.setCell ⟨g, i, none⟩ u) (some g) :=
  ⟨rfl, rfl, rfl, by simp [World.setCell], fun i hi hne => Below.heap_setCell _ _ _ _ (by rintro rfl; exact hne rfl)⟩

theorem mid_in {w0 w1 w5 : World} {base g : Nat} {old new new' : List Fld} {moves : List Mv} {A0 A1 A2 : Option Addr} {c0 c1 c2 : Nat} (hm : Mid w0 w1 base g old new moves A0 A1 A2 c0 c1 c2) (hbg : base ≤ g)
    (hg : w1.grownBy w5 (Value.slice A1 new.length c1).ownBlock) (hn : new'.length = new.length) (ho : Own FF 43 w5 base (.slice A1 new.length c1) new') :
    Mid w0 w5 base g old new' moves A0 A1 A2 c0 c1 c2 := by
  have e0 := hm.box.beside hm.o1 (by decide) hg
  have hw1 : base ≤ w1.heap.size := by have := hm.box.lt; omega
  have k0 : Own FF 43 w5 base (.slice A0 old.length c0) old := hm.o0.grown hg (ne_symm hm.ne)
  have k2 := hm.o2.beside hm.o1 (by decide) hg
  refine ⟨by rw [hn]; exact e0, k0, by rw [hn]; exact ho, k2, by rw [hn]; exact hm.ne, below_grownOwn hm.below hm.o1 hg hw1 (Nat.le_refl _), ?_⟩
  intro k t cs hk ht h2 hb
  exact (hm.other k t cs hk ht h2 hb).beside hm.o1 (fun e => ht e.symm) hg

theorem modify_set {l : List Fld} {k : Nat} {f : Fld} (g : Fld → Fld) (hf : l[k]? = some f) : l.modify k g = l.set k (g f) := by
  apply List.ext_getElem?
  intro i
  rw [List.getElem?_modify, List.getElem?_set]
  by_cases h : k = i
  · subst h
    obtain ⟨h1, h2⟩ := List.getElem?_eq_some_iff.1 hf
    simp [h1, h2]
  · simp [h]


theorem change_renames (t : Tb) (c : Ch) (v : Value) (A : Option Addr) (cp base k : Nat) (w : World) (hv : OwnTab w base v t) (hb : base ≤ w.heap.size) (hn : t.new.length ≤ 40000) (hk : k < t.new.length) :
    Calls Try.prog 29 #[v, .agg (chCells c A cp), .int .i64 k] w (RetTE w base (renamesT t c k, 0)) := by
  obtain ⟨old, new, moves⟩ := t
  obtain ⟨op, cn, ⟨tn, tk, tl⟩, ⟨dk, db, dt⟩, order⟩ := c
  obtain ⟨A0, c0, A1, c1, A2, c2, rfl, o0, o1, o2, hne⟩ := hv
  dsimp only at *
  obtain ⟨g1, cur1, rfl, -, -, -, -, -, -, -⟩ := o1.form (by omega)
  obtain ⟨W, hW⟩ : ∃ W, W = ((w.alloc (Obj.cells #[.slice A0 old.length c0, .slice (some ⟨g1, 0, none⟩) new.length c1, .slice A2 moves.length c2] 28)).alloc (Obj.cells (chCells ⟨op, cn, ⟨tn, tk, tl⟩, ⟨dk, db, dt⟩, order⟩ A cp) 52)).alloc (Obj.cells #[.slice none 0 0, .slice none 0 0, .slice none 0 0] 28) := ⟨_, rfl⟩
  have b0 : Blk W w.heap.size 28 #[.slice A0 old.length c0, .slice (some ⟨g1, 0, none⟩) new.length c1, .slice A2 moves.length c2] := by rw [hW]; exact ((Blk.new _ _ _).alloc _).alloc _
  have b1 : Blk W (w.heap.size + 1) 52 (chCells ⟨op, cn, ⟨tn, tk, tl⟩, ⟨dk, db, dt⟩, order⟩ A cp) := by rw [hW]; exact (Blk.second _ _ _ _).alloc _
  have b2 : Blk W (w.heap.size + 2) 28 #[.slice none 0 0, .slice none 0 0, .slice none 0 0] := by
    rw [hW]
    have := Blk.new ((w.alloc (Obj.cells #[.slice A0 old.length c0, .slice (some ⟨g1, 0, none⟩) new.length c1, .slice A2 moves.length c2] 28)).alloc (Obj.cells (chCells ⟨op, cn, ⟨tn, tk, tl⟩, ⟨dk, db, dt⟩, order⟩ A cp) 52)) 28 #[.slice none 0 0, .slice none 0 0, .slice none 0 0]
    simpa using this
  have hB : Below w.heap.size w W := by rw [hW]; exact (below_two _ _ _).alloc (by simp; omega) _
  have p0 := o0.below hB
  have p1 := o1.below hB
  have p2 := o2.below hB
  have hBb := hB
  have hmid : Mid W W base w.heap.size old new moves A0 (some ⟨g1, 0, none⟩) A2 c0 c1 c2 := ⟨b0, p0, p1, p2, hne, Below.refl _ _, fun _ _ _ _ _ _ h => h⟩
  have hf : new[k]? = some new[k] := List.getElem?_eq_getElem hk
  obtain ⟨h1, h2⟩ := p1.elem (j := 0) (u := .string new[k].name) hf (by decide) rfl
  have hst := p1.store (j := 0) (u := .string tn) (y := ⟨tn, new[k].kind, new[k].long⟩) hf (by decide) rfl
  have h3 : W.cell? ⟨g1, k * 3, none⟩ = some (.string new[k].name) := h1
  have h4 : W.frozen? ⟨g1, k * 3, none⟩ = false := h2
  have hst' : Own FF 43 (W.setCell ⟨g1, k * 3, none⟩ (.string tn)) base (.slice (some ⟨g1, 0, none⟩) new.length c1) (new.set k ⟨tn, new[k].kind, new[k].long⟩) := hst
  have m1 := mid_in hmid hb (grown_set W g1 (k * 3) (.string tn)) (by simp) hst'
  have HM : Hid (renamesT ⟨old, new, moves⟩ ⟨op, cn, ⟨tn, tk, tl⟩, ⟨dk, db, dt⟩, order⟩ k = ⟨old, new.set k ⟨tn, new[k].kind, new[k].long⟩, moves⟩) := by
    simp only [Hid, renamesT]; rw [modify_set _ hf]
  have b2' := m1.other _ _ _ (by simp) (by decide) (by decide) b2
  have x0 := m1.box.cellIs 0 (.slice A0 old.length c0) rfl
  have x1 := m1.box.cellIs 1 (.slice (some ⟨g1, 0, none⟩) (new.set k ⟨tn, new[k].kind, new[k].long⟩).length c1) rfl
  have x2' := m1.box.cellIs 2 (.slice A2 moves.length c2) rfl
  rw [List.length_set] at x1
  have y0 := b2'.cellIs 0 (.slice none 0 0) rfl
  have y1 := b2'.cellIs 1 (.slice none 0 0) rfl
  have y2 := b2'.cellIs 2 (.slice none 0 0) rfl
  have z0 := b2'.frozen 0
  have z1 := b2'.frozen 1
  have z2 := b2'.frozen 2
  have u1 := b0.cellIs 1 (.slice (some ⟨g1, 0, none⟩) new.length c1) rfl
  have u2 := b1.cellIs 2 (.string tn) rfl
  clear b0 b1 hmid p0 p1 p2 o0 o1 o2 hne h1 h2 hf hst hst'
  go_enter Try.func29, Try.ntmps29
  go_upto_region 1 with fail
  rw [← hW]
  clear hW
  go_wp2_with fail
  refine bodyPost_ret (v := .tuple #[.agg #[.slice A0 old.length c0, .slice (some ⟨g1, 0, none⟩) new.length c1, .slice A2 moves.length c2], .int .i64 0]) (by simp [results, Try.results29, go_sem, y0, y1, y2]) rfl ⟨_, rfl, ?_, ?_, ?_⟩
  · rw [HM.out]
    have h9 := m1.tab
    rw [List.length_set] at h9
    exact h9.stored b2' _ _ _ _ _ _
  · exact below_set (below_set (below_set ((hBb.mono hb).trans m1.below) (by omega) _ _) (by omega) _ _) (by omega) _ _
  · exact far_set (far_set (far_set (m1.far hBb (Nat.le_refl _)) (by omega) _ _) (by omega) _ _) (by omega) _ _

def recastsT (t : Tb) (c : Ch) (k : Nat) : Tb × Int :=
  if castsB (t.new.getD k Fld.zero).kind (t.new.getD k Fld.zero).long c.dst.kind c.dst.long = true then (⟨t.old, t.new.modify k fun f => { f with kind := c.dst.kind, long := c.dst.long }, t.moves⟩, 0) else (t, 80)

theorem casts_is {n m : ByteArray} {x k y l : Int} (w : World) {b : Bool} (hb : castsB x k y l = b) : Calls Try.prog 25 #[.agg #[.string n, .int .i64 x, .int .i64 k], .agg #[.string m, .int .i64 y, .int .i64 l]] w fun e w' => e = .returned (.bool b) ∧ Below w.heap.size w w' := by
  subst hb; exact kind_Casts _ _ _ _ _ _ w

theorem change_recasts (t : Tb) (c : Ch) (v : Value) (A : Option Addr) (cp base k : Nat) (w : World) (hv : OwnTab w base v t) (hb : base ≤ w.heap.size) (hn : t.new.length ≤ 40000) (hk : k < t.new.length) :
    Calls Try.prog 30 #[v, .agg (chCells c A cp), .int .i64 k] w (RetTE w base (recastsT t c k)) := by
  obtain ⟨old, new, moves⟩ := t
  obtain ⟨op, cn, ⟨tn, tk, tl⟩, ⟨dk, db, dt⟩, order⟩ := c
  obtain ⟨A0, c0, A1, c1, A2, c2, rfl, o0, o1, o2, hne⟩ := hv
  dsimp only at *
  obtain ⟨g1, cur1, rfl, -, -, -, -, -, -, -⟩ := o1.form (by omega)
  obtain ⟨W, hW⟩ : ∃ W, W = ((w.alloc (Obj.cells #[.slice A0 old.length c0, .slice (some ⟨g1, 0, none⟩) new.length c1, .slice A2 moves.length c2] 28)).alloc (Obj.cells (chCells ⟨op, cn, ⟨tn, tk, tl⟩, ⟨dk, db, dt⟩, order⟩ A cp) 52)).alloc (Obj.cells #[.slice none 0 0, .slice none 0 0, .slice none 0 0] 28) := ⟨_, rfl⟩
  have b0 : Blk W w.heap.size 28 #[.slice A0 old.length c0, .slice (some ⟨g1, 0, none⟩) new.length c1, .slice A2 moves.length c2] := by rw [hW]; exact ((Blk.new _ _ _).alloc _).alloc _
  have b1 : Blk W (w.heap.size + 1) 52 (chCells ⟨op, cn, ⟨tn, tk, tl⟩, ⟨dk, db, dt⟩, order⟩ A cp) := by rw [hW]; exact (Blk.second _ _ _ _).alloc _
  have b2 : Blk W (w.heap.size + 2) 28 #[.slice none 0 0, .slice none 0 0, .slice none 0 0] := by
    rw [hW]
    have := Blk.new ((w.alloc (Obj.cells #[.slice A0 old.length c0, .slice (some ⟨g1, 0, none⟩) new.length c1, .slice A2 moves.length c2] 28)).alloc (Obj.cells (chCells ⟨op, cn, ⟨tn, tk, tl⟩, ⟨dk, db, dt⟩, order⟩ A cp) 52)) 28 #[.slice none 0 0, .slice none 0 0, .slice none 0 0]
    simpa using this
  have hB : Below w.heap.size w W := by rw [hW]; exact (below_two _ _ _).alloc (by simp; omega) _
  have p0 := o0.below hB
  have p1 := o1.below hB
  have p2 := o2.below hB
  have hBb := hB
  have hmid : Mid W W base w.heap.size old new moves A0 (some ⟨g1, 0, none⟩) A2 c0 c1 c2 := ⟨b0, p0, p1, p2, hne, Below.refl _ _, fun _ _ _ _ _ _ h => h⟩
  have hf : new[k]? = some new[k] := List.getElem?_eq_getElem hk
  have hgd : new.getD k Fld.zero = new[k] := by rw [List.getD_eq_getElem?_getD, hf]; rfl
  obtain ⟨a0, a0'⟩ := p1.elem (j := 0) (u := .string new[k].name) hf (by decide) rfl
  obtain ⟨a1, a1'⟩ := p1.elem (j := 1) (u := .int .i64 new[k].kind) hf (by decide) rfl
  obtain ⟨a2, a2'⟩ := p1.elem (j := 2) (u := .int .i64 new[k].long) hf (by decide) rfl
  have e0 : W.cell? ⟨g1, k * 3, none⟩ = some (.string new[k].name) := a0
  have e1 : W.cell? ⟨g1, k * 3 + 1, none⟩ = some (.int .i64 new[k].kind) := a1
  have e2 : W.cell? ⟨g1, k * 3 + 2, none⟩ = some (.int .i64 new[k].long) := a2
  have ek : (k : Int) < (new.length : Int) := by omega
  obtain ⟨fo, hfo⟩ : ∃ fo, fo = new[k] := ⟨_, rfl⟩
  rw [← hfo] at e0 e1 e2 hf hgd
  clear hfo a0 a1 a2 a0' a1' a2'
  have u1 := b0.cellIs 1 (.slice (some ⟨g1, 0, none⟩) new.length c1) rfl
  have u2 := b1.cellIs 2 (.string tn) rfl
  have u3 := b1.cellIs 3 (.int .i64 tk) rfl
  have u4 := b1.cellIs 4 (.int .i64 tl) rfl
  have HF := Lib.hid hf
  have HG := Lib.hid hgd
  clear hf hgd
  cases hcs : castsB fo.kind fo.long tk tl with
  | false =>
    have HC := Lib.hid hcs
    have HR : Hid (recastsT ⟨old, new, moves⟩ ⟨op, cn, ⟨tn, tk, tl⟩, ⟨dk, db, dt⟩, order⟩ k = (⟨old, new, moves⟩, 80)) := by
      simp only [Hid, recastsT, HG.out, HC.out]; rfl
    clear hcs
    go_enter Try.func30, Try.ntmps30
    go_upto_region 1 with fail
    rw [← hW]
    clear hW
    have v0 := bwc e0
    have v1 := bwc e1
    have v2 := bwc e2
    have t1 := bwc u1
    have t2 := bwc u2
    have t3 := bwc u3
    have t4 := bwc u4
    refine wp_region_below (by kernel_rfl) (by kernel_rfl) ?_
    repeat (go_big_quiet_step ((go_at_call 25; exact below_of (casts_is _ HC.out))))
    refine wpQuiet_nil ?_
    intro w1 hb1
    have d0 := b0.below hb1
    have d2 := b2.below hb1
    have q0 := p0.below hb1
    have q1 := p1.below hb1
    have q2 := p2.below hb1
    have hBb1 := hBb.trans (hb1.mono (by have := hB.size; omega))
    clear v0 v1 v2 t1 t2 t3 t4 u1 u2 u3 u4 e0 e1 e2 b0 b1 b2 p0 p1 p2 hmid o0 o1 o2
    have x0 := d0.cellIs 0 (.slice A0 old.length c0) rfl
    have x1 := d0.cellIs 1 (.slice (some ⟨g1, 0, none⟩) new.length c1) rfl
    have x2 := d0.cellIs 2 (.slice A2 moves.length c2) rfl
    have y0 := d2.cellIs 0 (.slice none 0 0) rfl
    have y1 := d2.cellIs 1 (.slice none 0 0) rfl
    have y2 := d2.cellIs 2 (.slice none 0 0) rfl
    have z0 := d2.frozen 0
    have z1 := d2.frozen 1
    have z2 := d2.frozen 2
    go_wp2_with fail
    refine bodyPost_ret (v := .tuple #[.agg #[.slice A0 old.length c0, .slice (some ⟨g1, 0, none⟩) new.length c1, .slice A2 moves.length c2], .int .i64 80]) (by simp [results, Try.results30, go_sem, y0, y1, y2]) rfl ⟨_, by rw [HR.out], ?_, ?_, ?_⟩
    · rw [HR.out]
      exact OwnTab.stored (t := ⟨old, new, moves⟩) ⟨A0, c0, _, c1, A2, c2, rfl, q0, q1, q2, hne⟩ d2 _ _ _ _ _ _
    · exact (below_set (below_set (below_set hBb1 (by omega) _ _) (by omega) _ _) (by omega) _ _).mono hb
    · exact far_set (far_set (far_set (far_below hBb1) (by omega) _ _) (by omega) _ _) (by omega) _ _
  | true =>
    have HC := Lib.hid hcs
    have HR : Hid (recastsT ⟨old, new, moves⟩ ⟨op, cn, ⟨tn, tk, tl⟩, ⟨dk, db, dt⟩, order⟩ k = (⟨old, new.set k ⟨fo.name, tk, tl⟩, moves⟩, 0)) := by
      simp only [Hid, recastsT, HG.out, HC.out, if_true]; rw [modify_set _ HF.out]
    clear hcs
    go_enter Try.func30, Try.ntmps30
    go_upto_region 1 with fail
    rw [← hW]
    clear hW
    have v0 := bwc e0
    have v1 := bwc e1
    have v2 := bwc e2
    have t1 := bwc u1
    have t2 := bwc u2
    have t3 := bwc u3
    have t4 := bwc u4
    refine wp_region_below (by kernel_rfl) (by kernel_rfl) ?_
    repeat (go_big_quiet_step ((go_at_call 25; exact below_of (casts_is _ HC.out))))
    refine wpQuiet_nil ?_
    intro w1 hb1
    have d0 := b0.below hb1
    have d1 := b1.below hb1
    have d2 := b2.below hb1
    have q0 := p0.below hb1
    have q1 := p1.below hb1
    have q2 := p2.below hb1
    have hBb1 := hBb.trans (hb1.mono (by have := hB.size; omega))
    clear v0 v1 v2 t1 t2 t3 t4 u1 u2 u3 u4 e0 e1 e2 b0 b1 b2 p0 p1 p2 hmid o0 o1 o2
    have x1 := d0.cellIs 1 (.slice (some ⟨g1, 0, none⟩) new.length c1) rfl
    have x3 := d1.cellIs 3 (.int .i64 tk) rfl
    have x4 := d1.cellIs 4 (.int .i64 tl) rfl
    obtain ⟨r1, r1'⟩ := q1.elem (j := 1) (u := .int .i64 fo.kind) HF.out (by decide) rfl
    obtain ⟨r2, r2'⟩ := q1.elem (j := 2) (u := .int .i64 fo.long) HF.out (by decide) rfl
    have s1 : w1.cell? ⟨g1, k * 3 + 1, none⟩ = some (.int .i64 fo.kind) := r1
    have s2 : w1.cell? ⟨g1, k * 3 + 2, none⟩ = some (.int .i64 fo.long) := r2
    have s3 : w1.frozen? ⟨g1, k * 3 + 1, none⟩ = false := r1'
    have s4 : w1.frozen? ⟨g1, k * 3 + 2, none⟩ = false := r2'
    have n1 : ¬ g1 = w.heap.size := fun e => q1.ne_block d0 (by decide) (by rw [e]; rfl)
    have n2 : ¬ g1 = w.heap.size + 1 := fun e => q1.ne_block d1 (by decide) (by rw [e]; rfl)
    have n1' : ¬ w.heap.size = g1 := fun e => n1 e.symm
    have n2' : ¬ w.heap.size + 1 = g1 := fun e => n2 e.symm
    have D0 := Lib.hid d0
    have D1 := Lib.hid d1
    have D2 := Lib.hid d2
    clear r1 r1' r2 r2' d0 d1 d2
    go_wp2_with fail
    go_region_held3 (fun w' => w'.cell? ⟨w.heap.size, 1, none⟩ = some (.slice (some ⟨g1, 0, none⟩) new.length c1) ∧ w'.cell? ⟨w.heap.size + 1, 3, none⟩ = some (.int .i64 tk) ∧ w'.cell? ⟨w.heap.size + 1, 4, none⟩ = some (.int .i64 tl)) (go_keep) (fail)
    have hs1 := q1.store (j := 1) (u := .int .i64 tk) (y := ⟨fo.name, tk, fo.long⟩) HF.out (by decide) rfl
    have hs2 := hs1.store (k := k) (j := 2) (x := ⟨fo.name, tk, fo.long⟩) (u := .int .i64 tl) (y := ⟨fo.name, tk, tl⟩) (by rw [List.getElem?_set_self hk]) (by decide) rfl
    rw [List.set_set] at hs2
    have hs3 : Own FF 43 ((w1.setCell ⟨g1, k * 3 + 1, none⟩ (.int .i64 tk)).setCell ⟨g1, k * 3 + 2, none⟩ (.int .i64 tl)).drew base (.slice (some ⟨g1, 0, none⟩) new.length c1) (new.set k ⟨fo.name, tk, tl⟩) := Own.drew hs2
    have hgr : w1.grownBy ((w1.setCell ⟨g1, k * 3 + 1, none⟩ (.int .i64 tk)).setCell ⟨g1, k * 3 + 2, none⟩ (.int .i64 tl)).drew (some g1) := by
      have h1 := World.grownBy.trans (grown_set w1 g1 (k * 3 + 1) (.int .i64 tk)) (grown_set _ g1 (k * 3 + 2) (.int .i64 tl))
      exact ⟨h1.os, h1.tape, h1.output, h1.size, h1.block⟩
    have m1 := mid_in (w0 := w1) (g := w.heap.size) (base := base) ⟨D0.out, q0, q1, q2, hne, Below.refl _ _, fun _ _ _ _ _ _ h => h⟩ hb hgr (by simp) hs3
    generalize ((w1.setCell ⟨g1, k * 3 + 1, none⟩ (.int .i64 tk)).setCell ⟨g1, k * 3 + 2, none⟩ (.int .i64 tl)).drew = W5 at *
    have b2' := m1.other _ _ _ (by simp) (by decide) (by decide) D2.out
    have X0 := m1.box.cellIs 0 (.slice A0 old.length c0) rfl
    have X1 := m1.box.cellIs 1 (.slice (some ⟨g1, 0, none⟩) (new.set k ⟨fo.name, tk, tl⟩).length c1) rfl
    have X2 := m1.box.cellIs 2 (.slice A2 moves.length c2) rfl
    rw [List.length_set] at X1
    have y0 := b2'.cellIs 0 (.slice none 0 0) rfl
    have y1 := b2'.cellIs 1 (.slice none 0 0) rfl
    have y2 := b2'.cellIs 2 (.slice none 0 0) rfl
    have z0 := b2'.frozen 0
    have z1 := b2'.frozen 1
    have z2 := b2'.frozen 2
    clear hs1 hs2 hs3 hgr x1 x3 x4 s1 s2 s3 s4 n1 n2 n1' n2' q0 q1 q2
    go_wp2_with fail
    refine bodyPost_ret (v := .tuple #[.agg #[.slice A0 old.length c0, .slice (some ⟨g1, 0, none⟩) new.length c1, .slice A2 moves.length c2], .int .i64 0]) (by simp [results, Try.results30, go_sem, y0, y1, y2]) rfl ⟨_, by rw [HR.out], ?_, ?_, ?_⟩
    · rw [HR.out]
      have h9 := m1.tab
      rw [List.length_set] at h9
      exact h9.stored b2' _ _ _ _ _ _
    · exact below_set (below_set (below_set ((hBb1.mono hb).trans m1.below) (by omega) _ _) (by omega) _ _) (by omega) _ _
    · exact far_set (far_set (far_set (m1.far hBb1 (Nat.le_refl _)) (by omega) _ _) (by omega) _ _) (by omega) _ _
end Go.Proofs.Ytdggnnbgiadgaaa
