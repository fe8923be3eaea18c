/- Blocks that are known whole; tables. -/
import Derived.Test.YtdggnnbgiadgaaaF4
set_option linter.unusedVariables false
namespace Go.Proofs.Ytdggnnbgiadgaaa
open Go.RowKit

def Blk (w : World) (g : Nat) (t : TypeId) (cs : Array Value) : Prop := w.heap[g]? = some (.cells cs t (0, 0))
section
variable {w w1 : World} {g : Nat} {t : TypeId} {cs : Array Value}
theorem Blk.lt (h : Blk w g t cs) : g < w.heap.size := by
  rcases Nat.lt_or_ge g w.heap.size with hlt | hge
  · exact hlt
  · unfold Blk at h; rw [Array.getElem?_eq_none hge] at h; cases h
theorem Blk.cell (h : Blk w g t cs) (i : Nat) : w.cell? ⟨g, i, none⟩ = cs[i]? := by
  unfold Blk at h; simp [World.cell?, h]
theorem Blk.cellIs (h : Blk w g t cs) (i : Nat) (v : Value) (hv : cs[i]? = some v) : w.cell? ⟨g, i, none⟩ = some v := (h.cell i).trans hv
theorem Blk.frozen (h : Blk w g t cs) (i : Nat) : w.frozen? ⟨g, i, none⟩ = false := by
  unfold Blk at h; simp [World.frozen?, h]
theorem Blk.new (w : World) (t : TypeId) (cs : Array Value) : Blk (w.alloc (.cells cs t)) w.heap.size t cs := heap_alloc_new w _
theorem Blk.second (w : World) (o : Obj) (t : TypeId) (cs : Array Value) : Blk ((w.alloc o).alloc (.cells cs t)) (w.heap.size + 1) t cs := by
  have := Blk.new (w.alloc o) t cs
  simpa using this
theorem below_two (w : World) (o o' : Obj) : Below w.heap.size w ((w.alloc o).alloc o') := ((Below.refl _ _).alloc (Nat.le_refl _) _).alloc (by simp) _
theorem Blk.drew (h : Blk w g t cs) : Blk w.drew g t cs := h
theorem Blk.drewN (h : Blk w g t cs) (n : Nat) : Blk (w.drewN n) g t cs := h
theorem Blk.alloc (h : Blk w g t cs) (o : Obj) : Blk (w.alloc o) g t cs := (Below.heap_alloc w o g h.lt).trans h
theorem Blk.set_ (h : Blk w g t cs) (i : Nat) (u : Value) : Blk (w.setCell ⟨g, i, none⟩ u) g t (cs.setIfInBounds i u) := by
  unfold Blk at h ⊢
  simp [World.setCell, Array.getElem?_modify, h]
theorem Blk.far (h : Blk w g t cs) {p : Addr} (hp : g ≠ p.block) (u : Value) : Blk (w.setCell p u) g t cs := (Below.heap_setCell w p u g hp).trans h
theorem Blk.below (h : Blk w g t cs) (hb : Below w.heap.size w w1) : Blk w1 g t cs := (hb.block g h.lt).trans h
theorem Blk.grown {row : Option Nat} (h : Blk w g t cs) (hb : w.grownBy w1 row) (hg : some g ≠ row) : Blk w1 g t cs := (hb.block g h.lt hg).trans h
/-- Another row, of another type, has been appended to. -/
theorem Blk.beside {α : Type} {F : Flat α} {e : TypeId} {base : Nat} {v : Value} {xs : List α} (h : Blk w g t cs) (ho : Own F e w base v xs) (hne : e ≠ t) (hg : w.grownBy w1 v.ownBlock) : Blk w1 g t cs :=
  h.grown hg (fun hv => ho.ne_block h hne hv.symm)
theorem Own.beside {α β : Type} {F : Flat α} {G : Flat β} {e e' : TypeId} {b b' : Nat} {v v' : Value} {xs : List α} {ys : List β} (h : Own G e' w b' v' ys) (ho : Own F e w b v xs) (hne : e' ≠ e) (hg : w.grownBy w1 v.ownBlock) : Own G e' w1 b' v' ys :=
  h.grown hg (h.ne ho hne)
end
theorem below_grownOwn {α : Type} {F : Flat α} {e : TypeId} {b : Nat} {v : Value} {xs : List α} {B : Nat} {a w w1 : World} (h : Below B a w) (ho : Own F e w b v xs) (hg : w.grownBy w1 v.ownBlock) (hB : B ≤ w.heap.size) (hb : B ≤ b) : Below B a w1 :=
  h.grown hg hB (fun k hk => Nat.le_trans hb (ho.lt k hk).1)

/-- The later row is another one. -/
theorem Own.later {α β : Type} {F : Flat α} {G : Flat β} {e e' : TypeId} {w w1 : World} {b : Nat} {v v' : Value} {xs : List α} {ys : List β} (h : Own G e' w1 w.heap.size v' ys) (ho : Own F e w b v xs) : v'.ownBlock = none ∨ v'.ownBlock ≠ v.ownBlock := by
  cases hv : v'.ownBlock with
  | none => exact .inl rfl
  | some k =>
    refine .inr fun e => ?_
    have h1 := (h.lt k hv).1
    have h2 := (ho.lt k e.symm).2
    omega

structure Tb where
  old : List Fld
  new : List Fld
  moves : List Mv
  deriving DecidableEq
def Tb.zero : Tb := ⟨[], [], []⟩

/-- A table of one's own: its rows lie in blocks from base on; the rows of fields are two. -/
def OwnTab (w : World) (base : Nat) (v : Value) (t : Tb) : Prop :=
  ∃ A0 c0 A1 c1 A2 c2, v = .agg #[.slice A0 t.old.length c0, .slice A1 t.new.length c1, .slice A2 t.moves.length c2] ∧
    Own FF 43 w base (.slice A0 t.old.length c0) t.old ∧ Own FF 43 w base (.slice A1 t.new.length c1) t.new ∧ Own FM 57 w base (.slice A2 t.moves.length c2) t.moves ∧
    ((Value.slice A1 t.new.length c1).ownBlock = none ∨ (Value.slice A1 t.new.length c1).ownBlock ≠ (Value.slice A0 t.old.length c0).ownBlock)
/-- A table that is read. -/
def RdTab (w : World) (v : Value) (t : Tb) : Prop :=
  ∃ A0 c0 A1 c1 A2 c2, v = .agg #[.slice A0 t.old.length c0, .slice A1 t.new.length c1, .slice A2 t.moves.length c2] ∧ t.old.length ≤ c0 ∧ t.new.length ≤ c1 ∧ t.moves.length ≤ c2 ∧
    RS FF w A0 t.old ∧ RS FF w A1 t.new ∧ RS FM w A2 t.moves
theorem Own.at_ {α : Type} {F : Flat α} {e : TypeId} {w : World} {base : Nat} {A : Option Addr} {n c : Nat} {xs : List α} (h : Own F e w base (.slice A n c) xs) : xs.length ≤ c ∧ RS F w A xs := by
  obtain ⟨A', c', hv, hc, hr⟩ := h.slice
  cases hv
  exact ⟨hc, hr⟩
theorem OwnTab.rd {w : World} {base : Nat} {v : Value} {t : Tb} (h : OwnTab w base v t) : RdTab w v t := by
  obtain ⟨A0, c0, A1, c1, A2, c2, rfl, h0, h1, h2, _⟩ := h
  exact ⟨A0, c0, A1, c1, A2, c2, rfl, h0.at_.1, h1.at_.1, h2.at_.1, h0.at_.2, h1.at_.2, h2.at_.2⟩
theorem RdTab.below {w w1 : World} {v : Value} {t : Tb} (h : RdTab w v t) (hb : Below w.heap.size w w1) : RdTab w1 v t := by
  obtain ⟨A0, c0, A1, c1, A2, c2, rfl, h0, h1, h2, r0, r1, r2⟩ := h
  exact ⟨A0, c0, A1, c1, A2, c2, rfl, h0, h1, h2, r0.below hb, r1.below hb, r2.below hb⟩
theorem OwnTab.below {w w1 : World} {base : Nat} {v : Value} {t : Tb} (h : OwnTab w base v t) (hb : Below w.heap.size w w1) : OwnTab w1 base v t := by
  obtain ⟨A0, c0, A1, c1, A2, c2, rfl, h0, h1, h2, h3⟩ := h
  exact ⟨A0, c0, A1, c1, A2, c2, rfl, h0.below hb, h1.below hb, h2.below hb, h3⟩
theorem OwnTab.lower {w : World} {base b' : Nat} {v : Value} {t : Tb} (h : OwnTab w base v t) (hb : b' ≤ base) : OwnTab w b' v t := by
  obtain ⟨A0, c0, A1, c1, A2, c2, rfl, h0, h1, h2, h3⟩ := h
  exact ⟨A0, c0, A1, c1, A2, c2, rfl, h0.lower hb, h1.lower hb, h2.lower hb, h3⟩
theorem OwnTab.zero (w : World) (base : Nat) : OwnTab w base (.agg #[.slice none 0 0, .slice none 0 0, .slice none 0 0]) Tb.zero :=
  ⟨none, 0, none, 0, none, 0, rfl, Own.nil _ _ _ _, Own.nil _ _ _ _, Own.nil _ _ _ _, .inl rfl⟩

theorem infoM : (Try.prog.info? 57).map (fun i => (i.zero, i.size, i.bytes)) = some (some (.agg #[.int .i64 0, .int .i64 0, .int .u64 0, .string ⟨#[]⟩]), FM.sz, 40) := by kernel_rfl
theorem infoI : (Try.prog.info? 3).map (fun i => (i.zero, i.size, i.bytes)) = some (some (.int .i64 0), FI.sz, 8) := by kernel_rfl
end Go.Proofs.Ytdggnnbgiadgaaa
