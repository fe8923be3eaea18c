/- Changes as values; what the five ways make, as plain functions. -/
import Derived.Test.YtdggnnbgiadgaaaDel
set_option linter.unusedVariables false
namespace Go.Proofs.Ytdggnnbgiadgaaa
open Go.RowKit

structure Ch where
  op : Int
  name : ByteArray
  dst : Fld
  dflt : Vl
  order : List Int
  deriving DecidableEq
abbrev chCells (c : Ch) (A : Option Addr) (cp : Nat) : Array Value := #[.int .i64 c.op, .string c.name, .string c.dst.name, .int .i64 c.dst.kind, .int .i64 c.dst.long, .int .i64 c.dflt.kind, .int .u64 c.dflt.bits, .string c.dflt.text, .slice A c.order.length cp]
structure ChOk (c : Ch) : Prop where
  dst : FldOk c.dst
  dflt : VlOk c.dflt
  name : c.name.size ≤ 140737488355328
  order : c.order.length ≤ 50000
  ints : ∀ n ∈ c.order, -9223372036854775808 ≤ n ∧ n ≤ 9223372036854775807

def addsT (t : Tb) (c : Ch) : Tb × Int := if valB c.dflt c.dst = true then (⟨t.old, t.new ++ [c.dst], t.moves ++ [⟨-1, c.dflt⟩]⟩, 0) else (t, 80)
def dropsT (t : Tb) (k : Nat) : Tb := ⟨t.old, t.new.take k ++ t.new.drop (k + 1), t.moves.take k ++ t.moves.drop (k + 1)⟩
def renamesT (t : Tb) (c : Ch) (k : Nat) : Tb := ⟨t.old, t.new.modify k fun f => { f with name := c.dst.name }, t.moves⟩

/-- Known blocks that are no rows of fields or moves are as they were. -/
def Far (w w' : World) : Prop := ∀ k t cs, t ≠ 43 → t ≠ 57 → Blk w k t cs → Blk w' k t cs
theorem far_set {a w : World} (h : Far a w) {g : Nat} (hg : a.heap.size ≤ g) (i : Nat) (u : Value) : Far a (w.setCell ⟨g, i, none⟩ u) := fun k t cs h1 h2 hb =>
  (h k t cs h1 h2 hb).far (p := ⟨g, i, none⟩) (by have := hb.lt; show k ≠ g; omega) u
theorem far_below {a w : World} (h : Below a.heap.size a w) : Far a w := fun _ _ _ _ _ hb => hb.below h
/-- A table of one's own and an error are handed back; below base nothing has turned. -/
def RetTE (w : World) (base : Nat) (r : Tb × Int) (e : Ending) (w' : World) : Prop := ∃ v, e = .returned (.tuple #[v, .int .i64 r.2]) ∧ OwnTab w' base v r.1 ∧ Below base w w' ∧ Far w w'

theorem below_set {B : Nat} {a w : World} (h : Below B a w) {g : Nat} (hg : B ≤ g) (i : Nat) (u : Value) : Below B a (w.setCell ⟨g, i, none⟩ u) := h.setCell (p := ⟨g, i, none⟩) hg u
theorem Own.far_ {α : Type} {F : Flat α} {e : TypeId} {w : World} {base : Nat} {v : Value} {xs : List α} (h : Own F e w base v xs) {g : Nat} (hg : v.ownBlock ≠ some g) (i : Nat) (u : Value) : Own F e (w.setCell ⟨g, i, none⟩ u) base v xs := h.far (p := ⟨g, i, none⟩) hg u
/-- A table of one's own, its three cells stored into another block. -/
theorem OwnTab.stored {w : World} {base : Nat} {v : Value} {t : Tb} (h : OwnTab w base v t) {g : Nat} {cs : Array Value} (hg : Blk w g 28 cs) (i j k : Nat) (x y z : Value) :
    OwnTab (((w.setCell ⟨g, i, none⟩ x).setCell ⟨g, j, none⟩ y).setCell ⟨g, k, none⟩ z) base v t := by
  obtain ⟨A0, c0, A1, c1, A2, c2, rfl, q0, q1, q2, hne⟩ := h
  have n2 : ∀ {α : Type} {F : Flat α} {e : TypeId} {b : Nat} {v : Value} {xs : List α}, Own F e w b v xs → e ≠ 28 → v.ownBlock ≠ some g := fun h he => h.ne_block hg he
  exact ⟨A0, c0, A1, c1, A2, c2, rfl, ((q0.far_ (n2 q0 (by decide)) _ _).far_ (n2 q0 (by decide)) _ _).far_ (n2 q0 (by decide)) _ _, ((q1.far_ (n2 q1 (by decide)) _ _).far_ (n2 q1 (by decide)) _ _).far_ (n2 q1 (by decide)) _ _,
        ((q2.far_ (n2 q2 (by decide)) _ _).far_ (n2 q2 (by decide)) _ _).far_ (n2 q2 (by decide)) _ _, hne⟩
theorem ne_after {v v1 u : Value} {W : World} (hne : v.ownBlock = none ∨ v.ownBlock ≠ u.ownBlock) (hat : v1.ownBlock = v.ownBlock ∨ ∃ b, v1.ownBlock = some b ∧ W.heap.size ≤ b) (hu : ∀ k, u.ownBlock = some k → k < W.heap.size) : v1.ownBlock = none ∨ v1.ownBlock ≠ u.ownBlock := by
  rcases hat with h | ⟨b, h, hb⟩
  · rw [h]; exact hne
  · refine .inr fun e => ?_
    have := hu b (e.symm.trans h)
    omega
theorem ne_symm {u v : Value} (h : v.ownBlock = none ∨ v.ownBlock ≠ u.ownBlock) : u.ownBlock = none ∨ u.ownBlock ≠ v.ownBlock := by
  cases hu : u.ownBlock with
  | none => exact .inl rfl
  | some k =>
    refine .inr fun e => ?_
    rcases h with h | h
    · rw [h] at e; cases e
    · exact h (by rw [hu]; exact e.symm)
section
variable {P : Program} {ops : Array Oper} {rest : List Oper} {o : Oper} {a : Act} {Q : Exit → Act → World → Prop} {α : Type} (F : Flat α)
/-- wp_append_one, the new block's number as the walk spells it. -/
theorem wp_append_at {W : World} (H : Nat) (hH : W.heap.size = H) (base : Nat) (hgd : o.guard = none) (s x : Operand) (t e : TypeId) (z : Value) (bytes : Nat)
    (ho : o.op = .call { callee := .builtin .append, args := #[s, x], argTypes := #[t, t] })
    (ht : P.underlying t = some (.slice e)) (hinfo : (P.info? e).map (fun i => (i.zero, i.size, i.bytes)) = some (some z, F.sz, bytes)) (hz : z.cells.size = F.sz) (hsz : 0 < F.sz)
    (v : Value) (xs : List α) (y : α) (cs : Array Value) (hcs : cs.toList = F.enc y) (hs : a.eval s = v) (hx : a.eval x = .slice (some ⟨H, 0, none⟩) 1 1)
    (HO : Own F e W base v xs) (hbase : base ≤ W.heap.size) (hl : xs.length + 1 ≤ 60000) (hby : bytes ≤ 1000)
    (h : ∀ v1 w1, Own F e w1 base v1 (xs ++ [y]) → W.grownBy w1 v.ownBlock → (v1.ownBlock = v.ownBlock ∨ ∃ b, v1.ownBlock = some b ∧ W.heap.size ≤ b) → wpList P ops Q rest (a.put o.dst v1) w1) :
    wpList P ops Q (o :: rest) a (W.alloc (.cells cs e)) := by
  subst hH
  exact wp_append_one F base hgd s x t e z bytes ho ht hinfo hz hsz v xs y cs hcs hs hx HO hbase hl hby h
end

/-- The walk halts here: 'go_wp2_with (at_builtin; refine Stopped.out ?_)', then 'constructor'. -/
structure Stopped (p : Prop) : Prop where
  mk :: (out : p)
theorem zeroTabB (w : World) : (zeroValue 28).run Try.prog w = .ok (.agg #[.slice none 0 0, .slice none 0 0, .slice none 0 0]) w := by kernel_rfl
end Go.Proofs.Ytdggnnbgiadgaaa
