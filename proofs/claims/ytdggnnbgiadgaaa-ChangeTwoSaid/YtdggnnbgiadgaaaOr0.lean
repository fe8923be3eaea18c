/- Words for change.orders. -/
import Derived.Test.YtdggnnbgiadgaaaSo
set_option linter.unusedVariables false
namespace Go.Proofs.Ytdggnnbgiadgaaa
open Go.RowKit

section
variable {P : Program} {ops : Array Oper} {o : Oper} {a : Act} {K : Act → World → Prop} {Q : Exit → Act → World → Prop} {E : Prop} {α : Type} (F : Flat α)
/-- wp_append_at, at a step of a region that draws its order: the one thing lies in the block H. -/
theorem step_append_one {W : World} (H : Nat) (base : Nat) (hgd : o.guard = none) (s x : Operand) (t e : TypeId) (z : Value) (bytes : Nat)
    (ho : o.op = .call { callee := .builtin .append, args := #[s, x], argTypes := #[t, t] })
    (ht : P.underlying t = some (.slice e)) (hinfo : (P.info? e).map (fun i => (i.zero, i.size, i.bytes)) = some (some z, F.sz, bytes)) (hz : z.cells.size = F.sz) (hsz : 0 < F.sz)
    (v : Value) (xs : List α) (y : α) (cs : Array Value) (hcs : cs.toList = F.enc y) (hs : a.eval s = v) (hx : a.eval x = .slice (some ⟨H, 0, none⟩) 1 1) (hbk : Blk W H e cs)
    (HO : Own F e W base v xs) (hbase : base ≤ W.heap.size) (hl : xs.length + 1 ≤ 60000) (hby : bytes ≤ 1000)
    (h : ∀ v1 w1, Own F e w1 base v1 (xs ++ [y]) → W.grownBy w1 v.ownBlock → (v1.ownBlock = v.ownBlock ∨ ∃ b, v1.ownBlock = some b ∧ W.heap.size ≤ b) → K (a.put o.dst v1) w1) :
    if Region.wanted o (yielded ops a.tmps) = true then Oper.wp P o a W K Q else E := by
  obtain ⟨i0, hi, hzz⟩ := Option.map_eq_some_iff.1 hinfo
  simp only [Prod.mk.injEq] at hzz
  obtain ⟨hz0, hz1, hz2⟩ := hzz
  have hm : (xs.length + 1) * bytes ≤ 60000 * 1000 := Nat.mul_le_mul hl hby
  have hw : Region.wanted o (yielded ops a.tmps) = true := by simp [Region.wanted, hgd]
  rw [if_pos hw]
  obtain ⟨v', w', hr, h2, h3, h4, h5⟩ := run_append_own_at (P := P) W base t o.type e i0 z F.sz bytes ht hi hz0 hz1 hz2 hz hsz v xs.length (F.cells xs) HO ⟨H, 0, none⟩ 1 1 (F.enc y) (by rw [F.len]; omega)
    (by rw [← hcs]; exact World.news_of_block (cs := cs) (t := e) (fr := (0, 0)) hbk) (F.one y) (by simp only [maxLen]; omega) (by omega) hbase
  unfold Oper.wp execOp
  simp only [ho, resolve, invoke, builtin, Sem.run_bind, Sem.run_pure, Result.andThen_ok, List.map_toArray, List.map_cons, List.map_nil, hs, hx, hr]
  refine h v' w' (by unfold Own; rw [F.cells_append, F.cells_one, List.length_append]; exact h2) h3 ?_
  rcases h5 with hat | hat
  · exact .inl hat
  · exact .inr ⟨_, hat, Nat.le_refl _⟩
end

theorem grown_undrew {w w1 : World} {row : Option Nat} (h : w.drew.grownBy w1 row) : w.grownBy w1 row := ⟨h.os, h.tape, h.output, h.size, h.block⟩
def upto (n : Nat) : List Int := (List.range n).map fun (k : Nat) => (k : Int)
theorem upto_length (n : Nat) : (upto n).length = n := by simp [upto]
theorem upto_get {n k : Nat} (h : k < n) : (upto n)[k]? = some (k : Int) := by simp [upto, h]
def pickF (l : List Fld) (n : Int) : Fld := (l[n.toNat]?).getD Fld.zero
def ordersT (t : Tb) (c : Ch) : Tb × Int :=
  if sorted c.order = upto t.old.length then (⟨t.old, c.order.map (pickF t.old), c.order.map fun n => ⟨n, Vl.zero⟩⟩, 0) else (t, 80)

theorem order_mem {l : List Int} {n : Nat} (h : sorted l = upto n) {x : Int} (hx : x ∈ l) : ∃ m : Nat, x = m ∧ m < n := by
  have h1 : x ∈ sorted l := by unfold sorted; exact List.mem_mergeSort.2 hx
  rw [h] at h1
  simp only [upto, List.mem_map, List.mem_range] at h1
  obtain ⟨m, h2, h3⟩ := h1
  exact ⟨m, h3.symm, h2⟩
theorem order_len {l : List Int} {n : Nat} (h : sorted l = upto n) : l.length = n := by
  have := congrArg List.length h
  rwa [sorted_length, upto_length] at this
end Go.Proofs.Ytdggnnbgiadgaaa
