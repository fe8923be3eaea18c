/- change.Make joined; change.Apply. -/
import Derived.Test.YtdggnnbgiadgaaaMk
set_option linter.unusedVariables false
namespace Go.Proofs.Ytdggnnbgiadgaaa
open Go.RowKit

theorem right_len {l : List Fld} (h : rightL l = true) : l.length ≤ 16 := by
  unfold rightL at h
  simp only [Bool.and_eq_true, decide_eq_true_eq] at h
  exact h.2
theorem mvs_dflt (n : Nat) : ∀ m ∈ mvs n, m.dflt = Vl.zero := by
  intro m hm
  simp only [mvs, List.mem_map] at hm
  obtain ⟨k, _, rfl⟩ := hm
  rfl
theorem vlOk_zero : VlOk Vl.zero := ⟨by decide, by decide, by decide⟩
theorem fldOk_zero : FldOk Fld.zero := ⟨by decide, by decide, by decide⟩
theorem same_ok {l : List Fld} (h : FsOk l) (hl : l.length ≤ 16) : TbOk (sameT l) := by
  unfold sameT
  split
  · exact ⟨h, h, by dsimp only; rw [mvs_length]; omega, fun m hm => by rw [mvs_dflt _ m hm]; exact vlOk_zero⟩
  · exact ⟨⟨by simp [Tb.zero], by simp [Tb.zero]⟩, ⟨by simp [Tb.zero], by simp [Tb.zero]⟩, by simp [Tb.zero], by simp [Tb.zero]⟩
theorem same_lens {l : List Fld} (hl : l.length ≤ 16) : (sameT l).old.length ≤ 16 ∧ (sameT l).new.length ≤ 16 ∧ (sameT l).moves.length ≤ 16 := by
  unfold sameT
  split
  · exact ⟨hl, hl, by dsimp only; rw [mvs_length]; exact hl⟩
  · simp [Tb.zero]
theorem mem_modify {α : Type} {l : List α} {k : Nat} {f : α → α} {x : α} (h : x ∈ l.modify k f) : x ∈ l ∨ ∃ y ∈ l, x = f y := by
  obtain ⟨i, hi⟩ := List.mem_iff_getElem?.1 h
  rw [List.getElem?_modify] at hi
  cases hy : l[i]? with
  | none => rw [hy] at hi; simp at hi
  | some y =>
    rw [hy] at hi
    simp at hi
    split at hi
    · exact .inr ⟨y, List.mem_of_getElem? hy, hi.symm⟩
    · exact .inl (hi ▸ List.mem_of_getElem? hy)
theorem adds_ok {t : Tb} {c : Ch} (ht : TbOk t) (hc : ChOk c) (h1 : t.new.length ≤ 16) (h2 : t.moves.length ≤ 16) : TbOk (addsT t c).1 := by
  unfold addsT
  split
  · refine ⟨ht.old, ⟨by simp; omega, fun f hf => ?_⟩, by simp; omega, fun m hm => ?_⟩
    · simp at hf
      rcases hf with hf | rfl
      · exact ht.new.all f hf
      · exact hc.dst
    · simp at hm
      rcases hm with hm | rfl
      · exact ht.all m hm
      · exact hc.dflt
  · exact ht
theorem cut_mem {α : Type} {l : List α} {k : Nat} {x : α} (h : x ∈ l.take k ++ l.drop (k + 1)) : x ∈ l := by
  simp only [List.mem_append] at h
  rcases h with h | h
  · exact List.mem_of_mem_take h
  · exact List.mem_of_mem_drop h
theorem drops_ok {t : Tb} {k : Nat} (ht : TbOk t) : TbOk (dropsT t k) := by
  have h1 := ht.new.len
  have h2 := ht.len
  exact ⟨ht.old, ⟨by simp [dropsT]; omega, fun f hf => ht.new.all f (cut_mem hf)⟩, by simp [dropsT]; omega, fun m hm => ht.all m (cut_mem hm)⟩
theorem renames_ok {t : Tb} {c : Ch} {k : Nat} (ht : TbOk t) (hc : ChOk c) : TbOk (renamesT t c k) := by
  refine ⟨ht.old, ⟨by simp [renamesT]; exact ht.new.len, fun f hf => ?_⟩, ht.len, ht.all⟩
  rcases mem_modify hf with h | ⟨y, h, rfl⟩
  · exact ht.new.all f h
  · have := ht.new.all y h
    exact ⟨hc.dst.name, this.kind, this.long⟩
theorem recasts_ok {t : Tb} {c : Ch} {k : Nat} (ht : TbOk t) (hc : ChOk c) : TbOk (recastsT t c k).1 := by
  unfold recastsT
  split
  · refine ⟨ht.old, ⟨by simp; exact ht.new.len, fun f hf => ?_⟩, ht.len, ht.all⟩
    rcases mem_modify hf with h | ⟨y, h, rfl⟩
    · exact ht.new.all f h
    · have := ht.new.all y h
      exact ⟨this.name, hc.dst.kind, hc.dst.long⟩
  · exact ht
theorem orders_ok {t : Tb} {c : Ch} (ht : TbOk t) (hc : ChOk c) : TbOk (ordersT t c).1 := by
  unfold ordersT
  split
  · refine ⟨ht.old, ⟨by simp; exact hc.order, fun f hf => ?_⟩, by simp; exact hc.order, fun m hm => ?_⟩
    · simp only [List.mem_map] at hf
      obtain ⟨n, _, rfl⟩ := hf
      unfold pickF
      cases h : t.old[n.toNat]? with
      | none => exact fldOk_zero
      | some y => exact ht.old.all y (List.mem_of_getElem? h)
    · simp only [List.mem_map] at hm
      obtain ⟨n, _, rfl⟩ := hm
      exact vlOk_zero
  · exact ht
theorem named_ok {s : Tb → Ch → Nat → Tb × Int} {t : Tb} {c : Ch} (ht : TbOk t) (hs : ∀ k, TbOk (s t c k).1) : TbOk (namedT s t c).1 := by
  unfold namedT
  split
  · exact ht
  · exact hs _

theorem make_of {l : List Fld} {c : Ch} {r : Tb × Int} (hR : rightL l = true) (hw : wayT (sameT l) c = some r) : makeT l c = afterT r := by
  unfold makeT afterT
  rw [if_pos hR, hw]
theorem make_no {l : List Fld} {c : Ch} (hR : rightL l = true) (hw : wayT (sameT l) c = none) : makeT l c = (Tb.zero, 80) := by
  unfold makeT
  rw [if_pos hR, hw]
theorem make_wrong {l : List Fld} {c : Ch} (hR : rightL l = false) : makeT l c = (Tb.zero, 60) := by
  unfold makeT
  rw [hR]
  rfl
theorem tb_zero_ok : TbOk Tb.zero := ⟨⟨by simp [Tb.zero], by simp [Tb.zero]⟩, ⟨by simp [Tb.zero], by simp [Tb.zero]⟩, by simp [Tb.zero], by simp [Tb.zero]⟩
theorem after_ok {r : Tb × Int} (h : TbOk r.1) : TbOk (afterT r).1 := by
  unfold afterT
  split
  · split
    · exact h
    · exact tb_zero_ok
  · exact tb_zero_ok
theorem way_ok {t : Tb} {c : Ch} {r : Tb × Int} (ht : TbOk t) (hc : ChOk c) (h1 : t.new.length ≤ 16) (h2 : t.moves.length ≤ 16) (hw : wayT t c = some r) : TbOk r.1 := by
  unfold wayT at hw
  split at hw
  · cases hw; exact adds_ok ht hc h1 h2
  split at hw
  · cases hw; exact named_ok ht fun k => drops_ok ht
  split at hw
  · cases hw; exact named_ok ht fun k => renames_ok ht hc
  split at hw
  · cases hw; exact named_ok ht fun k => recasts_ok ht hc
  split at hw
  · cases hw; exact orders_ok ht hc
  · cases hw
theorem make_ok {l : List Fld} {c : Ch} (hok : FsOk l) (hc : ChOk c) : TbOk (makeT l c).1 := by
  cases hR : rightL l with
  | false => rw [make_wrong hR]; exact tb_zero_ok
  | true =>
    have hl := right_len hR
    cases hw : wayT (sameT l) c with
    | none => rw [make_no hR hw]; exact tb_zero_ok
    | some r => rw [make_of hR hw]; exact after_ok (way_ok (same_ok hok hl) hc (same_lens hl).2.1 (same_lens hl).2.2 hw)

theorem change_Make (l : List Fld) (c : Ch) (A B : Option Addr) (cl cp : Nat) (w : World) (hr : RS FF w A l) (hok : FsOk l) (hlc : l.length ≤ cl) (ho : RS FI w B c.order) (hlo : c.order.length ≤ cp) (hc : ChOk c) (ho5 : c.order.length ≤ 40000) :
    Calls Try.prog 15 #[.slice A l.length cl, .agg (chCells c B cp)] w (RetTE w w.heap.size (makeT l c)) := by
  cases hR : rightL l with
  | false => rw [make_wrong hR]; exact change_Make0 l c A B cl cp w hr hok hlc ho hlo hc hR
  | true =>
    have hl := right_len hR
    have hq : ∀ r, wayT (sameT l) c = some r → TbOk r.1 := fun r hw => way_ok (same_ok hok hl) hc (same_lens hl).2.1 (same_lens hl).2.2 hw
    by_cases h1 : c.op = 1
    · have hw : wayT (sameT l) c = some (addsT (sameT l) c) := by unfold wayT; rw [if_pos h1]
      rw [make_of hR hw]
      exact change_MakeA l c A B cl cp w hr hok hlc ho hlo hc hl ho5 hR h1 _ _ rfl fun _ => hq _ hw
    by_cases h2 : c.op = 2
    · have hw : wayT (sameT l) c = some (namedT dropsS (sameT l) c) := by unfold wayT; rw [if_neg h1, if_pos h2]
      rw [make_of hR hw]
      exact change_MakeD l c A B cl cp w hr hok hlc ho hlo hc hl ho5 hR h2 _ _ rfl fun _ => hq _ hw
    by_cases h3 : c.op = 3
    · have hw : wayT (sameT l) c = some (namedT renamesS (sameT l) c) := by unfold wayT; rw [if_neg h1, if_neg h2, if_pos h3]
      rw [make_of hR hw]
      exact change_MakeR l c A B cl cp w hr hok hlc ho hlo hc hl ho5 hR h3 _ _ rfl fun _ => hq _ hw
    by_cases h4 : c.op = 4
    · have hw : wayT (sameT l) c = some (namedT recastsT (sameT l) c) := by unfold wayT; rw [if_neg h1, if_neg h2, if_neg h3, if_pos h4]
      rw [make_of hR hw]
      exact change_MakeC l c A B cl cp w hr hok hlc ho hlo hc hl ho5 hR h4 _ _ rfl fun _ => hq _ hw
    by_cases h5 : c.op = 5
    · have hw : wayT (sameT l) c = some (ordersT (sameT l) c) := by unfold wayT; rw [if_neg h1, if_neg h2, if_neg h3, if_neg h4, if_pos h5]
      rw [make_of hR hw]
      exact change_MakeO l c A B cl cp w hr hok hlc ho hlo hc hl ho5 hR h5 _ _ rfl fun _ => hq _ hw
    rw [make_no hR (by unfold wayT; rw [if_neg h1, if_neg h2, if_neg h3, if_neg h4, if_neg h5])]
    exact change_Make1 l c A B cl cp w hr hok hlc ho hlo hc hR h1 h2 h3 h4 h5

/-- Fields and an error are handed back. -/
def RetFE (w : World) (l : List Fld) (n : Int) (e : Ending) (w' : World) : Prop := ∃ A c, e = .returned (.tuple #[.slice A l.length c, .int .i64 n]) ∧ l.length ≤ c ∧ RS FF w' A l ∧ Below w.heap.size w w'
theorem change_Apply (l : List Fld) (c : Ch) (A B : Option Addr) (cl cp : Nat) (w : World) (hr : RS FF w A l) (hok : FsOk l) (hlc : l.length ≤ cl) (ho : RS FI w B c.order) (hlo : c.order.length ≤ cp) (hc : ChOk c) (ho5 : c.order.length ≤ 40000) :
    Calls Try.prog 13 #[.slice A l.length cl, .agg (chCells c B cp)] w (RetFE w (makeT l c).1.new (makeT l c).2) := by
  obtain ⟨rt, rc, hm⟩ : ∃ rt rc, makeT l c = (rt, rc) := ⟨_, _, rfl⟩
  have HM := Lib.hid hm
  clear hm
  obtain ⟨W, hW⟩ : ∃ W, W = w.alloc (Obj.cells (chCells c B cp) 52) := ⟨_, rfl⟩
  have b0 : Blk W w.heap.size 52 (chCells c B cp) := by rw [hW]; exact Blk.new _ _ _
  have hB : Below w.heap.size w W := by rw [hW]; exact (Below.refl _ _).alloc (Nat.le_refl _) _
  have hr1 := hr.below hB
  have ho1 := ho.below hB
  obtain ⟨n1, n2, n3, n4, n5, n6, n7, n8⟩ := ch_cells b0
  have n0 := b0.cellIs 0 (.int .i64 c.op) rfl
  go_enter Try.func13, Try.ntmps13
  go_upto_region 1 with fail
  rw [← hW]
  clear hW
  go_wp2_with fail
  refine (change_Make l c A B cl cp W hr1 hok hlc ho1 hlo hc ho5).mono ?_
  rw [HM.out]
  rintro e w1 ⟨v1, rfl, ht, hb1, -⟩
  have hB1 : Below w.heap.size w w1 := hB.trans (hb1.mono hB.size)
  obtain ⟨A0, c0, A1, c1, A2, c2, rfl, o0, o1, o2, -⟩ := ht
  have hcc := o1.at_.1
  have hrr := o1.at_.2
  clear n0 n1 n2 n3 n4 n5 n6 n7 n8 b0 hr1 ho1 hr ho hb1 o0 o1 o2
  dsimp only at *
  go_wp2_with fail
  go_ret2
  exact ⟨A1, c1, by rw [HM.out]; rfl, by rw [HM.out]; exact hcc, by rw [HM.out]; exact hrr.alloc _, hB1.alloc hB1.size _⟩
end Go.Proofs.Ytdggnnbgiadgaaa
