/- own. -/
import Derived.Test.YtdggnnbgiadgaaaLw1
set_option linter.unusedVariables false
namespace Go.Proofs.Ytdggnnbgiadgaaa
open Go.RowKit

def FC : Flat (Ch × Option Addr × Nat) where
  enc x := (chCells x.1 x.2.1 x.2.2).toList
  sz := 9
  len _ := rfl
  one f u hu := by simp at hu; rcases hu with rfl | rfl | rfl | rfl | rfl | rfl | rfl | rfl | rfl <;> rfl
theorem infoC : (Try.prog.info? 52).map (fun i => (i.zero, i.size, i.bytes)) = some (some (.agg #[.int .i64 0, .string ⟨#[]⟩, .string ⟨#[]⟩, .int .i64 0, .int .i64 0, .int .i64 0, .int .u64 0, .string ⟨#[]⟩, .slice none 0 0]), FC.sz, 112) := by kernel_rfl
def OrdOk (w : World) (xs : List (Ch × Option Addr × Nat)) : Prop := ∀ x ∈ xs, x.1.order.length ≤ x.2.2 ∧ RS FI w x.2.1 x.1.order
theorem rc_of {w w1 : World} {A : Option Addr} {xs : List (Ch × Option Addr × Nat)} (h : RS FC w1 A xs) (hk : OrdOk w xs) (hb : Below w.heap.size w w1) : RC w1 A (xs.map (·.1)) := fun k c hc => by
  rw [List.getElem?_map] at hc
  cases hx : xs[k]? with
  | none => rw [hx] at hc; simp at hc
  | some x =>
    rw [hx] at hc
    simp at hc
    subst hc
    obtain ⟨hlt, _⟩ := List.getElem?_eq_some_iff.1 hx
    obtain ⟨ad, y, hA, hy, hcell⟩ := h.at_ hlt (by decide)
    have e : y = x := Option.some.inj (hy.symm.trans hx)
    subst e
    obtain ⟨h1, h2⟩ := hk y (List.mem_of_getElem? hx)
    exact ⟨ad, y.2.1, y.2.2, hA, h1, h2.below hb, fun j u hu => hcell j u (by simpa [FC] using hu)⟩

def OwnI (w wr : World) (cs : List Ch) (k : Nat) (v : Value) : Prop := ∃ xs, xs.map (·.1) = cs.take k ∧ Own FC 52 wr w.heap.size v xs ∧ OrdOk w xs ∧ Below w.heap.size w wr
theorem ownI_len {w wr : World} {cs : List Ch} {k : Nat} {v : Value} {xs : List (Ch × Option Addr × Nat)} (h : xs.map (·.1) = cs.take k) (hk : k ≤ cs.length) : xs.length = k := by
  have := congrArg List.length h
  simp at this
  omega
def RetC (w : World) (cs : List Ch) (e : Ending) (w' : World) : Prop := ∃ A c, e = .returned (.slice A cs.length c) ∧ cs.length ≤ c ∧ RC w' A cs ∧ Below w.heap.size w w'
set_option maxRecDepth 100000 in
theorem law_own (cs : List Ch) (C : Option Addr) (cc : Nat) (w : World) (hcs : RC w C cs) (hcc : cs.length ≤ cc) (hl : cs.length ≤ 50000) :
    Calls Try.prog 8 #[.slice C cs.length cc] w (RetC w cs) := by
  go_enter Try.func8, Try.ntmps8
  go_wp2_with fail
  go_loopw [3, 8] (fun v i wr => ∃ k : Nat, k ≤ cs.length ∧ i = .int .i64 k ∧ OwnI w wr cs k v) (fun _ i _ => cs.length - (intOf i).toNat)
  case atStart => exact ⟨0, Nat.zero_le _, rfl, [], rfl, Own.nil _ _ _ _, fun _ h => by simp at h, Below.refl _ _⟩
  case round =>
    obtain ⟨k, hk, rfl, xs, hxs, ho, hok, hB⟩ := hrel
    have hlen := ownI_len (w := w) (wr := w) (v := .nilFunc) hxs hk
    by_cases hlt : k < cs.length
    · obtain ⟨ad, c, B, cp, rfl, hc, hcp, hord, q0, q1, q2, q3, q4, q5, q6, q7, q8⟩ := (hcs.below hB).at_ hlt
      obtain ⟨ad', B', cp', hA', hcp', hord', hcell'⟩ := hcs k c hc
      cases hA'
      have e8 : B = B' ∧ cp = cp' := by
        have h8 := keepc hB (hcell' 8 _ rfl)
        rw [fieldAt _ _ 8 (by omega), q8] at h8
        simp at h8
        exact h8
      obtain ⟨rfl, rfl⟩ := e8
      have htk : cs.take (k + 1) = (xs ++ [(c, B, cp)]).map (·.1) := by
        obtain ⟨h1, h2⟩ := List.getElem?_eq_some_iff.1 hc
        rw [List.take_succ_eq_append_getElem h1, h2, List.map_append, hxs]; rfl
      have HTK := Lib.hid htk
      have HLN := Lib.hid hlen
      have h60 : xs.length + 1 ≤ 60000 := by omega
      have hok2 : OrdOk w (xs ++ [(c, B, cp)]) := fun x hx => by
        rcases List.mem_append.1 hx with h | h
        · exact hok x h
        · simp at h; subst h; exact ⟨hcp, hord'⟩
      obtain ⟨W4, hW4⟩ : ∃ W4, W4 = wr.alloc (Obj.cells (chCells c B cp) 49) := ⟨_, rfl⟩
      have hB4 : Below wr.heap.size wr W4 := hW4 ▸ (Below.refl _ _).alloc (Nat.le_refl _) _
      have b8 : Blk W4 wr.heap.size 49 (chCells c B cp) := hW4 ▸ Blk.new _ _ _
      have ho4 := ho.below hB4
      have hB4' := hB.trans (hB4.mono hB.size)
      go_upto_region 5 with fail
      rw [← hW4]
      clear hW4 q0 q1 q2 q3 q4 q5 q6 q7 q8 hord htk hlen hc hxs ho hcell' hord'
      have n0 := b8.cellIs 0 (.int .i64 c.op) rfl
      have n1 := b8.cellIs 1 (.string c.name) rfl
      have n2 := b8.cellIs 2 (.string c.dst.name) rfl
      have n3 := b8.cellIs 3 (.int .i64 c.dst.kind) rfl
      have n4 := b8.cellIs 4 (.int .i64 c.dst.long) rfl
      have n5 := b8.cellIs 5 (.int .i64 c.dflt.kind) rfl
      have n6 := b8.cellIs 6 (.int .u64 c.dflt.bits) rfl
      have n7 := b8.cellIs 7 (.string c.dflt.text) rfl
      have n8 := b8.cellIs 8 (.slice B c.order.length cp) rfl
      have hsz4 := hB4'.size
      go_wp2_with (at_builtin; refine wp_append_one FC w.heap.size rfl (.tmp 12) (.tmp 14) 32 52 _ 112 rfl Try.underlying32 infoC rfl (by decide) _ xs (c, B, cp) _ rfl rfl rfl ho4 hsz4 h60 (by omega) ?_; intro v1 w8 ho8 hgr hat)
      go_roundw
      case rel => exact ⟨k + 1, by omega, by go_num, _, HTK.out.symm, ho8, hok2, below_grownOwn hB4' ho4 hgr hsz4 (Nat.le_refl _)⟩
      case measure => simp [intOf]; omega
    · have hk' : k = cs.length := by omega
      subst hk'
      rw [List.take_length] at hxs
      obtain ⟨A', c', rfl, hc', hr'⟩ := ho.slice
      have hrc := rc_of hr' hok hB
      rw [hxs] at hrc
      have HLN := Lib.hid hlen
      clear hlen hxs
      go_wp2_with fail
      go_ret
      exact ⟨A', c', by rw [HLN.out]; rfl, by rw [← HLN.out]; exact hc', hrc, hB⟩
end Go.Proofs.Ytdggnnbgiadgaaa
