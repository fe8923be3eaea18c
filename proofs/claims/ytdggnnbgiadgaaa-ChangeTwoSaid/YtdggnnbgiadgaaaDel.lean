/- slices.Delete of one element of a row of one's own. -/
import Derived.Test.YtdggnnbgiadgaaaTb3
import Derived.Deep.RegionLaw
set_option linter.unusedVariables false
namespace Go.Proofs.Ytdggnnbgiadgaaa
open Go.RowKit

section
variable {α : Type} {F : Flat α} {e : TypeId} {w : World} {base g c : Nat} {xs : List α}
theorem Own.form {A : Option Addr} {n : Nat} (h : Own F e w base (.slice A n c) xs) (hn : 0 < xs.length) :
    ∃ g cur, A = some ⟨g, 0, none⟩ ∧ n = xs.length ∧ base ≤ g ∧ Blk w g e cur ∧ xs.length ≤ c ∧ c ≤ maxLen ∧ cur.size = c * F.sz ∧ cur.toList.take (xs.length * F.sz) = F.cells xs := by
  rcases h.2 with ⟨_, h0⟩ | ⟨g, cap, cur, hv, hb, hh, h1, h2, h3, h4⟩
  · omega
  · cases hv
    exact ⟨g, cur, rfl, rfl, hb, hh, h1, h2, h3, h4⟩
theorem Own.formS {n : Nat} (h : Own F e w base (.slice (some ⟨g, 0, none⟩) n c) xs) :
    ∃ cur, n = xs.length ∧ base ≤ g ∧ Blk w g e cur ∧ xs.length ≤ c ∧ c ≤ maxLen ∧ cur.size = c * F.sz ∧ cur.toList.take (xs.length * F.sz) = F.cells xs := by
  rcases h.2 with ⟨h0, _⟩ | ⟨g, cap, cur, hv, hb, hh, h1, h2, h3, h4⟩
  · cases h0
  · cases hv
    exact ⟨cur, rfl, hb, hh, h1, h2, h3, h4⟩
theorem Own.mk_ {cur : Array Value} (hb : base ≤ g) (hh : Blk w g e cur) (h1 : xs.length ≤ c) (h2 : c ≤ maxLen) (h3 : cur.size = c * F.sz) (h4 : cur.toList.take (xs.length * F.sz) = F.cells xs) :
    Own F e w base (.slice (some ⟨g, 0, none⟩) xs.length c) xs := ⟨F.cells_length xs, .inr ⟨g, c, cur, rfl, hb, hh, h1, h2, h3, h4⟩⟩
theorem Own.prefix_ (h : Own F e w base (.slice (some ⟨g, 0, none⟩) xs.length c) xs) {i : Nat} (hi : i ≤ xs.length) (hn : 0 < xs.length) : Own F e w base (.slice (some ⟨g, 0, none⟩) i c) (xs.take i) := by
  obtain ⟨g', cur, hg, _, hb, hh, h1, h2, h3, h4⟩ := h.form hn
  cases hg
  have hl : (xs.take i).length = i := by simp; omega
  have := Own.mk_ (F := F) (xs := xs.take i) hb hh (by omega : (xs.take i).length ≤ c) h2 h3 (by
    rw [hl, F.cells_take, ← h4, List.take_take, Nat.min_eq_left (Nat.mul_le_mul_right _ hi)])
  rw [hl] at this
  exact this
end
theorem run_clear_one {P : Program} (w : World) (t e ty : TypeId) (z : Value) (ht : P.underlying t = some (.slice e)) (hv : ∀ w, (zeroValue e).run P w = .ok z w) (h1 : ∀ u ∈ z.cells.toList, u.oneCell' = true) (hz0 : 0 < z.cells.size)
    (g o c : Nat) (cur : Array Value) (hg : Blk w g e cur) (hfit : o + z.cells.size ≤ cur.size) :
    (Builtin.clear_ #[t] ty #[.slice (some ⟨g, o, none⟩) 1 c]).run P w = .ok (.tuple #[]) (w.setRow g (cur.toList.take o ++ z.cells.toList ++ cur.toList.drop (o + z.cells.toList.length)).toArray) := by
  have hzc : (Builtin.zeroCells z.cells 1).toList = z.cells.toList := by
    simp only [Builtin.zeroCells]
    apply List.ext_getElem
    · simp
    · intro i h1 h2
      have h2' : i < z.cells.size := by simpa using h2
      simp [Nat.mod_eq_of_lt h2', h2']
  have hst := run_storeCells_at P g o e z.cells.toList 0 cur w hg (by simpa using hfit) h1
  simp only [Nat.add_zero] at hst
  simp [Builtin.clear_, run_underlying ht, hv, hzc, hst]

theorem step_append_del {P : Program} {ops : Array Oper} {o : Oper} {a : Act} {w : World} {K : Act → World → Prop} {Q : Exit → Act → World → Prop} {E : Prop} {α : Type} (F : Flat α)
    (hgd : o.guard = none) (s x : Operand) (t : TypeId) (hop : o.op = Op.call { callee := Callee.builtin Builtin.append, args := #[s, x], argTypes := #[t, t] })
    (e : TypeId) (z : Value) (bytes : Nat) (ht : P.underlying t = some (.slice e)) (hinfo : (P.info? e).map (fun i => (i.zero, i.size, i.bytes)) = some (some z, F.sz, bytes))
    (base g i n c c' : Nat) (xs : List α) (hs : a.eval s = .slice (some ⟨g, 0, none⟩) i c) (A : Addr) (hx : a.eval x = .slice (some A) (n - (i + 1)) c') (hn : xs.length = n) (hi : i < n)
    (ho : Own F e w base (.slice (some ⟨g, 0, none⟩) xs.length c) xs) (hA : i + 1 < n → A = (⟨g, 0, none⟩ : Addr).add ((i + 1) * F.sz))
    (hK : ∀ w', Own F e w' base (.slice (some ⟨g, 0, none⟩) (n - 1) c) (xs.take i ++ xs.drop (i + 1)) → w.grownBy w' (some g) → w'.heap.size = w'.heap.size → K (a.put o.dst (.slice (some ⟨g, 0, none⟩) (n - 1) c)) w') :
    if Region.wanted o (yielded ops a.tmps) = true then Oper.wp P o a w K Q else E := by
  obtain ⟨i0, hi0, hzz⟩ := Option.map_eq_some_iff.1 hinfo
  simp only [Prod.mk.injEq] at hzz
  obtain ⟨hz0, hz1, hz2⟩ := hzz
  have hw : Region.wanted o (yielded ops a.tmps) = true := by simp [Region.wanted, hgd]
  rw [if_pos hw]
  subst hn
  have hpos : 0 < xs.length := by omega
  have hp := ho.prefix_ (i := i) (by omega) hpos
  obtain ⟨_, _, _, _, _, _, hlc, _⟩ := ho.form hpos
  have hlt : (xs.take i).length = i := by simp; omega
  have hld : (xs.drop (i + 1)).length = xs.length - (i + 1) := by simp
  obtain ⟨w', hrun, r1, r2⟩ := run_append_fits (P := P) w base t o.type e i0 F.sz ht hi0 hz1 g i c (F.cells (xs.take i)) (by have := hp; unfold Own at this; rw [hlt] at this; exact this)
    A (xs.length - (i + 1)) c' (F.cells (xs.drop (i + 1))) (by rw [F.cells_length, hld])
    (fun j u hj => by
      have hj' : j < (F.cells (xs.drop (i + 1))).length := (List.getElem?_eq_some_iff.1 hj).1
      have hlt2 : i + 1 < xs.length := by
        rcases Nat.lt_or_ge (i + 1) xs.length with h | h
        · exact h
        · rw [F.cells_length, hld, Nat.sub_eq_zero_of_le h, Nat.zero_mul] at hj'; omega
      rw [hA hlt2]
      obtain ⟨ad, he, hc⟩ := ho.at_.2 ((i + 1) * F.sz + j) u (by rw [F.cells_drop, List.getElem?_drop] at hj; exact hj)
      cases he
      simpa [Addr.add_lit, Nat.add_assoc] using hc)
    (F.cells_one_cell _) (by omega)
  have hlen : i + (xs.length - (i + 1)) = xs.length - 1 := by omega
  rw [hlen] at hrun r1
  have hO : Own F e w' base (.slice (some ⟨g, 0, none⟩) (xs.length - 1) c) (xs.take i ++ xs.drop (i + 1)) := by
    unfold Own
    rw [F.cells_append, List.length_append, hlt, hld, hlen]
    exact r1
  unfold Oper.wp
  simp [execOp, hop, resolve, invoke, builtin, hs, hx, hrun, Result.andThen]
  exact hK w' hO r2 rfl

theorem Own.clearTail {α : Type} {F : Flat α} {e : TypeId} {w : World} {base g c n : Nat} {xs : List α} (h : Own F e w base (.slice (some ⟨g, 0, none⟩) n c) xs) (hn : n = xs.length) (hb : base ≤ g) {cur : Array Value} (hh : Blk w g e cur)
    (h2 : c ≤ maxLen) (h1 : n ≤ c) (h3 : cur.size = c * F.sz) (h4 : cur.toList.take (n * F.sz) = F.cells xs) (zs : List Value) (hfit : n * F.sz + zs.length ≤ cur.size) :
    Own F e (w.setRow g (cur.toList.take (n * F.sz) ++ zs ++ cur.toList.drop (n * F.sz + zs.length)).toArray) base (.slice (some ⟨g, 0, none⟩) n c) xs := by
  subst hn
  have hcl : cur.toList.length = cur.size := Array.length_toList
  refine Own.mk_ (cur := (cur.toList.take (xs.length * F.sz) ++ zs ++ cur.toList.drop (xs.length * F.sz + zs.length)).toArray) hb (setRow_heap w g cur _ e _ hh) h1 h2 ?_ ?_
  · simp only [List.size_toArray, List.length_append, List.length_take, List.length_drop, hcl]
    omega
  · rw [List.toList_toArray, List.append_assoc, List.take_append_of_le_length (by rw [List.length_take, hcl]; omega), List.take_take, Nat.min_self, h4]

theorem grown_setRow {w w1 : World} {g : Nat} (h : w.drew.grownBy w1 (some g)) (cs : Array Value) : w.grownBy (w1.setRow g cs) (some g) :=
  ⟨h.os, h.tape, h.output, by have := h.size; simpa using this, fun i hi hne => (setRow_other w1 g i cs (fun e => hne (by rw [e]))).trans (h.block i hi hne)⟩
theorem grown_drew_setRow (w : World) (g : Nat) (cs : Array Value) : w.grownBy (w.drew.setRow g cs) (some g) :=
  ⟨rfl, rfl, rfl, by simp, fun i hi hne => setRow_other w.drew g i cs (fun e => hne (by rw [e]))⟩
def DelPost {α : Type} (F : Flat α) (e : TypeId) (w : World) (base g c : Nat) (xs : List α) (en : Ending) (w' : World) : Prop :=
  en = .returned (.slice (some ⟨g, 0, none⟩) (xs.length - 1) c) ∧ Own F e w' base (.slice (some ⟨g, 0, none⟩) (xs.length - 1) c) xs ∧ w.grownBy w' (some g)

theorem zeroF_run (w : World) : (zeroValue 43).run Try.prog w = .ok (.agg #[.string ⟨#[]⟩, .int .i64 0, .int .i64 0]) w := by kernel_rfl
theorem zeroM_run (w : World) : (zeroValue 57).run Try.prog w = .ok (.agg #[.int .i64 0, .int .i64 0, .int .u64 0, .string ⟨#[]⟩]) w := by kernel_rfl
theorem del_F (g c i base : Nat) (xs : List _) (w : World) (ho : Own FF 43 w base (.slice (some ⟨g, 0, none⟩) xs.length c) xs) (hi : i < xs.length) (hl : xs.length ≤ 50000) :
    Calls Try.prog 52 #[.slice (some ⟨g, 0, none⟩) xs.length c, .int .i64 i, .int .i64 ((i : Int) + 1)] w fun en w' =>
      en = .returned (.slice (some ⟨g, 0, none⟩) (xs.length - 1) c) ∧ Own FF 43 w' base (.slice (some ⟨g, 0, none⟩) (xs.length - 1) c) (xs.take i ++ xs.drop (i + 1)) ∧ w.grownBy w' (some g) := by
  obtain ⟨g', cur0, hg, _, hbg, _, hlc, hcm, _⟩ := ho.form (by omega)
  cases hg
  obtain ⟨m, hm⟩ : ∃ m, m + 1 = xs.length := ⟨xs.length - 1, by omega⟩
  have hne : ((i : Int) == (i : Int) + 1) = false := by simp; omega
  unfold maxLen at hcm
  rw [← hm] at hlc hi hl ⊢
  have HN := Lib.hid hm
  have hcm' : c ≤ 9223372036854775807 := by omega
  clear hm hcm
  have f1 : (i : Int) ≤ (i : Int) + 1 := by omega
  have f2 : i ≤ c := by omega
  have f3 : (i : Int) + 1 ≤ ((m + 1 : Nat) : Int) := by omega
  have f4 : (0 : Int) ≤ (i : Int) + 1 := by omega
  have f5 : ((i : Int) + 1).toNat = i + 1 := by omega
  have haddr : (⟨g, (i + 1) * 3, none⟩ : Addr) = (⟨g, 0, none⟩ : Addr).add ((i + 1) * FF.sz) := by simp [Addr.add, FF]
  have HA := Lib.hid haddr
  clear haddr
  have f6 : i ≤ m := by omega
  by_cases hci : c = i + 1
  · subst hci
    obtain rfl : i = m := by omega
    have ho1 : Own FF 43 w.drew base (.slice (some ⟨g, 0, none⟩) i (i + 1)) (xs.take i ++ xs.drop (i + 1)) := by
      have h1 := ho.prefix_ (i := i) (by have := HN.out; omega) (by have := HN.out; omega)
      rw [List.drop_eq_nil_of_le (by have := HN.out; omega), List.append_nil]
      exact h1.drew
    obtain ⟨cur, hlen, hbg1, hblk, hl1, hl2, hl3, hl4⟩ := ho1.formS
    have hcl := fun ty => run_clear_one (P := Try.prog) w.drew 22 43 ty _ Try.underlying22 zeroF_run (by decide) (by decide) g (i * 3) 1 cur hblk (by rw [hl3]; simp [FF, Value.cells]; omega)
    have hfin := ho1.clearTail hlen hbg1 hblk hl2 (by omega) hl3 (by have h9 := hl4; rw [← hlen] at h9; exact h9) (Value.cells (.agg #[.string ⟨#[]⟩, .int .i64 0, .int .i64 0])).toList (by rw [hl3]; simp [FF, Value.cells]; omega)
    have HF := Lib.hid hfin
    clear hblk hl1 hl2 hl3 hl4 hlen hfin
    go_enter Try.func52, Try.ntmps52
    go_wp2_with fail
    go_region_law (fail)
    all_goals go_wp2_with fail
    go_ret
    exact ⟨rfl, by simpa [FF, Value.cells] using HF.out, grown_drew_setRow _ _ _⟩
  · have f7 : ¬ c = m := by omega
    go_enter Try.func52, Try.ntmps52
    go_wp2_with fail
    go_region_law (first | (refine step_append_del FF rfl (.tmp 22) (.tmp 25) 22 rfl 43 _ 32 Try.underlying22 infoF base g i (m + 1) c (c - (i + 1)) xs (by simp [Act.eval, Act.put]) ⟨g, (i + 1) * 3, none⟩ (by simp [Act.eval, Act.put]) HN.out.symm hi ho.drew (fun _ => HA.out) ?_; intro w1 ho1 hg1 _) | fail)
    obtain ⟨cur, hlen, hbg1, hblk, hl1, hl2, hl3, hl4⟩ := ho1.formS
    have hcl := fun ty => run_clear_one (P := Try.prog) w1 22 43 ty _ Try.underlying22 zeroF_run (by decide) (by decide) g (m * 3) (c - m) cur hblk (by go_light; rw [hl3]; simp [FF, Value.cells]; omega)
    have hfin := ho1.clearTail hlen hbg1 hblk hl2 (by go_light; omega) hl3 (by have h9 := hl4; rw [← hlen] at h9; exact h9) (Value.cells (.agg #[.string ⟨#[]⟩, .int .i64 0, .int .i64 0])).toList (by go_light; rw [hl3]; simp [FF, Value.cells]; omega)
    have HF := Lib.hid hfin
    clear hblk hl1 hl2 hl3 hl4 hlen hfin
    go_wp2_with fail
    go_ret
    exact ⟨rfl, by simpa [FF, Value.cells] using HF.out, grown_setRow hg1 _⟩
theorem del_M (g c i base : Nat) (xs : List _) (w : World) (ho : Own FM 57 w base (.slice (some ⟨g, 0, none⟩) xs.length c) xs) (hi : i < xs.length) (hl : xs.length ≤ 50000) :
    Calls Try.prog 53 #[.slice (some ⟨g, 0, none⟩) xs.length c, .int .i64 i, .int .i64 ((i : Int) + 1)] w fun en w' =>
      en = .returned (.slice (some ⟨g, 0, none⟩) (xs.length - 1) c) ∧ Own FM 57 w' base (.slice (some ⟨g, 0, none⟩) (xs.length - 1) c) (xs.take i ++ xs.drop (i + 1)) ∧ w.grownBy w' (some g) := by
  obtain ⟨g', cur0, hg, _, hbg, _, hlc, hcm, _⟩ := ho.form (by omega)
  cases hg
  obtain ⟨m, hm⟩ : ∃ m, m + 1 = xs.length := ⟨xs.length - 1, by omega⟩
  have hne : ((i : Int) == (i : Int) + 1) = false := by simp; omega
  unfold maxLen at hcm
  rw [← hm] at hlc hi hl ⊢
  have HN := Lib.hid hm
  have hcm' : c ≤ 9223372036854775807 := by omega
  clear hm hcm
  have f1 : (i : Int) ≤ (i : Int) + 1 := by omega
  have f2 : i ≤ c := by omega
  have f3 : (i : Int) + 1 ≤ ((m + 1 : Nat) : Int) := by omega
  have f4 : (0 : Int) ≤ (i : Int) + 1 := by omega
  have f5 : ((i : Int) + 1).toNat = i + 1 := by omega
  have haddr : (⟨g, (i + 1) * 4, none⟩ : Addr) = (⟨g, 0, none⟩ : Addr).add ((i + 1) * FM.sz) := by simp [Addr.add, FM]
  have HA := Lib.hid haddr
  clear haddr
  have f6 : i ≤ m := by omega
  by_cases hci : c = i + 1
  · subst hci
    obtain rfl : i = m := by omega
    have ho1 : Own FM 57 w.drew base (.slice (some ⟨g, 0, none⟩) i (i + 1)) (xs.take i ++ xs.drop (i + 1)) := by
      have h1 := ho.prefix_ (i := i) (by have := HN.out; omega) (by have := HN.out; omega)
      rw [List.drop_eq_nil_of_le (by have := HN.out; omega), List.append_nil]
      exact h1.drew
    obtain ⟨cur, hlen, hbg1, hblk, hl1, hl2, hl3, hl4⟩ := ho1.formS
    have hcl := fun ty => run_clear_one (P := Try.prog) w.drew 26 57 ty _ Try.underlying26 zeroM_run (by decide) (by decide) g (i * 4) 1 cur hblk (by rw [hl3]; simp [FM, Value.cells]; omega)
    have hfin := ho1.clearTail hlen hbg1 hblk hl2 (by omega) hl3 (by have h9 := hl4; rw [← hlen] at h9; exact h9) (Value.cells (.agg #[.int .i64 0, .int .i64 0, .int .u64 0, .string ⟨#[]⟩])).toList (by rw [hl3]; simp [FM, Value.cells]; omega)
    have HF := Lib.hid hfin
    clear hblk hl1 hl2 hl3 hl4 hlen hfin
    go_enter Try.func53, Try.ntmps53
    go_wp2_with fail
    go_region_law (fail)
    all_goals go_wp2_with fail
    go_ret
    exact ⟨rfl, by simpa [FM, Value.cells] using HF.out, grown_drew_setRow _ _ _⟩
  · have f7 : ¬ c = m := by omega
    go_enter Try.func53, Try.ntmps53
    go_wp2_with fail
    go_region_law (first | (refine step_append_del FM rfl (.tmp 22) (.tmp 25) 26 rfl 57 _ 40 Try.underlying26 infoM base g i (m + 1) c (c - (i + 1)) xs (by simp [Act.eval, Act.put]) ⟨g, (i + 1) * 4, none⟩ (by simp [Act.eval, Act.put]) HN.out.symm hi ho.drew (fun _ => HA.out) ?_; intro w1 ho1 hg1 _) | fail)
    obtain ⟨cur, hlen, hbg1, hblk, hl1, hl2, hl3, hl4⟩ := ho1.formS
    have hcl := fun ty => run_clear_one (P := Try.prog) w1 26 57 ty _ Try.underlying26 zeroM_run (by decide) (by decide) g (m * 4) (c - m) cur hblk (by go_light; rw [hl3]; simp [FM, Value.cells]; omega)
    have hfin := ho1.clearTail hlen hbg1 hblk hl2 (by go_light; omega) hl3 (by have h9 := hl4; rw [← hlen] at h9; exact h9) (Value.cells (.agg #[.int .i64 0, .int .i64 0, .int .u64 0, .string ⟨#[]⟩])).toList (by go_light; rw [hl3]; simp [FM, Value.cells]; omega)
    have HF := Lib.hid hfin
    clear hblk hl1 hl2 hl3 hl4 hlen hfin
    go_wp2_with fail
    go_ret
    exact ⟨rfl, by simpa [FM, Value.cells] using HF.out, grown_setRow hg1 _⟩
end Go.Proofs.Ytdggnnbgiadgaaa
