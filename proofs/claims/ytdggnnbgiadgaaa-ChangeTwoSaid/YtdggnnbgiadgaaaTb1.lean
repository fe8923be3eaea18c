/- table.Same. -/
import Derived.Test.YtdggnnbgiadgaaaBlk
set_option linter.unusedVariables false
namespace Go.Proofs.Ytdggnnbgiadgaaa
open Go.RowKit

def mvs (n : Nat) : List Mv := (List.range n).map fun (k : Nat) => ⟨(k : Int), Vl.zero⟩
theorem mvs_succ (n : Nat) : mvs (n + 1) = mvs n ++ [⟨(n : Int), Vl.zero⟩] := by simp [mvs, List.range_succ]
theorem mvs_length (n : Nat) : (mvs n).length = n := by simp [mvs]
def sameT (l : List Fld) : Tb := if rightL l = true then ⟨l, l, mvs l.length⟩ else Tb.zero

def RetTab (w : World) (t : Tb) (e : Ending) (w' : World) : Prop := ∃ v, e = .returned v ∧ OwnTab w' w.heap.size v t ∧ Below w.heap.size w w'

/-- What stands between two rounds. -/
def SameInv (w wr : World) (g : Nat) (l : List Fld) (A0 A1 : Option Addr) (c0 c1 : Nat) (k : Nat) : Prop :=
  ∃ (A2 : Option Addr) (c2 : Nat), Blk wr w.heap.size 28 #[.slice none 0 0, .slice none 0 0, .slice none 0 0] ∧ Blk wr g 28 #[.slice A0 l.length c0, .slice A1 l.length c1, .slice A2 k c2] ∧
    Own FF 43 wr w.heap.size (.slice A0 l.length c0) l ∧ Own FF 43 wr w.heap.size (.slice A1 l.length c1) l ∧ Own FM 57 wr w.heap.size (.slice A2 k c2) (mvs k) ∧ Below w.heap.size w wr

theorem zeroTab_run (w : World) : (zeroValue 28).run Try.prog w = .ok (.agg #[.slice none 0 0, .slice none 0 0, .slice none 0 0]) w := by kernel_rfl

theorem table_Same (l : List Fld) (A : Option Addr) (c : Nat) (w : World) (hr : RS FF w A l) (hok : FsOk l) (hlc : l.length ≤ c) :
    Calls Try.prog 17 #[.slice A l.length c] w (RetTab w (sameT l)) := by
  have hl := hok.len
  cases hR : rightL l with
  | false =>
    have HR := Lib.hid hR
    have hB0 : Below w.heap.size w (w.alloc (Obj.cells #[.slice none 0 0, .slice none 0 0, .slice none 0 0] 28)) := (Below.refl _ _).alloc (Nat.le_refl _) _
    have b0 := Blk.new w 28 #[.slice none 0 0, .slice none 0 0, .slice none 0 0]
    have B0 := Lib.hid b0
    clear hR b0
    go_enter Try.func17, Try.ntmps17
    go_wp2_with (first
      | (go_at_call 16; refine (field_Right l A c _ (hr.alloc _) hok hlc).mono ?_; rintro e w1 ⟨rfl, hb1⟩; rw [HR.out]; have b1 := B0.out.below hb1; have x0 := b1.cellIs 0 (.slice none 0 0) rfl; have x1 := b1.cellIs 1 (.slice none 0 0) rfl; have x2 := b1.cellIs 2 (.slice none 0 0) rfl; have y0 := b1.frozen 0; have y1 := b1.frozen 1; have y2 := b1.frozen 2))
    have hB1 := hB0.trans (hb1.mono hB0.size)
    refine bodyPost_ret (v := .agg #[.slice none 0 0, .slice none 0 0, .slice none 0 0]) (by simp [results, Try.results17, go_sem, x0, x1, x2]) rfl ⟨_, rfl, by rw [show sameT l = Tb.zero by unfold sameT; rw [HR.out]; rfl]; exact OwnTab.zero _ _, ?_⟩
    repeat (first | exact hB1 | refine Below.setCell ?_ (by exact Nat.le_refl _) _)
  | true =>
    have HR := Lib.hid hR
    have hB0 : Below w.heap.size w (w.alloc (Obj.cells #[.slice none 0 0, .slice none 0 0, .slice none 0 0] 28)) := (Below.refl _ _).alloc (Nat.le_refl _) _
    have b0 := Blk.new w 28 #[.slice none 0 0, .slice none 0 0, .slice none 0 0]
    have B0 := Lib.hid b0
    clear hR b0
    go_enter Try.func17, Try.ntmps17
    go_wp2_with fail
    refine (field_Right l A c _ (hr.alloc _) hok hlc).mono ?_
    rintro e w1 ⟨rfl, hb1⟩
    rw [HR.out]
    have hB1 := hB0.trans (hb1.mono hB0.size)
    have hr1 := (hr.alloc _).below hb1
    have b1 := B0.out.below hb1
    go_wp2_with fail
    refine (slices_Clone l A c _ hr1 (by omega) hlc).mono ?_
    rintro e w2 ⟨v0, rfl, ho0, hb2⟩
    have hB2 := hB1.trans (hb2.mono hB1.size)
    have hr2 := hr1.below hb2
    have b2 := b1.below hb2
    obtain ⟨A0, c0, rfl, hc0, hr0⟩ := ho0.slice
    go_wp2_with fail
    refine (slices_Clone l A c _ hr2 (by omega) hlc).mono ?_
    rintro e w3 ⟨v1, rfl, ho1, hb3⟩
    have hB3 := hB2.trans (hb3.mono hB2.size)
    have b3 := b2.below hb3
    have HNE := Lib.hid (ho1.later ho0)
    replace ho0 := (ho0.below hb3).lower hB1.size
    replace ho1 := ho1.lower hB2.size
    obtain ⟨A1, c1, rfl, hc1, hr1'⟩ := ho1.slice
    clear hr0 hr1' b1 b2 hr1 hr2 hb1 hb2 hb3
    have Hlt := Lib.hid hlc
    go_wp2_with fail
    have hlt3 : w.heap.size ≤ w3.heap.size := hB3.size
    have hB4 := hB3.alloc hB3.size (Obj.cells #[.slice A0 l.length c0, .slice A1 l.length c1, .slice none 0 0] 28)
    have b4 : SameInv w (w3.alloc (Obj.cells #[.slice A0 l.length c0, .slice A1 l.length c1, .slice none 0 0] 28)) w3.heap.size l A0 A1 c0 c1 0 :=
      ⟨none, 0, b3.alloc _, Blk.new _ _ _, ho0.alloc _, ho1.alloc _, Own.nil _ _ _ _, hB4⟩
    have hne : Hid ((Value.slice A1 l.length c1).ownBlock = none ∨ (Value.slice A1 l.length c1).ownBlock ≠ (Value.slice A0 l.length c0).ownBlock) := HNE.out
    have hgt : w.heap.size < w3.heap.size := b3.lt
    clear ho0 ho1 b3 hB0 hB1 hB2 hB3 hB4 hc0 hc1 B0
    go_loopw [4, 16] (fun _ i wr => ∃ k : Nat, k ≤ l.length ∧ i = .int .i64 k ∧ SameInv w wr w3.heap.size l A0 A1 c0 c1 k) (fun _ i _ => l.length - (intOf i).toNat)
    case atStart => exact ⟨0, Nat.zero_le _, rfl, b4⟩
    case round =>
      clear b4
      obtain ⟨k, hk, rfl, A2, c2, b0, b1, o0, o1, o2, hB⟩ := hrel
      have x0 := b1.cellIs 0 (.slice A0 l.length c0) rfl
      have x1 := b1.cellIs 1 (.slice A1 l.length c1) rfl
      have x2 := b1.cellIs 2 (.slice A2 k c2) rfl
      by_cases hlt : k < l.length
      · have hlb := b1.lt
        go_wp2_with (at_builtin; refine wp_append_one FM w.heap.size rfl (.tmp 20) (.tmp 23) 26 57 _ 40 rfl Try.underlying26 infoM rfl (by decide) (.slice A2 k c2) (mvs k) ⟨(k : Int), Vl.zero⟩ _ rfl rfl rfl o2 hB.size (by rw [mvs_length]; omega) (by omega) ?_; intro v1 w5 ho hg hat; obtain ⟨A3, c3, rfl, hc3, hr3⟩ := ho.slice; have b15 := b1.beside o2 (by decide) hg; have z2 := b15.cellIs 2 (.slice A2 k c2) rfl; have y2 := b15.frozen 2; have hlb5 := b15.lt)
        go_roundw
        case rel =>
          go_light
          have n3 : ∀ {α : Type} {F : Flat α} {e : TypeId} {b : Nat} {v : Value} {xs : List α}, Own F e w5 b v xs → e ≠ 28 → v.ownBlock ≠ some w3.heap.size := fun h he => h.ne_block b15 he
          have hm : (mvs k).length = k := mvs_length k
          refine ⟨k + 1, by omega, by go_num, A3, c3, (b0.beside o2 (by decide) hg).far (by exact Nat.ne_of_lt hgt) _, ?_, (o0.beside o2 (by decide) hg).far (n3 (o0.beside o2 (by decide) hg) (by decide)) _, (o1.beside o2 (by decide) hg).far (n3 (o1.beside o2 (by decide) hg) (by decide)) _, ?_, (below_grownOwn hB o2 hg hB.size (Nat.le_refl _)).setCell (Nat.le_of_lt hgt) _⟩
          · have := b15.set_ 2 (.slice A3 ((mvs k).length + 1) c3)
            rw [hm] at this ⊢
            exact this
          · have h1 := ho.far (p := ⟨w3.heap.size, 2, none⟩) (n3 ho (by decide)) (.slice A3 ((mvs k).length + 1) c3)
            rw [List.length_append, hm, ← mvs_succ] at h1
            rw [hm]
            exact h1
        case measure => simp [intOf]; omega
      · have hk' : k = l.length := by omega
        subst hk'
        have z0 := b0.cellIs 0 (.slice none 0 0) rfl
        have z1 := b0.cellIs 1 (.slice none 0 0) rfl
        have z2 := b0.cellIs 2 (.slice none 0 0) rfl
        have q0 := b0.frozen 0
        have q1 := b0.frozen 1
        have q2 := b0.frozen 2
        go_wp2
        have n0 : ∀ {α : Type} {F : Flat α} {e : TypeId} {b : Nat} {v : Value} {xs : List α}, Own F e wr b v xs → e ≠ 28 → v.ownBlock ≠ some w.heap.size := fun h he => h.ne_block b0 he
        have hs : sameT l = ⟨l, l, mvs l.length⟩ := by unfold sameT; rw [HR.out]; rfl
        refine bodyPost_ret (v := .agg #[.slice A0 l.length c0, .slice A1 l.length c1, .slice A2 l.length c2]) (by simp [results, Try.results17, go_sem, z0, z1, z2]) rfl ⟨_, rfl, ?_, ?_⟩
        · rw [hs]
          refine ⟨A0, c0, A1, c1, A2, c2, by simp [mvs_length], ?_, ?_, ?_, hne⟩
          · exact ((o0.far (n0 o0 (by decide)) _).far (n0 o0 (by decide)) _).far (n0 o0 (by decide)) _
          · exact ((o1.far (n0 o1 (by decide)) _).far (n0 o1 (by decide)) _).far (n0 o1 (by decide)) _
          · simp only [mvs_length]; exact ((o2.far (n0 o2 (by decide)) _).far (n0 o2 (by decide)) _).far (n0 o2 (by decide)) _
        · repeat (first | exact hB | refine Below.setCell ?_ (by exact Nat.le_refl _) _)
end Go.Proofs.Ytdggnnbgiadgaaa
