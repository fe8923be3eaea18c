/- table.Right's test of one move. -/
import Derived.Test.YtdggnnbgiadgaaaTb1
import Derived.Test.YtdggnnbgiadgaaaK2
set_option linter.unusedVariables false
namespace Go.Proofs.Ytdggnnbgiadgaaa
open Go.RowKit
attribute [local go_sem high] eqVl_run

def moveOkB (old : List Fld) (m : Mv) (f : Fld) : Bool :=
  if m.src = -1 then valB m.dflt f && (!(f.kind == 11) || m.dflt.bits == 0)
  else decide (0 ≤ m.src) && (decide (m.src < (old.length : Int)) && (vlEq m.dflt Vl.zero && castsB (old.getD m.src.toNat Fld.zero).kind (old.getD m.src.toNat Fld.zero).long f.kind f.long))

theorem table_Right1 (k pb : Nat) (old new : List Fld) (moves : List Mv) (A0 A1 A2 : Option Addr) (c0 c1 c2 : Nat) (m : Mv) (f : Fld) (w : World)
    (hm : moves[k]? = some m) (hf : new[k]? = some f) (ho : FsOk old) (hn : FsOk new) (hv : VlOk m.dflt)
    (hml : moves.length ≤ 50000) (h0 : old.length ≤ c0) (h1 : new.length ≤ c1) (h2 : moves.length ≤ c2)
    (x0 : w.cell? ⟨pb, 0, none⟩ = some (.slice A0 old.length c0)) (x1 : w.cell? ⟨pb, 1, none⟩ = some (.slice A1 new.length c1)) (x2 : w.cell? ⟨pb, 2, none⟩ = some (.slice A2 moves.length c2))
    (r0 : RS FF w A0 old) (r1 : RS FF w A1 new) (r2 : RS FM w A2 moves) :
    Calls Try.prog 23 #[.int .i64 k, .pointer (some ⟨pb, 0, none⟩)] w fun e w' => e = .returned (.bool (moveOkB old m f)) ∧ Below w.heap.size w w' := by
  have hk2 : k < moves.length := (List.getElem?_eq_some_iff.1 hm).1
  have hk1 : k < new.length := (List.getElem?_eq_some_iff.1 hf).1
  have hnl := hn.len
  have hol := ho.len
  obtain ⟨ad2, m', rfl, hm', y0, y1, y2, y3⟩ := r2.mv hk2
  obtain rfl : m = m' := Option.some.inj (hm.symm.trans hm')
  obtain ⟨ad1, f', rfl, hf', z0, z1, z2⟩ := r1.fld hk1
  obtain rfl : f = f' := Option.some.inj (hf.symm.trans hf')
  have Hm := Lib.hid hm
  have Hf := Lib.hid hf
  clear hm hf hm' hf'
  have e1 : (k : Int) < (new.length : Int) := by omega
  have e2 : (k : Int) < (moves.length : Int) := by omega
  go_enter Try.func23, Try.ntmps23
  go_upto_region 1 with fail
  go_cut [4, 5] (fun s4 s5 wx => ∃ g4 g5 : Nat, s4 = .pointer (some ⟨g4, 0, none⟩) ∧ s5 = .pointer (some ⟨g5, 0, none⟩) ∧ Blk wx g4 57 #[.int .i64 m.src, .int .i64 m.dflt.kind, .int .u64 m.dflt.bits, .string m.dflt.text] ∧
      Blk wx g5 43 #[.string f.name, .int .i64 f.kind, .int .i64 f.long] ∧ Below w.heap.size w wx)
  case first =>
    go_region_held3 (fun w' => w'.cell? ⟨pb, 1, none⟩ = some (.slice (some ad1) new.length c1) ∧ w'.cell? ⟨pb, 2, none⟩ = some (.slice (some ad2) moves.length c2) ∧
      w'.cell? (ad2.add (k * 4)) = some (.int .i64 m.src) ∧ w'.cell? ⟨(ad2.add (k * 4)).block, (ad2.add (k * 4)).off + 1, none⟩ = some (.int .i64 m.dflt.kind) ∧ w'.cell? ⟨(ad2.add (k * 4)).block, (ad2.add (k * 4)).off + 2, none⟩ = some (.int .u64 m.dflt.bits) ∧
      w'.cell? ⟨(ad2.add (k * 4)).block, (ad2.add (k * 4)).off + 3, none⟩ = some (.string m.dflt.text) ∧
      w'.cell? (ad1.add (k * 3)) = some (.string f.name) ∧ w'.cell? ⟨(ad1.add (k * 3)).block, (ad1.add (k * 3)).off + 1, none⟩ = some (.int .i64 f.kind) ∧ w'.cell? ⟨(ad1.add (k * 3)).block, (ad1.add (k * 3)).off + 2, none⟩ = some (.int .i64 f.long))
    (go_keep) (fail)
    all_goals (go_wp2_with fail; go_meet)
    · exact ⟨w.heap.size, w.heap.size + 1, rfl, rfl, ((Blk.new _ _ _).alloc _).drew, (Blk.second _ _ _ _).drew, (below_two _ _ _).drew⟩
    · exact ⟨w.heap.size + 1, w.heap.size, rfl, rfl, (Blk.second _ _ _ _).drew, ((Blk.new _ _ _).alloc _).drew, (below_two _ _ _).drew⟩
  case rest =>
    obtain ⟨g4, g5, rfl, rfl, b4, b5, hB⟩ := hcut
    replace x0 := keepc (hB) x0
    replace r0 := r0.below hB
    clear x1 x2 r1 r2 y0 y1 y2 y3 z0 z1 z2
    have a0 := b4.cellIs 0 (.int .i64 m.src) rfl
    have a1 := b4.cellIs 1 (.int .i64 m.dflt.kind) rfl
    have a2 := b4.cellIs 2 (.int .u64 m.dflt.bits) rfl
    have a3 := b4.cellIs 3 (.string m.dflt.text) rfl
    have d0 := b5.cellIs 0 (.string f.name) rfl
    have d1 := b5.cellIs 1 (.int .i64 f.kind) rfl
    have d2 := b5.cellIs 2 (.int .i64 f.long) rfl
    have B4 := Lib.hid b4
    have B5 := Lib.hid b5
    clear b4 b5
    by_cases hs : m.src = -1
    · have hs' : (m.src == -1) = true := by simp [hs]
      have hres : moveOkB old m f = (valB m.dflt f && (!(f.kind == 11) || m.dflt.bits == 0)) := by simp [moveOkB, hs]
      have HR := Lib.hid hres
      clear hs hres
      go_wp2_with fail
      refine (kind_Right m.dflt f _ hv.bits.1 hv.bits.2).mono ?_
      rintro e w2 ⟨rfl, hb2⟩
      have a2' := keepc hb2 a2
      have d1' := keepc hb2 d1
      cases hval : valB m.dflt f with
      | false =>
        have HV := Lib.hid hval
        clear hval
        go_wp2_with fail
        go_ret
        exact ⟨by rw [HR.out, HV.out]; rfl, hB.trans (hb2.mono hB.size)⟩
      | true =>
        have HV := Lib.hid hval
        clear hval
        by_cases h11 : f.kind = 11
        · have h11' : (f.kind != 11) = false := by simp [h11]
          have HK := Lib.hid h11
          clear h11
          go_wp2_with fail
          go_ret
          exact ⟨by rw [HR.out, HV.out, HK.out]; rfl, hB.trans (hb2.mono hB.size)⟩
        · have h11' : (f.kind != 11) = true := by simp [h11]
          have HK : Hid ((f.kind == 11) = false) := by simp [Hid, h11]
          clear h11
          go_wp2_with fail
          go_ret
          exact ⟨by rw [HR.out, HV.out, HK.out]; rfl, hB.trans (hb2.mono hB.size)⟩
    · have hs' : (m.src == -1) = false := by simp [hs]
      have hres : moveOkB old m f = (decide (0 ≤ m.src) && (decide (m.src < (old.length : Int)) && (vlEq m.dflt Vl.zero && castsB (old.getD m.src.toNat Fld.zero).kind (old.getD m.src.toNat Fld.zero).long f.kind f.long))) := by simp [moveOkB, hs]
      have HR := Lib.hid hres
      clear hs hres
      obtain ⟨src, dflt⟩ := m
      dsimp only at *
      have p0 := bwc a0
      have p1 := bwc a1
      have p2 := bwc a2
      have p3 := bwc a3
      have q0 := bwc d0
      have q1 := bwc d1
      have q2 := bwc d2
      have s0 := bwc x0
      by_cases h1 : 0 ≤ src
      · obtain ⟨n, rfl⟩ := Int.eq_ofNat_of_zero_le h1
        by_cases h2 : n < old.length
        · have h2' : (n : Int) < (old.length : Int) := by omega
          obtain ⟨ad0, fo, rfl, hfo, t0, t1, t2⟩ := r0.fld h2
          have v0 := bwc t0
          have v1 := bwc t1
          have v2 := bwc t2
          have hgo : old.getD n Fld.zero = fo := by rw [List.getD_eq_getElem?_getD, hfo]; rfl
          have hlast : decide ((0 : Int) ≤ (n : Int)) = true := by simp
          have hla2 : decide ((n : Int) < (old.length : Int)) = true := by simp; omega
          have HL1 := Lib.hid hlast
          have HL2 := Lib.hid hla2
          have HG := Lib.hid hgo
          clear hlast hla2 hgo hfo t0 t1 t2
          cases heq : vlEq ⟨dflt.kind, dflt.bits, dflt.text⟩ ⟨0, 0, ⟨#[]⟩⟩ with
          | true =>
            have HE : Hid (vlEq dflt Vl.zero = true) := heq
            go_wp2_with fail
            refine wp_region_below (by kernel_rfl) (by kernel_rfl) ?_
            repeat (go_big_quiet_step ((go_at_call 25; exact below_of (kind_Casts _ _ _ _ _ _ _))))
            refine wpQuiet_nil ?_
            intro w2 hb2
            go_wp2_with fail
            go_ret
            exact ⟨by rw [HR.out, HL1.out, HL2.out, HE.out]; simp only [Int.toNat_natCast]; rw [HG.out]; rfl, hB.trans (hb2.mono hB.size)⟩
          | false =>
            have HE : Hid (vlEq dflt Vl.zero = false) := heq
            go_wp2_with fail
            refine wp_region_below (by kernel_rfl) (by kernel_rfl) ?_
            repeat (go_big_quiet_step ((go_at_call 25; exact below_of (kind_Casts _ _ _ _ _ _ _))))
            refine wpQuiet_nil ?_
            intro w2 hb2
            go_wp2_with fail
            go_ret
            exact ⟨by rw [HR.out, HL1.out, HL2.out, HE.out]; rfl, hB.trans (hb2.mono hB.size)⟩
        · have h2' : decide ((n : Int) < (old.length : Int)) = false := by simp; omega
          have HL2 := Lib.hid h2'
          go_wp2_with fail
          refine wp_region_below (by kernel_rfl) (by kernel_rfl) ?_
          repeat (go_big_quiet_step ((go_at_call 25; exact below_of (kind_Casts _ _ _ _ _ _ _))))
          refine wpQuiet_nil ?_
          intro w2 hb2
          go_wp2_with fail
          go_ret
          exact ⟨by rw [HR.out, HL2.out]; simp, hB.trans (hb2.mono hB.size)⟩
      · have h1' : decide (0 ≤ src) = false := by simp; omega
        have HL1 := Lib.hid h1'
        go_wp2_with fail
        refine wp_region_below (by kernel_rfl) (by kernel_rfl) ?_
        repeat (go_big_quiet_step ((go_at_call 25; exact below_of (kind_Casts _ _ _ _ _ _ _))))
        refine wpQuiet_nil ?_
        intro w2 hb2
        go_wp2_with fail
        go_ret
        exact ⟨by rw [HR.out, HL1.out]; rfl, hB.trans (hb2.mono hB.size)⟩
end Go.Proofs.Ytdggnnbgiadgaaa
