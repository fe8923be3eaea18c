/- table.Right. -/
import Derived.Test.YtdggnnbgiadgaaaTb2
set_option linter.unusedVariables false
namespace Go.Proofs.Ytdggnnbgiadgaaa
open Go.RowKit

structure TbOk (t : Tb) : Prop where
  old : FsOk t.old
  new : FsOk t.new
  len : t.moves.length ≤ 50000
  all : ∀ m ∈ t.moves, VlOk m.dflt

def movesB (old : List Fld) : List Mv → List Fld → Bool
  | m :: ms, f :: fs => moveOkB old m f && movesB old ms fs
  | _, _ => true
def tabB (t : Tb) : Bool := rightL t.old && (rightL t.new && (decide (t.moves.length = t.new.length) && movesB t.old t.moves t.new))

theorem moves_step {old new : List Fld} {moves : List Mv} {k : Nat} {m : Mv} {f : Fld} (hm : moves[k]? = some m) (hf : new[k]? = some f) :
    movesB old (moves.drop k) (new.drop k) = (moveOkB old m f && movesB old (moves.drop (k + 1)) (new.drop (k + 1))) := by
  have h1 : k < moves.length := (List.getElem?_eq_some_iff.1 hm).1
  have h2 : k < new.length := (List.getElem?_eq_some_iff.1 hf).1
  rw [List.drop_eq_getElem_cons h1, List.drop_eq_getElem_cons h2, (List.getElem?_eq_some_iff.1 hm).2, (List.getElem?_eq_some_iff.1 hf).2]; rfl

theorem field_RightIs {l : List Fld} {A : Option Addr} {c : Nat} {w : World} (hr : RS FF w A l) (hok : FsOk l) (hlc : l.length ≤ c) {b : Bool} (hb : rightL l = b) :
    Calls Try.prog 16 #[.slice A l.length c] w fun e w' => e = .returned (.bool b) ∧ Below w.heap.size w w' := by
  subst hb; exact field_Right l A c w hr hok hlc

theorem table_Right (t : Tb) (v : Value) (w : World) (hv : RdTab w v t) (hok : TbOk t) :
    Calls Try.prog 12 #[v] w fun e w' => e = .returned (.bool (tabB t)) ∧ Below w.heap.size w w' := by
  obtain ⟨old, new, moves⟩ := t
  obtain ⟨A0, c0, A1, c1, A2, c2, rfl, l0, l1, l2, r0, r1, r2⟩ := hv
  obtain ⟨ho, hn, hm, hd⟩ := hok
  dsimp only at *
  have hol := ho.len
  have hnl := hn.len
  have b0 := Blk.new w 28 #[.slice A0 old.length c0, .slice A1 new.length c1, .slice A2 moves.length c2]
  have hB0 : Below w.heap.size w (w.alloc (Obj.cells #[.slice A0 old.length c0, .slice A1 new.length c1, .slice A2 moves.length c2] 28)) := (Below.refl _ _).alloc (Nat.le_refl _) _
  have BB := Lib.hid b0
  clear b0
  cases h1 : rightL old with
  | false =>
    have H1 := Lib.hid h1
    clear h1
    go_enter Try.func12, Try.ntmps12
    go_wp2_with fail
    refine (field_RightIs (r0.alloc _) ho l0 H1.out).mono ?_
    rintro e w1 ⟨rfl, hb1⟩
    go_wp2_with fail
    go_ret
    exact ⟨by unfold tabB; rw [H1.out]; rfl, hB0.trans (hb1.mono hB0.size)⟩
  | true =>
    have H1 := Lib.hid h1
    clear h1
    cases h2 : rightL new with
    | false =>
      have H2 := Lib.hid h2
      clear h2
      go_enter Try.func12, Try.ntmps12
      go_wp2_with fail
      refine (field_RightIs (r0.alloc _) ho l0 H1.out).mono ?_
      rintro e w1 ⟨rfl, hb1⟩
      have x1 := (BB.out.below hb1).cellIs 1 (.slice A1 new.length c1) rfl
      have hB1 := hB0.trans (hb1.mono hB0.size)
      go_wp2_with fail
      refine (field_RightIs ((r1.alloc _).below hb1) hn l1 H2.out).mono ?_
      rintro e w2 ⟨rfl, hb2⟩
      go_wp2_with fail
      go_ret
      exact ⟨by unfold tabB; rw [H1.out, H2.out]; rfl, hB1.trans (hb2.mono hB1.size)⟩
    | true =>
      have H2 := Lib.hid h2
      clear h2
      by_cases h3 : moves.length = new.length
      · have h3' : ((moves.length : Int) != (new.length : Int)) = false := by simp [h3]
        have H3 := Lib.hid h3
        clear h3
        go_enter Try.func12, Try.ntmps12
        go_wp2_with fail
        refine (field_RightIs (r0.alloc _) ho l0 H1.out).mono ?_
        rintro e w1 ⟨rfl, hb1⟩
        have x1 := (BB.out.below hb1).cellIs 1 (.slice A1 new.length c1) rfl
        have hB1 := hB0.trans (hb1.mono hB0.size)
        go_wp2_with fail
        refine (field_RightIs ((r1.alloc _).below hb1) hn l1 H2.out).mono ?_
        rintro e w2 ⟨rfl, hb2⟩
        have bb2 := (BB.out.below hb1).below hb2
        have y0 := bb2.cellIs 0 (.slice A0 old.length c0) rfl
        have y1 := bb2.cellIs 1 (.slice A1 new.length c1) rfl
        have y2 := bb2.cellIs 2 (.slice A2 moves.length c2) rfl
        have hB2 := hB1.trans (hb2.mono hB1.size)
        have B2 := Lib.hid bb2
        clear x1 bb2
        go_wp2_with fail
        go_loopw [4, 28] (fun _ i wr => ∃ k : Nat, k ≤ moves.length ∧ i = .int .i64 k ∧ Below w2.heap.size w2 wr ∧ Hid (movesB old (moves.drop k) (new.drop k) = movesB old moves new)) (fun _ i _ => moves.length - (intOf i).toNat)
        case atStart => exact ⟨0, Nat.zero_le _, rfl, Below.refl _ _, rfl⟩
        case round =>
          obtain ⟨k, hk, rfl, hB, HF⟩ := hrel
          have hBr := hB2.trans (hB.mono hB2.size)
          by_cases hlt : k < moves.length
          · have hlt2 : k < new.length := by have := H3.out; omega
            have hmk : moves[k]? = some moves[k] := List.getElem?_eq_getElem hlt
            have hfk : new[k]? = some new[k] := List.getElem?_eq_getElem hlt2
            have hst := moves_step (old := old) hmk hfk
            have hbr := (B2.out.below hB)
            have z0 := hbr.cellIs 0 (.slice A0 old.length c0) rfl
            have z1 := hbr.cellIs 1 (.slice A1 new.length c1) rfl
            have z2 := hbr.cellIs 2 (.slice A2 moves.length c2) rfl
            have hcall := table_Right1 k w.heap.size old new moves A0 A1 A2 c0 c1 c2 moves[k] new[k] wr hmk hfk ho hn (hd _ (List.getElem_mem hlt)) hm l0 l1 l2 z0 z1 z2 (r0.below hBr) (r1.below hBr) (r2.below hBr)
            have HC := Lib.hid hcall
            have HS := Lib.hid hst
            clear hcall hst hmk hfk
            cases hmo : moveOkB old moves[k] new[k] with
            | true =>
              have HM := Lib.hid hmo
              clear hmo
              go_wp2_with fail
              refine HC.out.mono ?_
              rintro e w3 ⟨rfl, hb3⟩
              rw [HM.out]
              go_wp2_with fail
              go_roundw
              case rel => exact ⟨k + 1, by omega, by go_num, hB.trans (hb3.mono hB.size), by have := HS.out; rw [HM.out] at this; exact this.symm.trans HF.out⟩
              case measure => simp [intOf]; omega
            | false =>
              have HM := Lib.hid hmo
              clear hmo
              go_wp2_with fail
              refine HC.out.mono ?_
              rintro e w3 ⟨rfl, hb3⟩
              rw [HM.out]
              go_wp2_with fail
              go_ret
              exact ⟨by unfold tabB; dsimp only; rw [← HF.out, HS.out, HM.out]; simp, hBr.trans (hb3.mono hBr.size)⟩
          · have hk' : Hid (movesB old moves new = true) := by
              have := HF.out
              rw [List.drop_eq_nil_of_le (by omega)] at this
              exact this.symm
            go_wp2_with fail
            go_ret
            exact ⟨by unfold tabB; dsimp only; rw [H1.out, H2.out, hk'.out, decide_eq_true H3.out]; rfl, hBr⟩
      · have h3' : ((moves.length : Int) != (new.length : Int)) = true := by simp; omega
        have H3 : Hid (decide (moves.length = new.length) = false) := decide_eq_false h3
        clear h3
        go_enter Try.func12, Try.ntmps12
        go_wp2_with fail
        refine (field_RightIs (r0.alloc _) ho l0 H1.out).mono ?_
        rintro e w1 ⟨rfl, hb1⟩
        have x1 := (BB.out.below hb1).cellIs 1 (.slice A1 new.length c1) rfl
        have hB1 := hB0.trans (hb1.mono hB0.size)
        go_wp2_with fail
        refine (field_RightIs ((r1.alloc _).below hb1) hn l1 H2.out).mono ?_
        rintro e w2 ⟨rfl, hb2⟩
        have bb2 := (BB.out.below hb1).below hb2
        have y1 := bb2.cellIs 1 (.slice A1 new.length c1) rfl
        have y2 := bb2.cellIs 2 (.slice A2 moves.length c2) rfl
        clear bb2
        go_wp2_with fail
        go_ret
        exact ⟨by unfold tabB; dsimp only; rw [H1.out, H2.out, H3.out]; rfl, hB1.trans (hb2.mono hB1.size)⟩
end Go.Proofs.Ytdggnnbgiadgaaa
