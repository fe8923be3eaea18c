/- change.All. -/
import Derived.Test.YtdggnnbgiadgaaaCo1
set_option linter.unusedVariables false
namespace Go.Proofs.Ytdggnnbgiadgaaa
open Go.RowKit

/-- A row of changes that is read. -/
def RC (w : World) (A : Option Addr) (cs : List Ch) : Prop := ∀ k c, cs[k]? = some c → ∃ ad B cp, A = some ad ∧ c.order.length ≤ cp ∧ RS FI w B c.order ∧ ∀ j u, (chCells c B cp)[j]? = some u → w.cell? (ad.add (k * 9 + j)) = some u
theorem RC.below {w w1 : World} {A : Option Addr} {cs : List Ch} (h : RC w A cs) (hb : Below w.heap.size w w1) : RC w1 A cs := fun k c hk => by
  obtain ⟨ad, B, cp, h1, h2, h3, h4⟩ := h k c hk
  exact ⟨ad, B, cp, h1, h2, h3.below hb, fun j u hu => keepc hb (h4 j u hu)⟩
theorem RC.at_ {w : World} {A : Option Addr} {cs : List Ch} (h : RC w A cs) {k : Nat} (hk : k < cs.length) : ∃ ad c B cp, A = some ad ∧ cs[k]? = some c ∧ c.order.length ≤ cp ∧ RS FI w B c.order ∧
    w.cell? (ad.add (k * 9)) = some (.int .i64 c.op) ∧ w.cell? ⟨(ad.add (k * 9)).block, (ad.add (k * 9)).off + 1, none⟩ = some (.string c.name) ∧ w.cell? ⟨(ad.add (k * 9)).block, (ad.add (k * 9)).off + 2, none⟩ = some (.string c.dst.name) ∧
    w.cell? ⟨(ad.add (k * 9)).block, (ad.add (k * 9)).off + 3, none⟩ = some (.int .i64 c.dst.kind) ∧ w.cell? ⟨(ad.add (k * 9)).block, (ad.add (k * 9)).off + 4, none⟩ = some (.int .i64 c.dst.long) ∧
    w.cell? ⟨(ad.add (k * 9)).block, (ad.add (k * 9)).off + 5, none⟩ = some (.int .i64 c.dflt.kind) ∧ w.cell? ⟨(ad.add (k * 9)).block, (ad.add (k * 9)).off + 6, none⟩ = some (.int .u64 c.dflt.bits) ∧
    w.cell? ⟨(ad.add (k * 9)).block, (ad.add (k * 9)).off + 7, none⟩ = some (.string c.dflt.text) ∧ w.cell? ⟨(ad.add (k * 9)).block, (ad.add (k * 9)).off + 8, none⟩ = some (.slice B c.order.length cp) := by
  obtain ⟨ad, B, cp, h1, h2, h3, h4⟩ := h k cs[k] (List.getElem?_eq_getElem hk)
  have hj : ∀ j u, j ≠ 0 → (chCells cs[k] B cp)[j]? = some u → w.cell? ⟨(ad.add (k * 9)).block, (ad.add (k * 9)).off + j, none⟩ = some u := fun j u h0 hu => by rw [← fieldAt _ _ j h0]; exact h4 j u hu
  exact ⟨ad, cs[k], B, cp, h1, List.getElem?_eq_getElem hk, h2, h3, h4 0 _ rfl, hj 1 _ (by omega) rfl, hj 2 _ (by omega) rfl, hj 3 _ (by omega) rfl, hj 4 _ (by omega) rfl, hj 5 _ (by omega) rfl, hj 6 _ (by omega) rfl, hj 7 _ (by omega) rfl, hj 8 _ (by omega) rfl⟩

def allFrom (t : Tb) : List Ch → Tb × Int
  | [] => (t, 0)
  | c :: cs => if (makeT t.new c).2 = 0 then (if (composeT t (makeT t.new c).1).2 = 0 then allFrom (composeT t (makeT t.new c).1).1 cs else (Tb.zero, (composeT t (makeT t.new c).1).2)) else (Tb.zero, (makeT t.new c).2)
def allT (l : List Fld) (cs : List Ch) : Tb × Int := if rightL l = true then allFrom (sameT l) cs else (Tb.zero, 60)

/-- The table so far lies in block g. -/
def AInv (w wr : World) (t : Tb) (g : Nat) : Prop := ∃ (A0 A1 A2 : Option Addr) (c0 c1 c2 : Nat), Blk wr w.heap.size 28 #[.slice none 0 0, .slice none 0 0, .slice none 0 0] ∧
  Blk wr g 28 #[.slice A0 t.old.length c0, .slice A1 t.new.length c1, .slice A2 t.moves.length c2] ∧ OwnTab wr w.heap.size (.agg #[.slice A0 t.old.length c0, .slice A1 t.new.length c1, .slice A2 t.moves.length c2]) t ∧ Below w.heap.size w wr ∧ w.heap.size < g
/-- What is handed back. -/
def AQ (w : World) (r : Tb × Int) (e : Ending) (w' : World) : Prop := RetTE w w.heap.size r e w'

theorem AInv.kept {w wr w1 : World} {t : Tb} {g : Nat} {A0 A1 A2 : Option Addr} {c0 c1 c2 : Nat} (h : Blk wr w.heap.size 28 #[.slice none 0 0, .slice none 0 0, .slice none 0 0] ∧
    Blk wr g 28 #[.slice A0 t.old.length c0, .slice A1 t.new.length c1, .slice A2 t.moves.length c2] ∧ OwnTab wr w.heap.size (.agg #[.slice A0 t.old.length c0, .slice A1 t.new.length c1, .slice A2 t.moves.length c2]) t ∧ Below w.heap.size w wr ∧ w.heap.size < g) (hb : Below wr.heap.size wr w1) :
    Blk w1 w.heap.size 28 #[.slice none 0 0, .slice none 0 0, .slice none 0 0] ∧
    Blk w1 g 28 #[.slice A0 t.old.length c0, .slice A1 t.new.length c1, .slice A2 t.moves.length c2] ∧ OwnTab w1 w.heap.size (.agg #[.slice A0 t.old.length c0, .slice A1 t.new.length c1, .slice A2 t.moves.length c2]) t ∧ Below w.heap.size w w1 ∧ w.heap.size < g :=
  ⟨h.1.below hb, h.2.1.below hb, h.2.2.1.below hb, h.2.2.2.1.trans (hb.mono h.2.2.2.1.size), h.2.2.2.2⟩
theorem rd_new {w : World} {base : Nat} {t : Tb} {A0 A1 A2 : Option Addr} {c0 c1 c2 : Nat} (h : OwnTab w base (.agg #[.slice A0 t.old.length c0, .slice A1 t.new.length c1, .slice A2 t.moves.length c2]) t) : RS FF w A1 t.new ∧ t.new.length ≤ c1 := by
  obtain ⟨B0, d0, B1, d1, B2, d2, e, h0, h1, h2, h3⟩ := h
  simp at e
  obtain ⟨⟨rfl, rfl⟩, ⟨rfl, rfl⟩, rfl, rfl⟩ := e
  exact ⟨h1.at_.2, h1.at_.1⟩
set_option maxHeartbeats 4000000 in
set_option maxRecDepth 100000 in
theorem change_All (l : List Fld) (cs : List Ch) (A C : Option Addr) (cl cc : Nat) (w : World) (hr : RS FF w A l) (hok : FsOk l) (hlc : l.length ≤ cl) (hcs : RC w C cs) (hcc : cs.length ≤ cc) (hcl : cs.length ≤ 50000) (hco : ∀ c ∈ cs, ChOk c ∧ c.order.length ≤ 40000) :
    Calls Try.prog 7 #[.slice A l.length cl, .slice C cs.length cc] w (RetTE w w.heap.size (allT l cs)) := by
  obtain ⟨W, hW⟩ : ∃ W, W = w.alloc (Obj.cells #[.slice none 0 0, .slice none 0 0, .slice none 0 0] 28) := ⟨_, rfl⟩
  have B0 : Blk W w.heap.size 28 #[.slice none 0 0, .slice none 0 0, .slice none 0 0] := hW ▸ Blk.new _ _ _
  have hB0 : Below w.heap.size w W := hW ▸ (Below.refl _ _).alloc (Nat.le_refl _) _
  have hr0 := hr.below hB0
  cases hR : rightL l with
  | false =>
    have HE : Hid (allT l cs = (Tb.zero, 60)) := by unfold allT; rw [hR]; rfl
    have HR := Lib.hid hR
    clear hR
    go_enter Try.func7, Try.ntmps7
    go_upto_region 1 with fail
    rw [← hW]
    clear hW
    go_wp2_with fail
    refine (field_RightIs hr0 hok hlc HR.out).mono ?_
    rintro e w1 ⟨rfl, hb1⟩
    have B1 := B0.below hb1
    have hB1 := hB0.trans (hb1.mono hB0.size)
    have z0 := B1.cellIs 0 (.slice none 0 0) rfl
    have z1 := B1.cellIs 1 (.slice none 0 0) rfl
    have z2 := B1.cellIs 2 (.slice none 0 0) rfl
    have u0 := B1.frozen 0
    have u1 := B1.frozen 1
    have u2 := B1.frozen 2
    go_wp2_with fail
    refine bodyPost_ret (v := .tuple #[.agg #[.slice none 0 0, .slice none 0 0, .slice none 0 0], .int .i64 60]) (by simp [results, Try.results7, go_sem, z0, z1, z2]) rfl ⟨_, by rw [HE.out], ?_, ?_, ?_⟩
    · rw [HE.out]; exact OwnTab.zero _ _
    · exact below_set (below_set (below_set hB1 (by omega) _ _) (by omega) _ _) (by omega) _ _
    · exact far_set (far_set (far_set (far_below hB1) (by omega) _ _) (by omega) _ _) (by omega) _ _
  | true =>
    have HE : Hid (allT l cs = allFrom (sameT l) cs) := by unfold allT; rw [if_pos hR]; exact rfl
    have hl16 := right_len hR
    have HR := Lib.hid hR
    clear hR
    go_enter Try.func7, Try.ntmps7
    go_upto_region 1 with fail
    rw [← hW]
    clear hW
    go_wp2_with fail
    refine (field_RightIs hr0 hok hlc HR.out).mono ?_
    rintro e w1 ⟨rfl, hb1⟩
    have B1 := B0.below hb1
    have hB1 := hB0.trans (hb1.mono hB0.size)
    have hr1 := hr0.below hb1
    clear B0 hB0 hr0 hb1
    go_wp2_with fail
    refine (table_Same l A cl w1 hr1 hok hlc).mono ?_
    rintro e w2 ⟨v2, rfl, ht2, hb2⟩
    have B2 := B1.below hb2
    have hB2 := hB1.trans (hb2.mono hB1.size)
    have hsz := B2.lt
    have ht2' := ht2.lower hB1.size
    have hokt := same_ok hok hl16
    generalize sameT l = t at *
    have ht2'' := ht2'
    obtain ⟨A0, c0, A1, c1, A2, c2, rfl, -, -, -, -⟩ := ht2''
    have hstart : AInv w (w2.alloc (Obj.cells #[.slice A0 t.old.length c0, .slice A1 t.new.length c1, .slice A2 t.moves.length c2] 28)) t w2.heap.size :=
      ⟨A0, A1, A2, c0, c1, c2, B2.alloc _, Blk.new _ _ _, ht2'.below ((Below.refl _ _).alloc (Nat.le_refl _) _), hB2.alloc hB2.size _, hsz⟩
    clear B1 B2 hB1 hB2 ht2 ht2' hr1 hb2
    go_wp2_with fail
    obtain ⟨R, hR⟩ : ∃ R, R = allFrom t cs := ⟨_, rfl⟩
    have hER : allT l cs = R := by rw [hR]; exact HE.out
    have HER := Lib.hid hER
    have HR' := Lib.hid hR
    clear hR hER
    go_loopw [19] (fun i wr => ∃ (k : Nat) (t' : Tb), k ≤ cs.length ∧ i = .int .i64 k ∧ AInv w wr t' w2.heap.size ∧ TbOk t' ∧ Hid (allFrom t' (cs.drop k) = R)) (fun i _ => cs.length - (intOf i).toNat)
    case atStart => exact ⟨0, t, Nat.zero_le _, rfl, hstart, hokt, by rw [List.drop_zero]; exact HR'.out.symm⟩
    case round =>
      clear hstart hokt HR'
      obtain ⟨k, t', hk, rfl, ⟨A0, A1, A2, c0, c1, c2, hI⟩, hokt, HA⟩ := hrel
      by_cases hlt : k < cs.length
      · obtain ⟨ad, c, B, cp, rfl, hc, hcp, ho, q0, q1, q2, q3, q4, q5, q6, q7, q8⟩ := (hcs.below hI.2.2.2.1).at_ hlt
        have hdrop : cs.drop k = c :: cs.drop (k + 1) := by
          obtain ⟨h1, h2⟩ := List.getElem?_eq_some_iff.1 hc
          rw [← h2]; exact List.drop_eq_getElem_cons h1
        have hco' := hco c (List.mem_of_getElem? hc)
        have HD := Lib.hid hdrop
        clear hc hdrop
        obtain ⟨W4, hW4⟩ : ∃ W4, W4 = wr.alloc (Obj.cells (chCells c B cp) 52) := ⟨_, rfl⟩
        have hB4 : Below wr.heap.size wr W4 := hW4 ▸ (Below.refl _ _).alloc (Nat.le_refl _) _
        have b8 : Blk W4 wr.heap.size 52 (chCells c B cp) := hW4 ▸ Blk.new _ _ _
        have I4 := AInv.kept hI hB4
        have ho4 := ho.below hB4
        go_upto_region 7 with fail
        rw [← hW4]
        clear hW4 q0 q1 q2 q3 q4 q5 q6 q7 q8 ho
        obtain ⟨n1, n2, n3, n4, n5, n6, n7, n8⟩ := ch_cells b8
        have n0 := b8.cellIs 0 (.int .i64 c.op) rfl
        have x1 := I4.2.1.cellIs 1 (.slice A1 t'.new.length c1) rfl
        go_wp2_with fail
        refine (change_Make t'.new c A1 B c1 cp W4 (rd_new I4.2.2.1).1 hokt.new (rd_new I4.2.2.1).2 ho4 hcp hco'.1 hco'.2).mono ?_
        have hmk := make_ok (c := c) hokt.new hco'.1
        obtain ⟨nt, ne, hm⟩ : ∃ nt ne, makeT t'.new c = (nt, ne) := ⟨_, _, rfl⟩
        rw [hm] at hmk ⊢
        have HM := Lib.hid hm
        clear hm
        rintro e w5 ⟨v5, rfl, ht5, hb5, -⟩
        have I5 := AInv.kept I4 hb5
        have ht5' := ht5
        obtain ⟨D0, d0, D1, d1, D2, d2, rfl, -, -, -, -⟩ := ht5'
        dsimp only at *
        obtain ⟨W6, hW6⟩ : ∃ W6, W6 = w5.alloc (Obj.cells #[.slice D0 nt.old.length d0, .slice D1 nt.new.length d1, .slice D2 nt.moves.length d2] 28) := ⟨_, rfl⟩
        have hB6 : Below w5.heap.size w5 W6 := hW6 ▸ (Below.refl _ _).alloc (Nat.le_refl _) _
        have N6 : Blk W6 w5.heap.size 28 #[.slice D0 nt.old.length d0, .slice D1 nt.new.length d1, .slice D2 nt.moves.length d2] := hW6 ▸ Blk.new _ _ _
        have I6 := AInv.kept I5 hB6
        have ht6 := ht5.below hB6
        go_upto_region 8 with fail
        rw [← hW6]
        clear hW6 n0 n1 n2 n3 n4 n5 n6 n7 n8 x1 b8 I4 I5 ht5 hb5 hI
        have z0 := I6.1.cellIs 0 (.slice none 0 0) rfl
        have z1 := I6.1.cellIs 1 (.slice none 0 0) rfl
        have z2 := I6.1.cellIs 2 (.slice none 0 0) rfl
        have u0 := I6.1.frozen 0
        have u1 := I6.1.frozen 1
        have u2 := I6.1.frozen 2
        by_cases hne : ne = 0
        · subst hne
          have p0 := I6.2.1.cellIs 0 (.slice A0 t'.old.length c0) rfl
          have p1 := I6.2.1.cellIs 1 (.slice A1 t'.new.length c1) rfl
          have p2 := I6.2.1.cellIs 2 (.slice A2 t'.moves.length c2) rfl
          have m0 := N6.cellIs 0 (.slice D0 nt.old.length d0) rfl
          have m1 := N6.cellIs 1 (.slice D1 nt.new.length d1) rfl
          have m2 := N6.cellIs 2 (.slice D2 nt.moves.length d2) rfl
          go_wp2_with fail
          refine (table_Compose t' nt _ _ W6 I6.2.2.1.rd ht6.rd hokt hmk).mono ?_
          have hck := compose_ok hokt hmk
          obtain ⟨ct, ce, hcm⟩ : ∃ ct ce, composeT t' nt = (ct, ce) := ⟨_, _, rfl⟩
          rw [hcm] at hck ⊢
          have HCM := Lib.hid hcm
          clear hcm
          rintro e w7 ⟨v7, rfl, ht7, hb7, -⟩
          have I7 := AInv.kept I6 hb7
          have ht7' := ht7
          obtain ⟨E0, e0, E1, e1, E2, e2, rfl, -, -, -, -⟩ := ht7'
          dsimp only at *
          have hlo : w.heap.size ≤ W6.heap.size := I6.2.2.2.1.size
          clear p0 p1 p2 m0 m1 m2 z0 z1 z2 u0 u1 u2 I6 N6 ht6 hb7
          have p0 := I7.2.1.cellIs 0 (.slice A0 t'.old.length c0) rfl
          have p1 := I7.2.1.cellIs 1 (.slice A1 t'.new.length c1) rfl
          have p2 := I7.2.1.cellIs 2 (.slice A2 t'.moves.length c2) rfl
          have s0 := I7.2.1.frozen 0
          have s1 := I7.2.1.frozen 1
          have s2 := I7.2.1.frozen 2
          obtain ⟨W8, hW8⟩ : ∃ W8, W8 = ((w7.setCell ⟨w2.heap.size, 0, none⟩ (.slice E0 ct.old.length e0)).setCell ⟨w2.heap.size, 1, none⟩ (.slice E1 ct.new.length e1)).setCell ⟨w2.heap.size, 2, none⟩ (.slice E2 ct.moves.length e2) := ⟨_, rfl⟩
          have hne8 : w.heap.size ≠ w2.heap.size := by omega
          have I8 : Blk W8 w.heap.size 28 #[.slice none 0 0, .slice none 0 0, .slice none 0 0] ∧ Blk W8 w2.heap.size 28 #[.slice E0 ct.old.length e0, .slice E1 ct.new.length e1, .slice E2 ct.moves.length e2] ∧
              OwnTab W8 w.heap.size (.agg #[.slice E0 ct.old.length e0, .slice E1 ct.new.length e1, .slice E2 ct.moves.length e2]) ct ∧ Below w.heap.size w W8 ∧ w.heap.size < w2.heap.size := by
            rw [hW8]
            exact ⟨((I7.1.far (p := ⟨w2.heap.size, 0, none⟩) hne8 _).far (p := ⟨w2.heap.size, 1, none⟩) hne8 _).far (p := ⟨w2.heap.size, 2, none⟩) hne8 _, ((I7.2.1.set_ 0 _).set_ 1 _).set_ 2 _, (ht7.lower hlo).stored I7.2.1 _ _ _ _ _ _,
              below_set (below_set (below_set I7.2.2.2.1 (by omega) _ _) (by omega) _ _) (by omega) _ _, hsz⟩
          go_upto_region 10 with fail
          rw [← hW8]
          clear hW8 p0 p1 p2 s0 s1 s2 I7 ht7
          have z0 := I8.1.cellIs 0 (.slice none 0 0) rfl
          have z1 := I8.1.cellIs 1 (.slice none 0 0) rfl
          have z2 := I8.1.cellIs 2 (.slice none 0 0) rfl
          have u0 := I8.1.frozen 0
          have u1 := I8.1.frozen 1
          have u2 := I8.1.frozen 2
          by_cases hce : ce = 0
          · subst hce
            have HX : Hid (allFrom ct (cs.drop (k + 1)) = R) := by
              have h1 := HA.out
              rw [HD.out] at h1
              unfold allFrom at h1
              rw [HM.out, if_pos rfl] at h1
              dsimp only at h1
              rw [HCM.out, if_pos rfl] at h1
              exact h1
            go_wp2_with fail
            go_roundw
            case rel => exact ⟨k + 1, ct, by omega, by go_num, ⟨E0, E1, E2, e0, e1, e2, I8⟩, hck, HX⟩
            case measure => simp [intOf]; omega
          · have hce1 : (ce == 0) = false := beq_eq_false_iff_ne.2 hce
            have hce2 : (ce != 0) = true := by rw [bne_iff_ne]; exact hce
            have HX : Hid (R = (Tb.zero, ce)) := by
              have h1 := HA.out
              rw [HD.out] at h1
              unfold allFrom at h1
              rw [HM.out, if_pos rfl] at h1
              dsimp only at h1
              rw [HCM.out, if_neg hce] at h1
              exact h1.symm
            go_wp2_with fail
            refine bodyPost_ret (v := .tuple #[.agg #[.slice none 0 0, .slice none 0 0, .slice none 0 0], .int .i64 ce]) (by simp [results, Try.results7, go_sem, z0, z1, z2]) rfl ⟨_, by rw [HER.out, HX.out], ?_, ?_, ?_⟩
            · rw [HER.out, HX.out]; exact OwnTab.zero _ _
            · exact below_set (below_set (below_set I8.2.2.2.1 (by omega) _ _) (by omega) _ _) (by omega) _ _
            · exact far_set (far_set (far_set (far_below I8.2.2.2.1) (by omega) _ _) (by omega) _ _) (by omega) _ _
        · have hne1 : (ne == 0) = false := beq_eq_false_iff_ne.2 hne
          have hne2 : (ne != 0) = true := by rw [bne_iff_ne]; exact hne
          have HX : Hid (R = (Tb.zero, ne)) := by rw [← HA.out, HD.out]; unfold allFrom; rw [HM.out, if_neg hne]; exact rfl
          go_wp2_with fail
          refine bodyPost_ret (v := .tuple #[.agg #[.slice none 0 0, .slice none 0 0, .slice none 0 0], .int .i64 ne]) (by simp [results, Try.results7, go_sem, z0, z1, z2]) rfl ⟨_, by rw [HER.out, HX.out], ?_, ?_, ?_⟩
          · rw [HER.out, HX.out]; exact OwnTab.zero _ _
          · exact below_set (below_set (below_set I6.2.2.2.1 (by omega) _ _) (by omega) _ _) (by omega) _ _
          · exact far_set (far_set (far_set (far_below I6.2.2.2.1) (by omega) _ _) (by omega) _ _) (by omega) _ _
      · have hk' : k = cs.length := by omega
        subst hk'
        have HX : Hid (R = (t', 0)) := by rw [← HA.out, List.drop_length]; exact rfl
        have p0 := hI.2.1.cellIs 0 (.slice A0 t'.old.length c0) rfl
        have p1 := hI.2.1.cellIs 1 (.slice A1 t'.new.length c1) rfl
        have p2 := hI.2.1.cellIs 2 (.slice A2 t'.moves.length c2) rfl
        have z0 := hI.1.cellIs 0 (.slice none 0 0) rfl
        have z1 := hI.1.cellIs 1 (.slice none 0 0) rfl
        have z2 := hI.1.cellIs 2 (.slice none 0 0) rfl
        have u0 := hI.1.frozen 0
        have u1 := hI.1.frozen 1
        have u2 := hI.1.frozen 2
        go_wp2_with fail
        refine bodyPost_ret (v := .tuple #[.agg #[.slice A0 t'.old.length c0, .slice A1 t'.new.length c1, .slice A2 t'.moves.length c2], .int .i64 0]) (by simp [results, Try.results7, go_sem, z0, z1, z2]) rfl ⟨_, by rw [HER.out, HX.out], ?_, ?_, ?_⟩
        · rw [HER.out, HX.out]; exact hI.2.2.1.stored hI.1 _ _ _ _ _ _
        · exact below_set (below_set (below_set hI.2.2.2.1 (by omega) _ _) (by omega) _ _) (by omega) _ _
        · exact far_set (far_set (far_set (far_below hI.2.2.2.1) (by omega) _ _) (by omega) _ _) (by omega) _ _
end Go.Proofs.Ytdggnnbgiadgaaa
