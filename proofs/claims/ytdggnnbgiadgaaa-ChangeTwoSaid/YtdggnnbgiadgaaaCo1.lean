/- table.Compose where it composes: the two clones are laid. -/
import Derived.Test.YtdggnnbgiadgaaaCo0
set_option linter.unusedVariables false
namespace Go.Proofs.Ytdggnnbgiadgaaa
open Go.RowKit

/-- What stands between two rounds. -/
def CInv (w wr : World) (a b : Tb) (ca cb : Array Value) (A0 A1 : Option Addr) (c0 c1 g k : Nat) : Prop :=
  ∃ (A2 : Option Addr) (c2 : Nat), Thr w wr ca cb #[.slice none 0 0, .slice none 0 0, .slice none 0 0] 28 28 28 ∧ Blk wr g 28 #[.slice A0 a.old.length c0, .slice A1 b.new.length c1, .slice A2 k c2] ∧
    Own FF 43 wr w.heap.size (.slice A0 a.old.length c0) a.old ∧ Own FF 43 wr w.heap.size (.slice A1 b.new.length c1) b.new ∧ Own FM 57 wr w.heap.size (.slice A2 k c2) ((compMs a b).take k) ∧
    ((Value.slice A1 b.new.length c1).ownBlock = none ∨ (Value.slice A1 b.new.length c1).ownBlock ≠ (Value.slice A0 a.old.length c0).ownBlock) ∧ w.heap.size + 2 < g
def CSt (w wr : World) (a b : Tb) (ca cb : Array Value) (s6 : Value) : Prop := ∃ (A0 A1 : Option Addr) (c0 c1 g : Nat), s6 = .pointer (some ⟨g, 0, none⟩) ∧ CInv w wr a b ca cb A0 A1 c0 c1 g 0

abbrev mvC (m : Mv) : Array Value := #[.int .i64 m.src, .int .i64 m.dflt.kind, .int .u64 m.dflt.bits, .string m.dflt.text]
theorem moves_all {old : List Fld} : ∀ {ms : List Mv} {fs : List Fld} {k : Nat} {m : Mv} {f : Fld}, movesB old ms fs = true → ms[k]? = some m → fs[k]? = some f → moveOkB old m f = true
  | [], _, k, m, f, _, hm, _ => by simp at hm
  | m0 :: ms, [], k, m, f, _, _, hf => by simp at hf
  | m0 :: ms, f0 :: fs, 0, m, f, h, hm, hf => by
    simp only [movesB, Bool.and_eq_true] at h
    simp at hm hf
    subst hm hf
    exact h.1
  | m0 :: ms, f0 :: fs, k + 1, m, f, h, hm, hf => by
    simp only [movesB, Bool.and_eq_true] at h
    exact moves_all h.2 (by simpa using hm) (by simpa using hf)
theorem tab_facts {t : Tb} (h : tabB t = true) : t.moves.length = t.new.length ∧ t.new.length ≤ 16 ∧ ∀ (k : Nat) (m : Mv) (f : Fld), t.moves[k]? = some m → t.new[k]? = some f → moveOkB t.old m f = true := by
  unfold tabB at h
  simp only [Bool.and_eq_true, decide_eq_true_eq] at h
  exact ⟨h.2.2.1, right_len h.2.1, fun k m f hm hf => moves_all h.2.2.2 hm hf⟩
theorem comp_ok {a b : Tb} (ha : TbOk a) (hb : TbOk b) : TbOk (compT a b) := by
  refine ⟨ha.old, hb.new, ?_, fun m hm => ?_⟩
  · have := hb.len
    show (compMs a b).length ≤ 50000
    unfold compMs
    rw [List.length_zipWith]
    omega
  · have hm' : m ∈ List.zipWith (compM a b) b.moves b.new := hm
    obtain ⟨i, hi⟩ := List.mem_iff_getElem?.1 hm'
    rw [List.getElem?_zipWith] at hi
    cases h1 : b.moves[i]? with
    | none => rw [h1] at hi; simp at hi
    | some x =>
      cases h2 : b.new[i]? with
      | none => rw [h1, h2] at hi; simp at hi
      | some f =>
        rw [h1, h2] at hi
        simp at hi
        subst hi
        have hg : ∀ n, VlOk (a.moves.getD n ⟨0, Vl.zero⟩).dflt := fun n => by
          cases h3 : a.moves[n]? with
          | none => simp [List.getD, h3]; exact vlOk_zero
          | some y => simp [List.getD, h3]; exact ha.all y (List.mem_of_getElem? h3)
        unfold compM
        split
        · split
          · exact castV_ok (hg _) (hb.new.all f (List.mem_of_getElem? h2))
          · exact hg _
        · exact hb.all x (List.mem_of_getElem? h1)
theorem clone_at {w1 W : World} {l : List Fld} {A : Option Addr} {c : Nat} (hw : Below w1.heap.size w1 W) (hr : RS FF w1 A l) (hl : l.length ≤ 50000) (hlc : l.length ≤ c) :
    Calls Try.prog 35 #[.slice A l.length c] W fun e w' => ∃ A' c', e = .returned (.slice A' l.length c') ∧ Own FF 43 w' W.heap.size (.slice A' l.length c') l ∧ Below w1.heap.size w1 w' ∧ Below W.heap.size W w' :=
  (slices_Clone l A c W (hr.below hw) hl hlc).mono fun e w' ⟨v, he, ht, hb⟩ => by
    obtain ⟨A', c', rfl, _, _⟩ := ht.slice
    exact ⟨A', c', he, ht, hw.trans (hb.mono hw.size), hb⟩

theorem cst_mk {w W : World} {a b : Tb} {ca cb : Array Value} {A0 A1 : Option Addr} {c0 c1 g : Nat} (hT : Thr w W ca cb #[.slice none 0 0, .slice none 0 0, .slice none 0 0] 28 28 28)
    (hg : Blk W g 28 #[.slice A0 a.old.length c0, .slice A1 b.new.length c1, .slice none 0 0]) (h0 : Own FF 43 W w.heap.size (.slice A0 a.old.length c0) a.old) (h1 : Own FF 43 W w.heap.size (.slice A1 b.new.length c1) b.new)
    (hne : (Value.slice A1 b.new.length c1).ownBlock = none ∨ (Value.slice A1 b.new.length c1).ownBlock ≠ (Value.slice A0 a.old.length c0).ownBlock) (hlt : w.heap.size + 2 < g) : CSt w W a b ca cb (.pointer (some ⟨g, 0, none⟩)) :=
  ⟨A0, A1, c0, c1, g, rfl, none, 0, hT, hg, h0, h1, by simpa using Own.nil _ _ _ _, hne, hlt⟩
theorem thr_set {w W : World} {c0 c1 c2 : Array Value} {t0 t1 t2 : TypeId} (h : Thr w W c0 c1 c2 t0 t1 t2) {g : Nat} (hg : w.heap.size + 2 < g) (i : Nat) (u : Value) : Thr w (W.setCell ⟨g, i, none⟩ u) c0 c1 c2 t0 t1 t2 :=
  ⟨h.b0.far (p := ⟨g, i, none⟩) (by show _ ≠ g; omega) u, h.b1.far (p := ⟨g, i, none⟩) (by show _ ≠ g; omega) u, h.b2.far (p := ⟨g, i, none⟩) (by show _ ≠ g; omega) u, below_set h.below (by omega) _ _⟩
theorem cst_set {w W : World} {a b : Tb} {ca cb : Array Value} {A0 A1 : Option Addr} {c0 c1 g : Nat} (hT : Thr w W ca cb #[.slice none 0 0, .slice none 0 0, .slice none 0 0] 28 28 28)
    (hg : Blk W g 28 #[.slice none 0 0, .slice none 0 0, .slice none 0 0]) (h0 : Own FF 43 W w.heap.size (.slice A0 a.old.length c0) a.old) (h1 : Own FF 43 W w.heap.size (.slice A1 b.new.length c1) b.new)
    (hne : (Value.slice A1 b.new.length c1).ownBlock = none ∨ (Value.slice A1 b.new.length c1).ownBlock ≠ (Value.slice A0 a.old.length c0).ownBlock) (hlt : w.heap.size + 2 < g) :
    CSt w (((W.setCell ⟨g, 0, none⟩ (.slice A0 a.old.length c0)).setCell ⟨g, 1, none⟩ (.slice A1 b.new.length c1)).setCell ⟨g, 2, none⟩ (.slice none 0 0)) a b ca cb (.pointer (some ⟨g, 0, none⟩)) := by
  have n2 : ∀ {α : Type} {F : Flat α} {e : TypeId} {b : Nat} {v : Value} {xs : List α}, Own F e W b v xs → e ≠ 28 → v.ownBlock ≠ some g := fun h he => h.ne_block hg he
  exact cst_mk (thr_set (thr_set (thr_set hT hlt _ _) hlt _ _) hlt _ _) (((hg.set_ _ _).set_ _ _).set_ _ _)
    (((h0.far_ (n2 h0 (by decide)) _ _).far_ (n2 h0 (by decide)) _ _).far_ (n2 h0 (by decide)) _ _) (((h1.far_ (n2 h1 (by decide)) _ _).far_ (n2 h1 (by decide)) _ _).far_ (n2 h1 (by decide)) _ _) hne hlt

set_option maxHeartbeats 4000000 in
set_option maxRecDepth 100000 in
theorem table_Compose3 (a b : Tb) (va vb : Value) (w : World) (ha : RdTab w va a) (hb : RdTab w vb b) (oka : TbOk a) (okb : TbOk b) (hA : tabB a = true) (hB : tabB b = true) (hE : decide (a.new = b.old) = true) : Calls Try.prog 18 #[va, vb] w (RetTE w w.heap.size (composeT a b)) := by
  have HA := Lib.hid hA
  have HB := Lib.hid hB
  have HE := Lib.hid hE
  have HABE : Hid (tabB a = true ∧ tabB b = true ∧ a.new = b.old) := ⟨hA, hB, by simpa using hE⟩
  clear hA hB hE
  have ha' := ha
  have hb' := hb
  obtain ⟨X0, x0, X1, x1, X2, x2, rfl, lx0, lx1, lx2, sx0, sx1, sx2⟩ := ha'
  obtain ⟨Y0, y0, Y1, y1, Y2, y2, rfl, ly0, ly1, ly2, sy0, sy1, sy2⟩ := hb'
  obtain ⟨W, hW⟩ : ∃ W, W = ((w.alloc (Obj.cells #[.slice X0 a.old.length x0, .slice X1 a.new.length x1, .slice X2 a.moves.length x2] 28)).alloc (Obj.cells #[.slice Y0 b.old.length y0, .slice Y1 b.new.length y1, .slice Y2 b.moves.length y2] 28)).alloc (Obj.cells #[.slice none 0 0, .slice none 0 0, .slice none 0 0] 28) := ⟨_, rfl⟩
  have B0 : Thr w W _ _ _ _ _ _ := hW ▸ thr_new w _ _ _ _ _ _
  have p0 := B0.b0.cellIs 0 (.slice X0 a.old.length x0) rfl
  have p1 := B0.b0.cellIs 1 (.slice X1 a.new.length x1) rfl
  have p2 := B0.b0.cellIs 2 (.slice X2 a.moves.length x2) rfl
  go_enter Try.func18, Try.ntmps18
  go_upto_region 1 with fail
  rw [← hW]
  clear hW
  go_wp2_with fail
  refine (tabRight_is (ha.below B0.below) oka HA.out).mono ?_
  rintro e w1 ⟨rfl, hb1⟩
  have B1 := B0.kept hb1
  clear p0 p1 p2 hb1 B0
  have p0 := B1.b1.cellIs 0 (.slice Y0 b.old.length y0) rfl
  have p1 := B1.b1.cellIs 1 (.slice Y1 b.new.length y1) rfl
  have p2 := B1.b1.cellIs 2 (.slice Y2 b.moves.length y2) rfl
  go_wp2_with fail
  refine (tabRight_is (hb.below B1.below) okb HB.out).mono ?_
  rintro e w2 ⟨rfl, hb2⟩
  have B2 := B1.kept hb2
  clear p0 p1 p2 hb2 B1
  have p1 := B2.b0.cellIs 1 (.slice X1 a.new.length x1) rfl
  have p0 := B2.b1.cellIs 0 (.slice Y0 b.old.length y0) rfl
  go_wp2_with fail
  refine (equal_is (sx1.below B2.below) (sy0.below B2.below) (Nat.le_trans oka.new.len (by omega)) (Nat.le_trans okb.old.len (by omega)) lx1 ly0 HE.out).mono ?_
  rintro e w3 ⟨rfl, hb3⟩
  have B3 := B2.kept hb3
  clear p0 p1 hb3 B2
  have p0 := B3.b0.cellIs 0 (.slice X0 a.old.length x0) rfl
  have p1 := B3.b1.cellIs 1 (.slice Y1 b.new.length y1) rfl
  have hr0 := sx0.below B3.below
  have hr1 := sy1.below B3.below
  have hsz : w.heap.size + 2 < w3.heap.size := B3.b2.lt
  have e9 : ∀ W', Below w3.heap.size w3 W' → Thr w W' _ _ _ _ _ _ := fun W' h => B3.kept h
  have n1 : w.heap.size ≠ w3.heap.size := by omega
  have n2 : ¬ w3.heap.size = w.heap.size := by omega
  have n3 : w.heap.size + 1 ≠ w3.heap.size := by omega
  have n4 : ¬ w3.heap.size = w.heap.size + 1 := by omega
  have hL : w.heap.size ≤ w3.heap.size := by omega
  have H0 : Hid (∀ W, Below w3.heap.size w3 W → _) := Lib.hid (fun W (h : Below w3.heap.size w3 W) => clone_at h hr0 oka.old.len lx0)
  have H1 : Hid (∀ W, Below w3.heap.size w3 W → _) := Lib.hid (fun W (h : Below w3.heap.size w3 W) => clone_at h hr1 okb.new.len ly1)
  go_upto_region 3 with fail
  go_cut [6] (fun s6 wx => CSt w wx a b #[.slice X0 a.old.length x0, .slice X1 a.new.length x1, .slice X2 a.moves.length x2] #[.slice Y0 b.old.length y0, .slice Y1 b.new.length y1, .slice Y2 b.moves.length y2] s6)
  case first =>
    go_region_held3 (fun w' => w'.cell? ⟨w.heap.size, 0, none⟩ = some (.slice X0 a.old.length x0) ∧ w'.cell? ⟨w.heap.size + 1, 1, none⟩ = some (.slice Y1 b.new.length y1)) (go_keep)
      (first
        | (go_at_call 35; ((with_reducible refine (H0.out _ (by first | exact (Below.refl _ _).drew | exact ((Below.refl _ _).alloc (Nat.le_refl _) _).drew | exact ((Below.refl _ _).drew).alloc (Nat.le_refl _) _)).mono ?_); rintro e w4 ⟨A0, c0, rfl, ho0, hb4, hbW4⟩; have p0 := (e9 w4 hb4).b0.cellIs 0 (.slice X0 a.old.length x0) rfl; have p1 := (e9 w4 hb4).b1.cellIs 1 (.slice Y1 b.new.length y1) rfl; have n5 : w.heap.size ≠ w4.heap.size := (by have := hb4.size; omega); have n6 : ¬ w4.heap.size = w.heap.size := (by have := hb4.size; omega); have n7 : w.heap.size + 1 ≠ w4.heap.size := (by have := hb4.size; omega); have n8 : ¬ w4.heap.size = w.heap.size + 1 := (by have := hb4.size; omega); have ho0a : Own FF 43 w4 w.heap.size (.slice A0 a.old.length c0) a.old := (by first | exact ho0.lower hL | exact ho0.lower (by simp; omega)); (try have t9 : Blk w4 w3.heap.size 28 #[.slice none 0 0, .slice none 0 0, .slice none 0 0] := (by first | exact (Blk.new w3 _ _).below hbW4 | exact (Blk.drew (Blk.new w3 _ _)).below hbW4 | exact (Blk.new w3.drew _ _).below hbW4))))
        | (go_at_call 35; ((with_reducible refine (H1.out _ (by first | exact hb4 | exact hb4.alloc hb4.size _)).mono ?_); rintro e w5 ⟨A1, c1, rfl, ho1, hb5, hbW5⟩; have p0 := (e9 w5 hb5).b0.cellIs 0 (.slice X0 a.old.length x0) rfl; have p1 := (e9 w5 hb5).b1.cellIs 1 (.slice Y1 b.new.length y1) rfl; have hne : (Value.slice A1 b.new.length c1).ownBlock = none ∨ (Value.slice A1 b.new.length c1).ownBlock ≠ (Value.slice A0 a.old.length c0).ownBlock := (by first | exact ho1.later ho0a | exact ho1.later (ho0a.alloc _)); have hb45 : Below w4.heap.size w4 w5 := (by first | exact hbW5 | exact ((Below.refl _ _).alloc (Nat.le_refl _) _).trans (hbW5.mono (by simp))); have ho0b := ho0a.below hb45; have ho1b : Own FF 43 w5 w.heap.size (.slice A1 b.new.length c1) b.new := ho1.lower (by first | (have := hb4.size; omega) | (have := hb4.size; simp; omega)); have n9 : w.heap.size ≠ w5.heap.size := (by have := hb5.size; omega); have n10 : ¬ w5.heap.size = w.heap.size := (by have := hb5.size; omega); have n11 : w.heap.size + 1 ≠ w5.heap.size := (by have := hb5.size; omega); have n12 : ¬ w5.heap.size = w.heap.size + 1 := (by have := hb5.size; omega); (try (have t10 := t9.below hb45; have t10a := t10.frozen 0; have t10b := t10.frozen 1; have t10c := t10.frozen 2; have t10d := t10.cellIs 0 _ rfl; have t10e := t10.cellIs 1 _ rfl; have t10f := t10.cellIs 2 _ rfl)); (try (have t11 : Blk w5 w4.heap.size 28 #[.slice none 0 0, .slice none 0 0, .slice none 0 0] := (Blk.new w4 _ _).below hbW5; have t11a := t11.frozen 0; have t11b := t11.frozen 1; have t11c := t11.frozen 2; have t11d := t11.cellIs 0 _ rfl; have t11e := t11.cellIs 1 _ rfl; have t11f := t11.cellIs 2 _ rfl))))
        | (fail))
    all_goals (go_wp2_with fail; go_meet)
    · exact cst_mk (e9 _ (hb5.alloc hb5.size _)) (Blk.new _ _ _) (ho0b.alloc _) (ho1b.alloc _) hne (by have := hb5.size; omega)
    · exact cst_set (e9 w5 hb5) t11 ho0b ho1b hne (by have := hb4.size; omega)
    · exact cst_set (e9 w5 hb5) t10 ho0b ho1b hne (by omega)
  case rest =>
    obtain ⟨A0, A1, c0, c1, g, rfl, hinv⟩ := hcut
    clear e9 n1 n2 n3 n4 hL H0 H1 hsz p0 p1 hr0 hr1 B3
    have hn := b.moves.length
    obtain ⟨hml, hmn, hall⟩ := tab_facts HB.out
    obtain ⟨haml, han, haall⟩ := tab_facts HA.out
    have hE' : a.new = b.old := by have := HE.out; simpa using this
    have HE' := Lib.hid hE'
    have hab : a.moves.length = b.old.length := by rw [haml, HE'.out]
    have HL := Lib.hid hml
    have HLa := Lib.hid hab
    have HALL := Lib.hid hall
    clear hml hall haml haall hab HA HB HE hn hE'
    have hinv' := hinv
    obtain ⟨-, -, hT, -⟩ := hinv'
    have p2 := hT.b1.cellIs 2 (.slice Y2 b.moves.length y2) rfl
    clear hT
    have hm50 := okb.len
    go_wp2_with fail
    go_loopw [37] (fun i wr => ∃ k : Nat, k ≤ b.moves.length ∧ i = .int .i64 k ∧ CInv w wr a b #[.slice X0 a.old.length x0, .slice X1 a.new.length x1, .slice X2 a.moves.length x2] #[.slice Y0 b.old.length y0, .slice Y1 b.new.length y1, .slice Y2 b.moves.length y2] A0 A1 c0 c1 g k) (fun i _ => b.moves.length - (intOf i).toNat)
    case atStart => exact ⟨0, Nat.zero_le _, rfl, hinv⟩
    case round =>
      clear hinv p2
      obtain ⟨k, hk, rfl, A2, c2, hT, hG, o0, o1, o2, hne, hg⟩ := hrel
      by_cases hlt : k < b.moves.length
      · obtain ⟨ad, bm, rfl, hbm, q0, q1, q2, q3⟩ := (sy2.below hT.below).mv hlt
        have p2 := hT.b1.cellIs 2 (.slice (some ad) b.moves.length y2) rfl
        go_upto_if 47 with fail
        obtain ⟨bf, hbf⟩ : ∃ bf, b.new[k]? = some bf := ⟨_, List.getElem?_eq_getElem (by rw [← HL.out]; exact hlt)⟩
        have hmo := HALL.out k bm bf hbm hbf
        have HB' := Lib.hid hbm
        have HF' := Lib.hid hbf
        have HMO := Lib.hid hmo
        clear hbm hbf hmo
        go_cut [8] (fun s8 wx => s8 = .pointer (some ⟨wr.heap.size, 0, none⟩) ∧ Blk wx wr.heap.size 57 (mvC (compM a b bm bf)) ∧ Below wr.heap.size wr wx)
        case first =>
          by_cases hs : 0 ≤ bm.src
          · obtain ⟨bsrc, bd⟩ := bm
            dsimp only at *
            obtain ⟨s, rfl⟩ := Int.eq_ofNat_of_zero_le hs
            have hso : s < b.old.length := by
              have := HMO.out
              unfold moveOkB at this
              rw [if_neg (by dsimp only; omega)] at this
              simp at this
              omega
            have hsa : s < a.moves.length := by rw [HLa.out]; exact hso
            have hle : a.moves.length ≤ x2 := lx2
            have hle0 : b.old.length ≤ y0 := ly0
            obtain ⟨ay, bo, hY0, hbo, r0, r1, r2⟩ := (sy0.below hT.below).fld hso
            obtain ⟨ax, am, hX2, ham, m0, m1, m2, m3⟩ := (sx2.below hT.below).mv hsa
            have hc : compM a b ⟨(s : Int), bd⟩ bf = if am.src < 0 then ⟨am.src, (castV am.dflt bo bf).1⟩ else am := by
              unfold compM
              dsimp only
              rw [if_pos hs, Int.toNat_natCast]
              simp only [List.getD, ham, hbo, Option.getD_some]
            have HC := Lib.hid hc
            have HAM := Lib.hid ham
            have HBO := Lib.hid hbo
            have HY0 := Lib.hid hY0
            have HX2 := Lib.hid hX2
            obtain ⟨W4, hW4⟩ : ∃ W4, W4 = wr.alloc (Obj.cells #[.int .i64 (s : Int), .int .i64 bd.kind, .int .u64 bd.bits, .string bd.text] 57) := ⟨_, rfl⟩
            have hB4 : Below wr.heap.size wr W4 := hW4 ▸ (Below.refl _ _).alloc (Nat.le_refl _) _
            have M4 : Blk W4 wr.heap.size 57 #[.int .i64 (s : Int), .int .i64 bd.kind, .int .u64 bd.bits, .string bd.text] := hW4 ▸ Blk.new _ _ _
            rw [← hW4]
            clear hW4
            have T4 := hT.kept hB4
            have p0 := T4.b1.cellIs 0 (.slice Y0 b.old.length y0) rfl
            rw [HY0.out] at p0
            have ms := M4.cellIs 0 (.int .i64 (s : Int)) rfl
            have r0' := keepc hB4 r0
            have r1' := keepc hB4 r1
            have r2' := keepc hB4 r2
            have m0' := keepc hB4 m0
            have m1' := keepc hB4 m1
            have m2' := keepc hB4 m2
            have m3' := keepc hB4 m3
            have hsz := hT.b2.lt
            clear hc ham hbo hY0 hX2 q0 q1 q2 q3 p2 r0 r1 r2 m0 m1 m2 m3
            go_upto_region 10 with fail
            obtain ⟨W5, hW5⟩ : ∃ W5, W5 = W4.alloc (Obj.cells #[.string bo.name, .int .i64 bo.kind, .int .i64 bo.long] 43) := ⟨_, rfl⟩
            have hB5 : Below W4.heap.size W4 W5 := hW5 ▸ (Below.refl _ _).alloc (Nat.le_refl _) _
            have F5 : Blk W5 W4.heap.size 43 #[.string bo.name, .int .i64 bo.kind, .int .i64 bo.long] := hW5 ▸ Blk.new _ _ _
            rw [← hW5]
            clear hW5
            have T5 := T4.kept hB5
            have M5 := M4.below hB5
            have hB45 : Below wr.heap.size wr W5 := hB4.trans (hB5.mono hB4.size)
            have pa := T5.b0.cellIs 2 (.slice X2 a.moves.length x2) rfl
            rw [HX2.out] at pa
            have n0 := keepc hB5 m0'
            have n1 := keepc hB5 m1'
            have n2 := keepc hB5 m2'
            have n3 := keepc hB5 m3'
            have ms5 := M5.cellIs 0 (.int .i64 (s : Int)) rfl
            have mt5 := M5.cellIs 1 (.int .i64 bd.kind) rfl
            have mu5 := M5.cellIs 2 (.int .u64 bd.bits) rfl
            have mv5 := M5.cellIs 3 (.string bd.text) rfl
            have fz0 := M5.frozen 0
            have fz1 := M5.frozen 1
            have fz2 := M5.frozen 2
            have fz3 := M5.frozen 3
            clear p0 ms r0' r1' r2' m0' m1' m2' m3' T4
            go_upto_region 11 with fail
            obtain ⟨W6, hW6⟩ : ∃ W6, W6 = (((W5.setCell ⟨wr.heap.size, 0, none⟩ (.int .i64 am.src)).setCell ⟨wr.heap.size, 1, none⟩ (.int .i64 am.dflt.kind)).setCell ⟨wr.heap.size, 2, none⟩ (.int .u64 am.dflt.bits)).setCell ⟨wr.heap.size, 3, none⟩ (.string am.dflt.text) := ⟨_, rfl⟩
            have hB6 : Below wr.heap.size wr W6 := hW6 ▸ below_set (below_set (below_set (below_set hB45 (Nat.le_refl _) _ _) (Nat.le_refl _) _ _) (Nat.le_refl _) _ _) (Nat.le_refl _) _ _
            have M6 : Blk W6 wr.heap.size 57 (mvC am) := hW6 ▸ (((M5.set_ 0 _).set_ 1 _).set_ 2 _).set_ 3 _
            have hne4 : W4.heap.size ≠ wr.heap.size := by have := M4.lt; omega
            have F6 : Blk W6 W4.heap.size 43 #[.string bo.name, .int .i64 bo.kind, .int .i64 bo.long] := hW6 ▸ (((F5.far (p := ⟨wr.heap.size, 0, none⟩) hne4 _).far (p := ⟨wr.heap.size, 1, none⟩) hne4 _).far (p := ⟨wr.heap.size, 2, none⟩) hne4 _).far (p := ⟨wr.heap.size, 3, none⟩) hne4 _
            rw [← hW6]
            clear hW6 ms5 mt5 mu5 mv5 fz0 fz1 fz2 fz3 n0 n1 n2 n3 pa T5 M5 F5 M4 hB5 hB45
            have T6 := hT.kept hB6
            have ms6 := M6.cellIs 0 (.int .i64 am.src) rfl
            by_cases ha0 : am.src < 0
            · have HM : Hid (compM a b ⟨(s : Int), bd⟩ bf = ⟨am.src, (castV am.dflt bo bf).1⟩) := by rw [HC.out, if_pos ha0]; exact rfl
              have hlf : k < b.new.length := by rw [← HL.out]; exact hlt
              obtain ⟨a1, bf1, hY1, hbf1, w0, w1', w2'⟩ := (sy1.below hT.below).fld hlf
              have hbfe : bf1 = bf := Option.some.inj (hbf1.symm.trans HF'.out)
              subst hbfe
              have HY1 := Lib.hid hY1
              have hl1 : b.new.length ≤ y1 := ly1
              have hva : VlOk am.dflt := oka.all am (List.mem_of_getElem? HAM.out)
              have pb := T6.b1.cellIs 1 (.slice Y1 b.new.length y1) rfl
              rw [hY1] at pb
              clear hbf1 hY1 ms6
              have ms6 := M6.cellIs 0 (.int .i64 am.src) rfl
              have g0 := M6.cellIs 1 (.int .i64 am.dflt.kind) rfl
              have g1 := M6.cellIs 2 (.int .u64 am.dflt.bits) rfl
              have g2 := M6.cellIs 3 (.string am.dflt.text) rfl
              have g3 := F6.cellIs 0 (.string bo.name) rfl
              have g4 := F6.cellIs 1 (.int .i64 bo.kind) rfl
              have g5 := F6.cellIs 2 (.int .i64 bo.long) rfl
              have g7 := keepc hB6 w0
              have g8 := keepc hB6 w1'
              have g9 := keepc hB6 w2'
              go_upto_region 12 with fail
              clear w0 w1' w2' ms6
              have HC6 : Hid (∀ W, Below W6.heap.size W6 W → _) := Lib.hid (fun W (h : Below W6.heap.size W6 W) => (kind_Cast am.dflt bo bf1 W hva).mono (R' := fun e w' => e = .returned (.tuple #[.agg #[.int .i64 (castV am.dflt bo bf1).1.kind, .int .u64 (castV am.dflt bo bf1).1.bits, .string (castV am.dflt bo bf1).1.text], .int .i64 (castV am.dflt bo bf1).2]) ∧ Below W6.heap.size W6 w') (fun e w' ⟨h1, h2⟩ => ⟨h1, h.trans (h2.mono h.size)⟩))
              go_region_with (go_at_call 37; refine (HC6.out _ (by exact (Below.refl _ _).drew)).mono ?_; rintro e w7 ⟨rfl, hb7⟩; have M7 := M6.below hb7; have k1 := M7.cellIs 1 (.int .i64 am.dflt.kind) rfl; have k2 := M7.cellIs 2 (.int .u64 am.dflt.bits) rfl; have k3 := M7.cellIs 3 (.string am.dflt.text) rfl; have z1 := M7.frozen 1; have z2 := M7.frozen 2; have z3 := M7.frozen 3)
              all_goals (go_wp2_with fail; go_meet)
              all_goals exact ⟨rfl, by rw [HM.out]; exact ((M7.set_ 1 _).set_ 2 _).set_ 3 _, below_set (below_set (below_set (hB6.trans (hb7.mono hB6.size)) (Nat.le_refl _) _ _) (Nat.le_refl _) _ _) (Nat.le_refl _) _ _⟩
            · have HM : Hid (compM a b ⟨(s : Int), bd⟩ bf = am) := by rw [HC.out, if_neg ha0]; exact rfl
              go_wp2_with fail
              go_meet
              exact ⟨rfl, by rw [HM.out]; exact M6, hB6⟩
          · have HM : Hid (compM a b bm bf = bm) := by unfold compM; rw [if_neg hs]; exact rfl
            go_wp2_with fail
            go_meet
            exact ⟨rfl, by rw [HM.out]; exact Blk.new _ _ _, (Below.refl _ _).alloc (Nat.le_refl _) _⟩
        case rest =>
          obtain ⟨rfl, hM, hBx⟩ := hcut
          have T7 := hT.kept hBx
          have G7 := hG.below hBx
          have p0 := o0.below hBx
          have p1 := o1.below hBx
          have p2 := o2.below hBx
          have hmem : (compMs a b)[k]? = some (compM a b bm bf) := by
            unfold compMs
            rw [List.getElem?_zipWith, HB'.out, HF'.out]
          have htk : (compMs a b).take (k + 1) = (compMs a b).take k ++ [compM a b bm bf] := by
            obtain ⟨hk1, hk2⟩ := List.getElem?_eq_some_iff.1 hmem
            rw [List.take_succ_eq_append_getElem hk1, hk2]
          have hlk : ((compMs a b).take k).length = k := by
            obtain ⟨hk1, _⟩ := List.getElem?_eq_some_iff.1 hmem
            rw [List.length_take]
            omega
          have HTK := Lib.hid htk
          have HLK := Lib.hid hlk
          have hk60 : ((compMs a b).take k).length + 1 ≤ 60000 := by rw [hlk]; omega
          have HK60 := Lib.hid hk60
          clear hmem htk hlk hk60
          have x0 := G7.cellIs 0 (.slice A0 a.old.length c0) rfl
          have x1 := G7.cellIs 1 (.slice A1 b.new.length c1) rfl
          have x2 := G7.cellIs 2 (.slice A2 k c2) rfl
          obtain ⟨cm, hcm⟩ : ∃ cm, cm = compM a b bm bf := ⟨_, rfl⟩
          rw [← hcm] at hM
          have HCM := Lib.hid hcm
          clear hcm
          have y0 := hM.cellIs 0 (.int .i64 cm.src) rfl
          have y1 := hM.cellIs 1 (.int .i64 cm.dflt.kind) rfl
          have y2 := hM.cellIs 2 (.int .u64 cm.dflt.bits) rfl
          have y3 := hM.cellIs 3 (.string cm.dflt.text) rfl
          have hsz7 := T7.below.size
          go_wp2_with (at_builtin; refine wp_append_one FM w.heap.size rfl (.tmp 77) (.tmp 79) 26 57 _ 40 rfl Try.underlying26 infoM rfl (by decide) (.slice A2 k c2) ((compMs a b).take k) cm _ rfl rfl rfl p2 hsz7 HK60.out (by omega) ?_; intro v1 w8 ho hgr hat; obtain ⟨A3, c3, rfl, hc3, hr3⟩ := ho.slice; have G8 := G7.beside p2 (by decide) hgr; have x2 := G8.cellIs 2 (.slice A2 k c2) rfl; have f2 := G8.frozen 2)
          go_roundw
          case rel =>
            go_light
            have n3 : ∀ {α : Type} {F : Flat α} {e : TypeId} {b : Nat} {v : Value} {xs : List α}, Own F e w8 b v xs → e ≠ 28 → v.ownBlock ≠ some g := fun h he => h.ne_block G8 he
            have q0 := p0.beside p2 (by decide) hgr
            have q1 := p1.beside p2 (by decide) hgr
            have hmin : min k (compMs a b).length = k := by rw [← List.length_take]; exact HLK.out
            have hlen : ((compMs a b).take k ++ [cm]).length = k + 1 := by rw [List.length_append, HLK.out]; rfl
            have hB8 := below_grownOwn T7.below p2 hgr hsz7 (Nat.le_refl _)
            have T8 : Thr w w8 _ _ _ _ _ _ := ⟨T7.b0.beside p2 (by decide) hgr, T7.b1.beside p2 (by decide) hgr, T7.b2.beside p2 (by decide) hgr, hB8⟩
            refine ⟨k + 1, by omega, by go_num, A3, c3, thr_set T8 hg _ _, ?_, q0.far_ (n3 q0 (by decide)) _ _, q1.far_ (n3 q1 (by decide)) _ _, ?_, hne, hg⟩
            · have := G8.set_ 2 (.slice A3 ((compMs a b).take k ++ [cm]).length c3)
              rw [hlen] at this
              rw [hmin]
              exact this
            · have h1 := ho.far_ (n3 ho (by decide)) 2 (.slice A3 ((compMs a b).take k ++ [cm]).length c3)
              rw [hlen, HCM.out, ← HTK.out] at h1
              rw [hmin]
              exact h1
          case measure => simp [intOf]; omega
      · have hk' : k = b.moves.length := by omega
        subst hk'
        have hlm : (compMs a b).length = b.moves.length := by unfold compMs; rw [List.length_zipWith, ← HL.out]; exact Nat.min_self _
        have HM : Hid ((compMs a b).take b.moves.length = compMs a b) := by rw [← hlm]; exact List.take_length
        rw [HM.out] at o2
        have HLM := Lib.hid hlm
        clear hlm
        have hv : OwnTab wr w.heap.size (.agg #[.slice A0 (compT a b).old.length c0, .slice A1 (compT a b).new.length c1, .slice A2 (compT a b).moves.length c2]) (compT a b) := by
          have e1 : (compT a b).moves.length = b.moves.length := HLM.out
          rw [← HLM.out] at o2
          exact ⟨A0, c0, A1, c1, A2, c2, rfl, o0, o1, o2, hne⟩
        have hv' : OwnTab wr w.heap.size (.agg #[.slice A0 a.old.length c0, .slice A1 b.new.length c1, .slice A2 b.moves.length c2]) (compT a b) := by rw [← HLM.out]; exact hv
        have x0 := hG.cellIs 0 (.slice A0 a.old.length c0) rfl
        have x1 := hG.cellIs 1 (.slice A1 b.new.length c1) rfl
        have x2 := hG.cellIs 2 (.slice A2 b.moves.length c2) rfl
        have hok : TbOk (compT a b) := comp_ok oka okb
        have hT' := hT
        clear o0 o1 o2 hT hv
        cases hco : tabB (compT a b) with
        | false =>
          have HE2 : Hid (composeT a b = (Tb.zero, 70)) := by unfold composeT; rw [if_pos HABE.out, hco]; rfl
          have HCO := Lib.hid hco
          clear hco
          go_wp2_with fail
          refine (tabRight_is hv'.rd hok HCO.out).mono ?_
          rintro e w9 ⟨rfl, hb9⟩
          have T9 := hT'.kept hb9
          have z0 := T9.b2.cellIs 0 (.slice none 0 0) rfl
          have z1 := T9.b2.cellIs 1 (.slice none 0 0) rfl
          have z2 := T9.b2.cellIs 2 (.slice none 0 0) rfl
          have u0 := T9.b2.frozen 0
          have u1 := T9.b2.frozen 1
          have u2 := T9.b2.frozen 2
          go_wp2_with fail
          refine bodyPost_ret (v := .tuple #[.agg #[.slice none 0 0, .slice none 0 0, .slice none 0 0], .int .i64 70]) (by simp [results, Try.results18, go_sem, z0, z1, z2]) rfl ⟨_, by rw [HE2.out], ?_, ?_, ?_⟩
          · rw [HE2.out]; exact OwnTab.zero _ _
          · exact below_set (below_set (below_set T9.below (by omega) _ _) (by omega) _ _) (by omega) _ _
          · exact far_set (far_set (far_set (far_below T9.below) (by omega) _ _) (by omega) _ _) (by omega) _ _
        | true =>
          have HE2 : Hid (composeT a b = (compT a b, 0)) := by unfold composeT; rw [if_pos HABE.out, hco]; rfl
          have HCO := Lib.hid hco
          clear hco
          go_wp2_with fail
          refine (tabRight_is hv'.rd hok HCO.out).mono ?_
          rintro e w9 ⟨rfl, hb9⟩
          have T9 := hT'.kept hb9
          have G9 := hG.below hb9
          have V9 := hv'.below hb9
          clear x0 x1 x2
          have x0 := G9.cellIs 0 (.slice A0 a.old.length c0) rfl
          have x1 := G9.cellIs 1 (.slice A1 b.new.length c1) rfl
          have x2 := G9.cellIs 2 (.slice A2 b.moves.length c2) rfl
          have z0 := T9.b2.cellIs 0 (.slice none 0 0) rfl
          have z1 := T9.b2.cellIs 1 (.slice none 0 0) rfl
          have z2 := T9.b2.cellIs 2 (.slice none 0 0) rfl
          have u0 := T9.b2.frozen 0
          have u1 := T9.b2.frozen 1
          have u2 := T9.b2.frozen 2
          go_wp2_with fail
          refine bodyPost_ret (v := .tuple #[.agg #[.slice A0 a.old.length c0, .slice A1 b.new.length c1, .slice A2 b.moves.length c2], .int .i64 0]) (by simp [results, Try.results18, go_sem, z0, z1, z2]) rfl ⟨_, by rw [HE2.out], ?_, ?_, ?_⟩
          · rw [HE2.out]
            exact V9.stored T9.b2 _ _ _ _ _ _
          · exact below_set (below_set (below_set T9.below (by omega) _ _) (by omega) _ _) (by omega) _ _
          · exact far_set (far_set (far_set (far_below T9.below) (by omega) _ _) (by omega) _ _) (by omega) _ _
theorem table_Compose (a b : Tb) (va vb : Value) (w : World) (ha : RdTab w va a) (hb : RdTab w vb b) (oka : TbOk a) (okb : TbOk b) : Calls Try.prog 18 #[va, vb] w (RetTE w w.heap.size (composeT a b)) := by
  cases hA : tabB a with
  | false =>
    have e : composeT a b = (Tb.zero, 70) := by unfold composeT; rw [if_neg (by simp [hA])]
    rw [e]; exact table_Compose0 a b va vb w ha hb oka okb hA
  | true =>
    cases hB : tabB b with
    | false =>
      have e : composeT a b = (Tb.zero, 70) := by unfold composeT; rw [if_neg (by simp [hB])]
      rw [e]; exact table_Compose1 a b va vb w ha hb oka okb hA hB
    | true =>
      cases hE : decide (a.new = b.old) with
      | false =>
        have hne : ¬ a.new = b.old := by simpa using hE
        have e : composeT a b = (Tb.zero, 70) := by unfold composeT; rw [if_neg (by simp [hne])]
        rw [e]; exact table_Compose2 a b va vb w ha hb oka okb hA hB hE
      | true => exact table_Compose3 a b va vb w ha hb oka okb hA hB hE
theorem compose_ok {a b : Tb} (ha : TbOk a) (hb : TbOk b) : TbOk (composeT a b).1 := by
  unfold composeT
  split
  · split
    · exact comp_ok ha hb
    · exact tb_zero_ok
  · exact tb_zero_ok
end Go.Proofs.Ytdggnnbgiadgaaa
