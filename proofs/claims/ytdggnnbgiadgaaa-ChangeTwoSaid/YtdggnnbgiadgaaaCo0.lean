/- table.Compose: what it makes; where it does not compose. -/
import Derived.Test.YtdggnnbgiadgaaaCa2
import Derived.Test.YtdggnnbgiadgaaaQT
set_option linter.unusedVariables false
namespace Go.Proofs.Ytdggnnbgiadgaaa
open Go.RowKit

def compM (a b : Tb) (m : Mv) (f : Fld) : Mv :=
  if 0 ≤ m.src then (if (a.moves.getD m.src.toNat ⟨0, Vl.zero⟩).src < 0 then ⟨(a.moves.getD m.src.toNat ⟨0, Vl.zero⟩).src, (castV (a.moves.getD m.src.toNat ⟨0, Vl.zero⟩).dflt (b.old.getD m.src.toNat Fld.zero) f).1⟩ else a.moves.getD m.src.toNat ⟨0, Vl.zero⟩) else m
def compMs (a b : Tb) : List Mv := List.zipWith (compM a b) b.moves b.new
def compT (a b : Tb) : Tb := ⟨a.old, b.new, compMs a b⟩
def composeT (a b : Tb) : Tb × Int :=
  if tabB a = true ∧ tabB b = true ∧ a.new = b.old then (if tabB (compT a b) = true then (compT a b, 0) else (Tb.zero, 70)) else (Tb.zero, 70)

theorem tabRight_is {t : Tb} {v : Value} {w : World} (hv : RdTab w v t) (hok : TbOk t) {b : Bool} (hb : tabB t = b) : Calls Try.prog 12 #[v] w fun e w' => e = .returned (.bool b) ∧ Below w.heap.size w w' := by
  subst hb; exact table_Right t v w hv hok
structure Thr (w W : World) (c0 c1 c2 : Array Value) (t0 t1 t2 : TypeId) : Prop where
  b0 : Blk W w.heap.size t0 c0
  b1 : Blk W (w.heap.size + 1) t1 c1
  b2 : Blk W (w.heap.size + 2) t2 c2
  below : Below w.heap.size w W
theorem thr_new (w : World) (c0 c1 c2 : Array Value) (t0 t1 t2 : TypeId) : Thr w (((w.alloc (.cells c0 t0)).alloc (.cells c1 t1)).alloc (.cells c2 t2)) c0 c1 c2 t0 t1 t2 :=
  ⟨((Blk.new _ _ _).alloc _).alloc _, (Blk.newAt _ _ (by simp) _ _).alloc _, Blk.newAt _ _ (by simp) _ _, (below_two _ _ _).alloc (by simp; omega) _⟩
theorem Thr.kept {w W w1 : World} {c0 c1 c2 : Array Value} {t0 t1 t2 : TypeId} (h : Thr w W c0 c1 c2 t0 t1 t2) (hb : Below W.heap.size W w1) : Thr w w1 c0 c1 c2 t0 t1 t2 :=
  ⟨h.b0.below hb, h.b1.below hb, h.b2.below hb, h.below.trans (hb.mono h.below.size)⟩
theorem equal_is {l m : List Fld} {A B : Option Addr} {c d : Nat} {w : World} (hr : RS FF w A l) (hs : RS FF w B m) (hl : l.length ≤ 60000) (hm : m.length ≤ 60000) (hlc : l.length ≤ c) (hmd : m.length ≤ d) {b : Bool} (hb : decide (l = m) = b) :
    Calls Try.prog 36 #[.slice A l.length c, .slice B m.length d] w fun e w' => e = .returned (.bool b) ∧ Below w.heap.size w w' := by
  subst hb; exact slices_Equal l m A B c d w hr hs hl hm hlc hmd
set_option maxHeartbeats 4000000 in
set_option maxRecDepth 100000 in
theorem table_Compose0 (a b : Tb) (va vb : Value) (w : World) (ha : RdTab w va a) (hb : RdTab w vb b) (oka : TbOk a) (okb : TbOk b) (hA : tabB a = false) : Calls Try.prog 18 #[va, vb] w (RetTE w w.heap.size (Tb.zero, 70)) := by
  have HA := Lib.hid hA
  clear hA
  have ha' := ha
  have hb' := hb
  obtain ⟨X0, x0, X1, x1, X2, x2, rfl, lx0, lx1, lx2, sx0, sx1, sx2⟩ := ha'
  obtain ⟨Y0, y0, Y1, y1, Y2, y2, rfl, ly0, ly1, ly2, sy0, sy1, sy2⟩ := hb'
  obtain ⟨W, hW⟩ : ∃ W, W = ((w.alloc (Obj.cells #[.slice X0 a.old.length x0, .slice X1 a.new.length x1, .slice X2 a.moves.length x2] 28)).alloc (Obj.cells #[.slice Y0 b.old.length y0, .slice Y1 b.new.length y1, .slice Y2 b.moves.length y2] 28)).alloc (Obj.cells #[.slice none 0 0, .slice none 0 0, .slice none 0 0] 28) := ⟨_, rfl⟩
  have B0 : Thr w W _ _ _ _ _ _ := hW ▸ thr_new w _ _ _ _ _ _
  have p0 := B0.b0.cellIs 0 (.slice X0 a.old.length x0) rfl
  have p1 := B0.b0.cellIs 1 (.slice X1 a.new.length x1) rfl
  have p2 := B0.b0.cellIs 2 (.slice X2 a.moves.length x2) rfl
  go_enter Try.func18, Try.ntmps18
  go_upto_region 1 with fail
  rw [← hW]
  clear hW
  go_wp2_with fail
  refine (tabRight_is (ha.below B0.below) oka HA.out).mono ?_
  rintro e w1 ⟨rfl, hb1⟩
  have B1 := B0.kept hb1
  clear p0 p1 p2 hb1 B0
  have z0 := B1.b2.cellIs 0 (.slice none 0 0) rfl
  have z1 := B1.b2.cellIs 1 (.slice none 0 0) rfl
  have z2 := B1.b2.cellIs 2 (.slice none 0 0) rfl
  have u0 := B1.b2.frozen 0
  have u1 := B1.b2.frozen 1
  have u2 := B1.b2.frozen 2
  go_wp2_with fail
  refine bodyPost_ret (v := .tuple #[.agg #[.slice none 0 0, .slice none 0 0, .slice none 0 0], .int .i64 70]) (by simp [results, Try.results18, go_sem, z0, z1, z2]) rfl ⟨_, rfl, ?_, ?_, ?_⟩
  · exact OwnTab.zero _ _
  · exact below_set (below_set (below_set B1.below (by omega) _ _) (by omega) _ _) (by omega) _ _
  · exact far_set (far_set (far_set (far_below B1.below) (by omega) _ _) (by omega) _ _) (by omega) _ _
set_option maxHeartbeats 4000000 in
set_option maxRecDepth 100000 in
theorem table_Compose1 (a b : Tb) (va vb : Value) (w : World) (ha : RdTab w va a) (hb : RdTab w vb b) (oka : TbOk a) (okb : TbOk b) (hA : tabB a = true) (hB : tabB b = false) : Calls Try.prog 18 #[va, vb] w (RetTE w w.heap.size (Tb.zero, 70)) := by
  have HA := Lib.hid hA
  have HB := Lib.hid hB
  clear hA hB
  have ha' := ha
  have hb' := hb
  obtain ⟨X0, x0, X1, x1, X2, x2, rfl, lx0, lx1, lx2, sx0, sx1, sx2⟩ := ha'
  obtain ⟨Y0, y0, Y1, y1, Y2, y2, rfl, ly0, ly1, ly2, sy0, sy1, sy2⟩ := hb'
  obtain ⟨W, hW⟩ : ∃ W, W = ((w.alloc (Obj.cells #[.slice X0 a.old.length x0, .slice X1 a.new.length x1, .slice X2 a.moves.length x2] 28)).alloc (Obj.cells #[.slice Y0 b.old.length y0, .slice Y1 b.new.length y1, .slice Y2 b.moves.length y2] 28)).alloc (Obj.cells #[.slice none 0 0, .slice none 0 0, .slice none 0 0] 28) := ⟨_, rfl⟩
  have B0 : Thr w W _ _ _ _ _ _ := hW ▸ thr_new w _ _ _ _ _ _
  have p0 := B0.b0.cellIs 0 (.slice X0 a.old.length x0) rfl
  have p1 := B0.b0.cellIs 1 (.slice X1 a.new.length x1) rfl
  have p2 := B0.b0.cellIs 2 (.slice X2 a.moves.length x2) rfl
  go_enter Try.func18, Try.ntmps18
  go_upto_region 1 with fail
  rw [← hW]
  clear hW
  go_wp2_with fail
  refine (tabRight_is (ha.below B0.below) oka HA.out).mono ?_
  rintro e w1 ⟨rfl, hb1⟩
  have B1 := B0.kept hb1
  clear p0 p1 p2 hb1 B0
  have p0 := B1.b1.cellIs 0 (.slice Y0 b.old.length y0) rfl
  have p1 := B1.b1.cellIs 1 (.slice Y1 b.new.length y1) rfl
  have p2 := B1.b1.cellIs 2 (.slice Y2 b.moves.length y2) rfl
  go_wp2_with fail
  refine (tabRight_is (hb.below B1.below) okb HB.out).mono ?_
  rintro e w2 ⟨rfl, hb2⟩
  have B2 := B1.kept hb2
  clear p0 p1 p2 hb2 B1
  have z0 := B2.b2.cellIs 0 (.slice none 0 0) rfl
  have z1 := B2.b2.cellIs 1 (.slice none 0 0) rfl
  have z2 := B2.b2.cellIs 2 (.slice none 0 0) rfl
  have u0 := B2.b2.frozen 0
  have u1 := B2.b2.frozen 1
  have u2 := B2.b2.frozen 2
  go_wp2_with fail
  refine bodyPost_ret (v := .tuple #[.agg #[.slice none 0 0, .slice none 0 0, .slice none 0 0], .int .i64 70]) (by simp [results, Try.results18, go_sem, z0, z1, z2]) rfl ⟨_, rfl, ?_, ?_, ?_⟩
  · exact OwnTab.zero _ _
  · exact below_set (below_set (below_set B2.below (by omega) _ _) (by omega) _ _) (by omega) _ _
  · exact far_set (far_set (far_set (far_below B2.below) (by omega) _ _) (by omega) _ _) (by omega) _ _
set_option maxHeartbeats 4000000 in
set_option maxRecDepth 100000 in
theorem table_Compose2 (a b : Tb) (va vb : Value) (w : World) (ha : RdTab w va a) (hb : RdTab w vb b) (oka : TbOk a) (okb : TbOk b) (hA : tabB a = true) (hB : tabB b = true) (hE : decide (a.new = b.old) = false) : Calls Try.prog 18 #[va, vb] w (RetTE w w.heap.size (Tb.zero, 70)) := by
  have HA := Lib.hid hA
  have HB := Lib.hid hB
  have HE := Lib.hid hE
  clear hA hB hE
  have ha' := ha
  have hb' := hb
  obtain ⟨X0, x0, X1, x1, X2, x2, rfl, lx0, lx1, lx2, sx0, sx1, sx2⟩ := ha'
  obtain ⟨Y0, y0, Y1, y1, Y2, y2, rfl, ly0, ly1, ly2, sy0, sy1, sy2⟩ := hb'
  obtain ⟨W, hW⟩ : ∃ W, W = ((w.alloc (Obj.cells #[.slice X0 a.old.length x0, .slice X1 a.new.length x1, .slice X2 a.moves.length x2] 28)).alloc (Obj.cells #[.slice Y0 b.old.length y0, .slice Y1 b.new.length y1, .slice Y2 b.moves.length y2] 28)).alloc (Obj.cells #[.slice none 0 0, .slice none 0 0, .slice none 0 0] 28) := ⟨_, rfl⟩
  have B0 : Thr w W _ _ _ _ _ _ := hW ▸ thr_new w _ _ _ _ _ _
  have p0 := B0.b0.cellIs 0 (.slice X0 a.old.length x0) rfl
  have p1 := B0.b0.cellIs 1 (.slice X1 a.new.length x1) rfl
  have p2 := B0.b0.cellIs 2 (.slice X2 a.moves.length x2) rfl
  go_enter Try.func18, Try.ntmps18
  go_upto_region 1 with fail
  rw [← hW]
  clear hW
  go_wp2_with fail
  refine (tabRight_is (ha.below B0.below) oka HA.out).mono ?_
  rintro e w1 ⟨rfl, hb1⟩
  have B1 := B0.kept hb1
  clear p0 p1 p2 hb1 B0
  have p0 := B1.b1.cellIs 0 (.slice Y0 b.old.length y0) rfl
  have p1 := B1.b1.cellIs 1 (.slice Y1 b.new.length y1) rfl
  have p2 := B1.b1.cellIs 2 (.slice Y2 b.moves.length y2) rfl
  go_wp2_with fail
  refine (tabRight_is (hb.below B1.below) okb HB.out).mono ?_
  rintro e w2 ⟨rfl, hb2⟩
  have B2 := B1.kept hb2
  clear p0 p1 p2 hb2 B1
  have p1 := B2.b0.cellIs 1 (.slice X1 a.new.length x1) rfl
  have p0 := B2.b1.cellIs 0 (.slice Y0 b.old.length y0) rfl
  go_wp2_with fail
  refine (equal_is (sx1.below B2.below) (sy0.below B2.below) (Nat.le_trans oka.new.len (by omega)) (Nat.le_trans okb.old.len (by omega)) lx1 ly0 HE.out).mono ?_
  rintro e w3 ⟨rfl, hb3⟩
  have B3 := B2.kept hb3
  clear p0 p1 hb3 B2
  have z0 := B3.b2.cellIs 0 (.slice none 0 0) rfl
  have z1 := B3.b2.cellIs 1 (.slice none 0 0) rfl
  have z2 := B3.b2.cellIs 2 (.slice none 0 0) rfl
  have u0 := B3.b2.frozen 0
  have u1 := B3.b2.frozen 1
  have u2 := B3.b2.frozen 2
  go_wp2_with fail
  refine bodyPost_ret (v := .tuple #[.agg #[.slice none 0 0, .slice none 0 0, .slice none 0 0], .int .i64 70]) (by simp [results, Try.results18, go_sem, z0, z1, z2]) rfl ⟨_, rfl, ?_, ?_, ?_⟩
  · exact OwnTab.zero _ _
  · exact below_set (below_set (below_set B3.below (by omega) _ _) (by omega) _ _) (by omega) _ _
  · exact far_set (far_set (far_set (far_below B3.below) (by omega) _ _) (by omega) _ _) (by omega) _ _
end Go.Proofs.Ytdggnnbgiadgaaa
