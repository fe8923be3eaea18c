/- kind.Cast. -/
import Derived.Test.YtdggnnbgiadgaaaCa0
import Derived.Test.YtdggnnbgiadgaaaWh
set_option linter.unusedVariables false
namespace Go.Proofs.Ytdggnnbgiadgaaa
open Go.RowKit

def castBits (v : Vl) (f g : Fld) : Int :=
  if g.kind = 10 then (if plainB f.kind = true then (floatOfInt .f64 v.bits : Int) else if signedB f.kind = true then (floatOfInt .f64 (wrap64 v.bits) : Int) else v.bits)
  else if g.kind = 8 then (if f.kind = 10 then IntKind.u64.wrap (wholeI v.bits.toNat) else v.bits) else v.bits
def castV (v : Vl) (f g : Fld) : Vl × Int :=
  if valB v f = true then (if castsB f.kind f.long g.kind g.long = true then (if g.kind = 12 then (⟨12, v.bits, padT v.text g.long.toNat⟩, 0) else (⟨g.kind, castBits v f g, ⟨#[]⟩⟩, 0)) else (Vl.zero, 51)) else (Vl.zero, 50)
def RetVE (w : World) (r : Vl × Int) (e : Ending) (w' : World) : Prop := e = .returned (.tuple #[.agg #[.int .i64 r.1.kind, .int .u64 r.1.bits, .string r.1.text], .int .i64 r.2]) ∧ Below w.heap.size w w'

theorem right_is {v : Vl} {f : Fld} (w : World) (h0 : 0 ≤ v.bits) (h1 : v.bits ≤ 18446744073709551615) {b : Bool} (hb : valB v f = b) :
    Calls Try.prog 24 #[.agg #[.int .i64 v.kind, .int .u64 v.bits, .string v.text], .agg #[.string f.name, .int .i64 f.kind, .int .i64 f.long]] w fun e w' => e = .returned (.bool b) ∧ Below w.heap.size w w' := by
  subst hb; exact kind_Right v f w h0 h1

structure Four (w W : World) (c0 c1 c2 c3 : Array Value) (t0 t1 t2 t3 : TypeId) : Prop where
  b0 : Blk W w.heap.size t0 c0
  b1 : Blk W (w.heap.size + 1) t1 c1
  b2 : Blk W (w.heap.size + 2) t2 c2
  b3 : Blk W (w.heap.size + 3) t3 c3
  below : Below w.heap.size w W
theorem four_new (w : World) (c0 c1 c2 c3 : Array Value) (t0 t1 t2 t3 : TypeId) : Four w ((((w.alloc (.cells c0 t0)).alloc (.cells c1 t1)).alloc (.cells c2 t2)).alloc (.cells c3 t3)) c0 c1 c2 c3 t0 t1 t2 t3 :=
  ⟨(((Blk.new _ _ _).alloc _).alloc _).alloc _, ((Blk.newAt _ _ (by simp) _ _).alloc _).alloc _, (Blk.newAt _ _ (by simp) _ _).alloc _, Blk.newAt _ _ (by simp) _ _, ((below_two _ _ _).alloc (by simp; omega) _).alloc (by simp; omega) _⟩
theorem Four.kept {w W w1 : World} {c0 c1 c2 c3 : Array Value} {t0 t1 t2 t3 : TypeId} (h : Four w W c0 c1 c2 c3 t0 t1 t2 t3) (hb : Below W.heap.size W w1) : Four w w1 c0 c1 c2 c3 t0 t1 t2 t3 :=
  ⟨h.b0.below hb, h.b1.below hb, h.b2.below hb, h.b3.below hb, h.below.trans (hb.mono h.below.size)⟩

theorem zeroVl (w : World) : (zeroValue 46).run Try.prog w = .ok (.agg #[.int .i64 0, .int .u64 0, .string ⟨#[]⟩]) w := by kernel_rfl

set_option maxHeartbeats 1000000 in
set_option maxRecDepth 100000 in
theorem kind_Cast0 (v : Vl) (f g : Fld) (w : World) (h0 : 0 ≤ v.bits) (h1 : v.bits ≤ 18446744073709551615) (hv : valB v f = false) :
    Calls Try.prog 37 #[.agg #[.int .i64 v.kind, .int .u64 v.bits, .string v.text], .agg #[.string f.name, .int .i64 f.kind, .int .i64 f.long], .agg #[.string g.name, .int .i64 g.kind, .int .i64 g.long]] w (RetVE w (Vl.zero, 50)) := by
  have HV := Lib.hid hv
  clear hv
  obtain ⟨vk, vb, vt⟩ := v
  obtain ⟨fn, fk, fl⟩ := f
  obtain ⟨gn, gk, gl⟩ := g
  dsimp only at *
  obtain ⟨W, hW⟩ : ∃ W, W = (((w.alloc (Obj.cells #[.int .i64 vk, .int .u64 vb, .string vt] 46)).alloc (Obj.cells #[.string fn, .int .i64 fk, .int .i64 fl] 43)).alloc (Obj.cells #[.string gn, .int .i64 gk, .int .i64 gl] 43)).alloc (Obj.cells #[.int .i64 0, .int .u64 0, .string ⟨#[]⟩] 46) := ⟨_, rfl⟩
  have B0 : Four w W _ _ _ _ _ _ _ _ := hW ▸ four_new w _ _ _ _ _ _ _ _
  have p0 := B0.b0.cellIs 0 (.int .i64 vk) rfl
  have p1 := B0.b0.cellIs 1 (.int .u64 vb) rfl
  have p2 := B0.b0.cellIs 2 (.string vt) rfl
  have q0 := B0.b1.cellIs 0 (.string fn) rfl
  have q1 := B0.b1.cellIs 1 (.int .i64 fk) rfl
  have q2 := B0.b1.cellIs 2 (.int .i64 fl) rfl
  go_enter Try.func37, Try.ntmps37
  go_upto_region 1 with fail
  rw [← hW]
  clear hW
  go_wp2_with fail
  refine (right_is (v := ⟨vk, vb, vt⟩) (f := ⟨fn, fk, fl⟩) _ h0 h1 HV.out).mono ?_
  rintro e w1 ⟨rfl, hb1⟩
  have B1 := B0.kept hb1
  clear p0 p1 p2 q0 q1 q2 hb1 B0
  have y0 := B1.b3.cellIs 0 (.int .i64 0) rfl
  have y1 := B1.b3.cellIs 1 (.int .u64 0) rfl
  have y2 := B1.b3.cellIs 2 (.string ⟨#[]⟩) rfl
  have z0 := B1.b3.frozen 0
  have z1 := B1.b3.frozen 1
  have z2 := B1.b3.frozen 2
  go_wp2_with fail
  refine bodyPost_ret (v := .tuple #[.agg #[.int .i64 (0), .int .u64 (0), .string (⟨#[]⟩)], .int .i64 50]) (by simp [results, Try.results37, go_sem, y0, y1, y2]) rfl ⟨?_, ?_⟩
  · rfl
  · exact below_set (below_set (below_set B1.below (by omega) _ _) (by omega) _ _) (by omega) _ _
set_option maxHeartbeats 1000000 in
set_option maxRecDepth 100000 in
theorem kind_Cast1 (v : Vl) (f g : Fld) (w : World) (h0 : 0 ≤ v.bits) (h1 : v.bits ≤ 18446744073709551615) (hv : valB v f = true) (hc : castsB f.kind f.long g.kind g.long = false) :
    Calls Try.prog 37 #[.agg #[.int .i64 v.kind, .int .u64 v.bits, .string v.text], .agg #[.string f.name, .int .i64 f.kind, .int .i64 f.long], .agg #[.string g.name, .int .i64 g.kind, .int .i64 g.long]] w (RetVE w (Vl.zero, 51)) := by
  have HV := Lib.hid hv
  have HC := Lib.hid hc
  clear hv hc
  obtain ⟨vk, vb, vt⟩ := v
  obtain ⟨fn, fk, fl⟩ := f
  obtain ⟨gn, gk, gl⟩ := g
  dsimp only at *
  obtain ⟨W, hW⟩ : ∃ W, W = (((w.alloc (Obj.cells #[.int .i64 vk, .int .u64 vb, .string vt] 46)).alloc (Obj.cells #[.string fn, .int .i64 fk, .int .i64 fl] 43)).alloc (Obj.cells #[.string gn, .int .i64 gk, .int .i64 gl] 43)).alloc (Obj.cells #[.int .i64 0, .int .u64 0, .string ⟨#[]⟩] 46) := ⟨_, rfl⟩
  have B0 : Four w W _ _ _ _ _ _ _ _ := hW ▸ four_new w _ _ _ _ _ _ _ _
  have p0 := B0.b0.cellIs 0 (.int .i64 vk) rfl
  have p1 := B0.b0.cellIs 1 (.int .u64 vb) rfl
  have p2 := B0.b0.cellIs 2 (.string vt) rfl
  have q0 := B0.b1.cellIs 0 (.string fn) rfl
  have q1 := B0.b1.cellIs 1 (.int .i64 fk) rfl
  have q2 := B0.b1.cellIs 2 (.int .i64 fl) rfl
  go_enter Try.func37, Try.ntmps37
  go_upto_region 1 with fail
  rw [← hW]
  clear hW
  go_wp2_with fail
  refine (right_is (v := ⟨vk, vb, vt⟩) (f := ⟨fn, fk, fl⟩) _ h0 h1 HV.out).mono ?_
  rintro e w1 ⟨rfl, hb1⟩
  have B1 := B0.kept hb1
  clear p0 p1 p2 q0 q1 q2 hb1 B0
  have p0 := B1.b0.cellIs 0 (.int .i64 vk) rfl
  have p1 := B1.b0.cellIs 1 (.int .u64 vb) rfl
  have p2 := B1.b0.cellIs 2 (.string vt) rfl
  have q0 := B1.b1.cellIs 0 (.string fn) rfl
  have q1 := B1.b1.cellIs 1 (.int .i64 fk) rfl
  have q2 := B1.b1.cellIs 2 (.int .i64 fl) rfl
  have r0 := B1.b2.cellIs 0 (.string gn) rfl
  have r1 := B1.b2.cellIs 1 (.int .i64 gk) rfl
  have r2 := B1.b2.cellIs 2 (.int .i64 gl) rfl
  go_wp2_with fail
  refine (casts_is _ HC.out).mono ?_
  rintro e w2 ⟨rfl, hb2⟩
  have B2 := B1.kept hb2
  clear p0 p1 p2 q0 q1 q2 r0 r1 r2 hb2 B1
  have y0 := B2.b3.cellIs 0 (.int .i64 0) rfl
  have y1 := B2.b3.cellIs 1 (.int .u64 0) rfl
  have y2 := B2.b3.cellIs 2 (.string ⟨#[]⟩) rfl
  have z0 := B2.b3.frozen 0
  have z1 := B2.b3.frozen 1
  have z2 := B2.b3.frozen 2
  go_wp2_with fail
  refine bodyPost_ret (v := .tuple #[.agg #[.int .i64 (0), .int .u64 (0), .string (⟨#[]⟩)], .int .i64 51]) (by simp [results, Try.results37, go_sem, y0, y1, y2]) rfl ⟨?_, ?_⟩
  · rfl
  · exact below_set (below_set (below_set B2.below (by omega) _ _) (by omega) _ _) (by omega) _ _
set_option maxHeartbeats 1000000 in
set_option maxRecDepth 100000 in
theorem kind_CastG (v : Vl) (f g : Fld) (w : World) (h0 : 0 ≤ v.bits) (h1 : v.bits ≤ 18446744073709551615) (hv : valB v f = true) (hc : castsB f.kind f.long g.kind g.long = true) (g12 : (g.kind == 12) = false) (g10 : (g.kind == 10) = false) (g8 : (g.kind == 8) = false) :
    Calls Try.prog 37 #[.agg #[.int .i64 v.kind, .int .u64 v.bits, .string v.text], .agg #[.string f.name, .int .i64 f.kind, .int .i64 f.long], .agg #[.string g.name, .int .i64 g.kind, .int .i64 g.long]] w (RetVE w (⟨g.kind, v.bits, ⟨#[]⟩⟩, 0)) := by
  have HV := Lib.hid hv
  have HC := Lib.hid hc
  clear hv hc
  obtain ⟨vk, vb, vt⟩ := v
  obtain ⟨fn, fk, fl⟩ := f
  obtain ⟨gn, gk, gl⟩ := g
  dsimp only at *
  obtain ⟨W, hW⟩ : ∃ W, W = (((w.alloc (Obj.cells #[.int .i64 vk, .int .u64 vb, .string vt] 46)).alloc (Obj.cells #[.string fn, .int .i64 fk, .int .i64 fl] 43)).alloc (Obj.cells #[.string gn, .int .i64 gk, .int .i64 gl] 43)).alloc (Obj.cells #[.int .i64 0, .int .u64 0, .string ⟨#[]⟩] 46) := ⟨_, rfl⟩
  have B0 : Four w W _ _ _ _ _ _ _ _ := hW ▸ four_new w _ _ _ _ _ _ _ _
  have p0 := B0.b0.cellIs 0 (.int .i64 vk) rfl
  have p1 := B0.b0.cellIs 1 (.int .u64 vb) rfl
  have p2 := B0.b0.cellIs 2 (.string vt) rfl
  have q0 := B0.b1.cellIs 0 (.string fn) rfl
  have q1 := B0.b1.cellIs 1 (.int .i64 fk) rfl
  have q2 := B0.b1.cellIs 2 (.int .i64 fl) rfl
  go_enter Try.func37, Try.ntmps37
  go_upto_region 1 with fail
  rw [← hW]
  clear hW
  go_wp2_with fail
  refine (right_is (v := ⟨vk, vb, vt⟩) (f := ⟨fn, fk, fl⟩) _ h0 h1 HV.out).mono ?_
  rintro e w1 ⟨rfl, hb1⟩
  have B1 := B0.kept hb1
  clear p0 p1 p2 q0 q1 q2 hb1 B0
  have p0 := B1.b0.cellIs 0 (.int .i64 vk) rfl
  have p1 := B1.b0.cellIs 1 (.int .u64 vb) rfl
  have p2 := B1.b0.cellIs 2 (.string vt) rfl
  have q0 := B1.b1.cellIs 0 (.string fn) rfl
  have q1 := B1.b1.cellIs 1 (.int .i64 fk) rfl
  have q2 := B1.b1.cellIs 2 (.int .i64 fl) rfl
  have r0 := B1.b2.cellIs 0 (.string gn) rfl
  have r1 := B1.b2.cellIs 1 (.int .i64 gk) rfl
  have r2 := B1.b2.cellIs 2 (.int .i64 gl) rfl
  go_wp2_with fail
  refine (casts_is _ HC.out).mono ?_
  rintro e w2 ⟨rfl, hb2⟩
  have B2 := B1.kept hb2
  clear p0 p1 p2 q0 q1 q2 r0 r1 r2 hb2 B1
  have p1 := B2.b0.cellIs 1 (.int .u64 vb) rfl
  have r1 := B2.b2.cellIs 1 (.int .i64 gk) rfl
  obtain ⟨W3, hW3⟩ : ∃ W3, W3 = w2.alloc (Obj.cells #[.int .i64 gk, .int .u64 vb, .string ⟨#[]⟩] 46) := ⟨_, rfl⟩
  have O3 : Blk W3 w2.heap.size 46 #[.int .i64 gk, .int .u64 vb, .string ⟨#[]⟩] := by rw [hW3]; exact Blk.new _ _ _
  have B3 : Four w W3 _ _ _ _ _ _ _ _ := B2.kept (hW3 ▸ (Below.refl _ _).alloc (Nat.le_refl _) _)
  have hsz : w.heap.size + 3 < w2.heap.size := B2.b3.lt
  go_upto_region 6 with fail
  rw [← hW3]
  clear hW3 p1 r1 B2
  have n1 : ¬ w2.heap.size = w.heap.size + 3 := by omega
  have n2 : ¬ w.heap.size + 3 = w2.heap.size := by omega
  have p1 := B3.b0.cellIs 1 (.int .u64 vb) rfl
  have p2 := B3.b0.cellIs 2 (.string vt) rfl
  have q1 := B3.b1.cellIs 1 (.int .i64 fk) rfl
  have r1 := B3.b2.cellIs 1 (.int .i64 gk) rfl
  have r2 := B3.b2.cellIs 2 (.int .i64 gl) rfl
  have o0 := O3.cellIs 0 (.int .i64 gk) rfl
  have o1 := O3.cellIs 1 (.int .u64 vb) rfl
  have o2 := O3.cellIs 2 (.string ⟨#[]⟩) rfl
  have x0 := O3.frozen 0
  have x1 := O3.frozen 1
  have x2 := O3.frozen 2
  have y0 := B3.b3.cellIs 0 (.int .i64 0) rfl
  have y1 := B3.b3.cellIs 1 (.int .u64 0) rfl
  have y2 := B3.b3.cellIs 2 (.string ⟨#[]⟩) rfl
  have z0 := B3.b3.frozen 0
  have z1 := B3.b3.frozen 1
  have z2 := B3.b3.frozen 2
  go_wp2_with fail
  refine bodyPost_ret (v := .tuple #[.agg #[.int .i64 (gk), .int .u64 (vb), .string (⟨#[]⟩)], .int .i64 0]) (by simp [results, Try.results37, go_sem, y0, y1, y2]) rfl ⟨?_, ?_⟩
  · rfl
  · exact below_set (below_set (below_set B3.below (by omega) _ _) (by omega) _ _) (by omega) _ _
theorem plain_is {n : Int} (w : World) {b : Bool} (hb : plainB n = b) : Calls Try.prog 50 #[.int .i64 n] w fun e w' => e = .returned (.bool b) ∧ w = w' := by subst hb; exact kind_plain n w
theorem signed_is {n : Int} (w : World) {b : Bool} (hb : signedB n = b) : Calls Try.prog 48 #[.int .i64 n] w fun e w' => e = .returned (.bool b) ∧ w = w' := by subst hb; exact kind_signed n w
set_option maxHeartbeats 1000000 in
set_option maxRecDepth 100000 in
theorem kind_CastN (v : Vl) (f g : Fld) (w : World) (h0 : 0 ≤ v.bits) (h1 : v.bits ≤ 18446744073709551615) (hv : valB v f = true) (hc : castsB f.kind f.long g.kind g.long = true) (g12 : (g.kind == 12) = false) (g10 : (g.kind == 10) = true) (g8 : (g.kind == 8) = false) (hp : plainB f.kind = false) (hs : signedB f.kind = false) :
    Calls Try.prog 37 #[.agg #[.int .i64 v.kind, .int .u64 v.bits, .string v.text], .agg #[.string f.name, .int .i64 f.kind, .int .i64 f.long], .agg #[.string g.name, .int .i64 g.kind, .int .i64 g.long]] w (RetVE w (⟨g.kind, v.bits, ⟨#[]⟩⟩, 0)) := by
  have HV := Lib.hid hv
  have HC := Lib.hid hc
  clear hv hc
  have HP := Lib.hid hp
  have HS := Lib.hid hs
  clear hp hs
  obtain ⟨vk, vb, vt⟩ := v
  obtain ⟨fn, fk, fl⟩ := f
  obtain ⟨gn, gk, gl⟩ := g
  dsimp only at *
  obtain ⟨W, hW⟩ : ∃ W, W = (((w.alloc (Obj.cells #[.int .i64 vk, .int .u64 vb, .string vt] 46)).alloc (Obj.cells #[.string fn, .int .i64 fk, .int .i64 fl] 43)).alloc (Obj.cells #[.string gn, .int .i64 gk, .int .i64 gl] 43)).alloc (Obj.cells #[.int .i64 0, .int .u64 0, .string ⟨#[]⟩] 46) := ⟨_, rfl⟩
  have B0 : Four w W _ _ _ _ _ _ _ _ := hW ▸ four_new w _ _ _ _ _ _ _ _
  have p0 := B0.b0.cellIs 0 (.int .i64 vk) rfl
  have p1 := B0.b0.cellIs 1 (.int .u64 vb) rfl
  have p2 := B0.b0.cellIs 2 (.string vt) rfl
  have q0 := B0.b1.cellIs 0 (.string fn) rfl
  have q1 := B0.b1.cellIs 1 (.int .i64 fk) rfl
  have q2 := B0.b1.cellIs 2 (.int .i64 fl) rfl
  go_enter Try.func37, Try.ntmps37
  go_upto_region 1 with fail
  rw [← hW]
  clear hW
  go_wp2_with fail
  refine (right_is (v := ⟨vk, vb, vt⟩) (f := ⟨fn, fk, fl⟩) _ h0 h1 HV.out).mono ?_
  rintro e w1 ⟨rfl, hb1⟩
  have B1 := B0.kept hb1
  clear p0 p1 p2 q0 q1 q2 hb1 B0
  have p0 := B1.b0.cellIs 0 (.int .i64 vk) rfl
  have p1 := B1.b0.cellIs 1 (.int .u64 vb) rfl
  have p2 := B1.b0.cellIs 2 (.string vt) rfl
  have q0 := B1.b1.cellIs 0 (.string fn) rfl
  have q1 := B1.b1.cellIs 1 (.int .i64 fk) rfl
  have q2 := B1.b1.cellIs 2 (.int .i64 fl) rfl
  have r0 := B1.b2.cellIs 0 (.string gn) rfl
  have r1 := B1.b2.cellIs 1 (.int .i64 gk) rfl
  have r2 := B1.b2.cellIs 2 (.int .i64 gl) rfl
  go_wp2_with fail
  refine (casts_is _ HC.out).mono ?_
  rintro e w2 ⟨rfl, hb2⟩
  have B2 := B1.kept hb2
  clear p0 p1 p2 q0 q1 q2 r0 r1 r2 hb2 B1
  have p1 := B2.b0.cellIs 1 (.int .u64 vb) rfl
  have r1 := B2.b2.cellIs 1 (.int .i64 gk) rfl
  obtain ⟨W3, hW3⟩ : ∃ W3, W3 = w2.alloc (Obj.cells #[.int .i64 gk, .int .u64 vb, .string ⟨#[]⟩] 46) := ⟨_, rfl⟩
  have O3 : Blk W3 w2.heap.size 46 #[.int .i64 gk, .int .u64 vb, .string ⟨#[]⟩] := by rw [hW3]; exact Blk.new _ _ _
  have B3 : Four w W3 _ _ _ _ _ _ _ _ := B2.kept (hW3 ▸ (Below.refl _ _).alloc (Nat.le_refl _) _)
  have hsz : w.heap.size + 3 < w2.heap.size := B2.b3.lt
  go_upto_region 6 with fail
  rw [← hW3]
  clear hW3 p1 r1 B2
  have n1 : ¬ w2.heap.size = w.heap.size + 3 := by omega
  have n2 : ¬ w.heap.size + 3 = w2.heap.size := by omega
  have p1 := B3.b0.cellIs 1 (.int .u64 vb) rfl
  have p2 := B3.b0.cellIs 2 (.string vt) rfl
  have q1 := B3.b1.cellIs 1 (.int .i64 fk) rfl
  have r1 := B3.b2.cellIs 1 (.int .i64 gk) rfl
  have r2 := B3.b2.cellIs 2 (.int .i64 gl) rfl
  have o0 := O3.cellIs 0 (.int .i64 gk) rfl
  have o1 := O3.cellIs 1 (.int .u64 vb) rfl
  have o2 := O3.cellIs 2 (.string ⟨#[]⟩) rfl
  have x0 := O3.frozen 0
  have x1 := O3.frozen 1
  have x2 := O3.frozen 2
  have y0 := B3.b3.cellIs 0 (.int .i64 0) rfl
  have y1 := B3.b3.cellIs 1 (.int .u64 0) rfl
  have y2 := B3.b3.cellIs 2 (.string ⟨#[]⟩) rfl
  have z0 := B3.b3.frozen 0
  have z1 := B3.b3.frozen 1
  have z2 := B3.b3.frozen 2
  go_wp2_with fail
  refine (plain_is _ HP.out).mono ?_
  rintro e w' ⟨rfl, rfl⟩
  go_wp2_with fail
  refine (signed_is _ HS.out).mono ?_
  rintro e w' ⟨rfl, rfl⟩
  go_wp2_with fail
  refine bodyPost_ret (v := .tuple #[.agg #[.int .i64 (gk), .int .u64 (vb), .string (⟨#[]⟩)], .int .i64 0]) (by simp [results, Try.results37, go_sem, y0, y1, y2]) rfl ⟨?_, ?_⟩
  · rfl
  · exact below_set (below_set (below_set B3.below (by omega) _ _) (by omega) _ _) (by omega) _ _
set_option maxHeartbeats 1000000 in
set_option maxRecDepth 100000 in
theorem kind_CastF1 (v : Vl) (f g : Fld) (w : World) (h0 : 0 ≤ v.bits) (h1 : v.bits ≤ 18446744073709551615) (hv : valB v f = true) (hc : castsB f.kind f.long g.kind g.long = true) (g12 : (g.kind == 12) = false) (g10 : (g.kind == 10) = false) (g8 : (g.kind == 8) = true) (f10 : (f.kind == 10) = false) :
    Calls Try.prog 37 #[.agg #[.int .i64 v.kind, .int .u64 v.bits, .string v.text], .agg #[.string f.name, .int .i64 f.kind, .int .i64 f.long], .agg #[.string g.name, .int .i64 g.kind, .int .i64 g.long]] w (RetVE w (⟨g.kind, v.bits, ⟨#[]⟩⟩, 0)) := by
  have HV := Lib.hid hv
  have HC := Lib.hid hc
  clear hv hc
  obtain ⟨vk, vb, vt⟩ := v
  obtain ⟨fn, fk, fl⟩ := f
  obtain ⟨gn, gk, gl⟩ := g
  dsimp only at *
  obtain ⟨W, hW⟩ : ∃ W, W = (((w.alloc (Obj.cells #[.int .i64 vk, .int .u64 vb, .string vt] 46)).alloc (Obj.cells #[.string fn, .int .i64 fk, .int .i64 fl] 43)).alloc (Obj.cells #[.string gn, .int .i64 gk, .int .i64 gl] 43)).alloc (Obj.cells #[.int .i64 0, .int .u64 0, .string ⟨#[]⟩] 46) := ⟨_, rfl⟩
  have B0 : Four w W _ _ _ _ _ _ _ _ := hW ▸ four_new w _ _ _ _ _ _ _ _
  have p0 := B0.b0.cellIs 0 (.int .i64 vk) rfl
  have p1 := B0.b0.cellIs 1 (.int .u64 vb) rfl
  have p2 := B0.b0.cellIs 2 (.string vt) rfl
  have q0 := B0.b1.cellIs 0 (.string fn) rfl
  have q1 := B0.b1.cellIs 1 (.int .i64 fk) rfl
  have q2 := B0.b1.cellIs 2 (.int .i64 fl) rfl
  go_enter Try.func37, Try.ntmps37
  go_upto_region 1 with fail
  rw [← hW]
  clear hW
  go_wp2_with fail
  refine (right_is (v := ⟨vk, vb, vt⟩) (f := ⟨fn, fk, fl⟩) _ h0 h1 HV.out).mono ?_
  rintro e w1 ⟨rfl, hb1⟩
  have B1 := B0.kept hb1
  clear p0 p1 p2 q0 q1 q2 hb1 B0
  have p0 := B1.b0.cellIs 0 (.int .i64 vk) rfl
  have p1 := B1.b0.cellIs 1 (.int .u64 vb) rfl
  have p2 := B1.b0.cellIs 2 (.string vt) rfl
  have q0 := B1.b1.cellIs 0 (.string fn) rfl
  have q1 := B1.b1.cellIs 1 (.int .i64 fk) rfl
  have q2 := B1.b1.cellIs 2 (.int .i64 fl) rfl
  have r0 := B1.b2.cellIs 0 (.string gn) rfl
  have r1 := B1.b2.cellIs 1 (.int .i64 gk) rfl
  have r2 := B1.b2.cellIs 2 (.int .i64 gl) rfl
  go_wp2_with fail
  refine (casts_is _ HC.out).mono ?_
  rintro e w2 ⟨rfl, hb2⟩
  have B2 := B1.kept hb2
  clear p0 p1 p2 q0 q1 q2 r0 r1 r2 hb2 B1
  have p1 := B2.b0.cellIs 1 (.int .u64 vb) rfl
  have r1 := B2.b2.cellIs 1 (.int .i64 gk) rfl
  obtain ⟨W3, hW3⟩ : ∃ W3, W3 = w2.alloc (Obj.cells #[.int .i64 gk, .int .u64 vb, .string ⟨#[]⟩] 46) := ⟨_, rfl⟩
  have O3 : Blk W3 w2.heap.size 46 #[.int .i64 gk, .int .u64 vb, .string ⟨#[]⟩] := by rw [hW3]; exact Blk.new _ _ _
  have B3 : Four w W3 _ _ _ _ _ _ _ _ := B2.kept (hW3 ▸ (Below.refl _ _).alloc (Nat.le_refl _) _)
  have hsz : w.heap.size + 3 < w2.heap.size := B2.b3.lt
  go_upto_region 6 with fail
  rw [← hW3]
  clear hW3 p1 r1 B2
  have n1 : ¬ w2.heap.size = w.heap.size + 3 := by omega
  have n2 : ¬ w.heap.size + 3 = w2.heap.size := by omega
  have p1 := B3.b0.cellIs 1 (.int .u64 vb) rfl
  have p2 := B3.b0.cellIs 2 (.string vt) rfl
  have q1 := B3.b1.cellIs 1 (.int .i64 fk) rfl
  have r1 := B3.b2.cellIs 1 (.int .i64 gk) rfl
  have r2 := B3.b2.cellIs 2 (.int .i64 gl) rfl
  have o0 := O3.cellIs 0 (.int .i64 gk) rfl
  have o1 := O3.cellIs 1 (.int .u64 vb) rfl
  have o2 := O3.cellIs 2 (.string ⟨#[]⟩) rfl
  have x0 := O3.frozen 0
  have x1 := O3.frozen 1
  have x2 := O3.frozen 2
  have y0 := B3.b3.cellIs 0 (.int .i64 0) rfl
  have y1 := B3.b3.cellIs 1 (.int .u64 0) rfl
  have y2 := B3.b3.cellIs 2 (.string ⟨#[]⟩) rfl
  have z0 := B3.b3.frozen 0
  have z1 := B3.b3.frozen 1
  have z2 := B3.b3.frozen 2
  go_wp2_with fail
  refine bodyPost_ret (v := .tuple #[.agg #[.int .i64 (gk), .int .u64 (vb), .string (⟨#[]⟩)], .int .i64 0]) (by simp [results, Try.results37, go_sem, y0, y1, y2]) rfl ⟨?_, ?_⟩
  · rfl
  · exact below_set (below_set (below_set B3.below (by omega) _ _) (by omega) _ _) (by omega) _ _
set_option maxHeartbeats 1000000 in
set_option maxRecDepth 100000 in
theorem kind_CastD (v : Vl) (f g : Fld) (w : World) (h0 : 0 ≤ v.bits) (h1 : v.bits ≤ 18446744073709551615) (hv : valB v f = true) (hc : castsB f.kind f.long g.kind g.long = true) (g12 : (g.kind == 12) = false) (g10 : (g.kind == 10) = true) (g8 : (g.kind == 8) = false) (hp : plainB f.kind = true) :
    Calls Try.prog 37 #[.agg #[.int .i64 v.kind, .int .u64 v.bits, .string v.text], .agg #[.string f.name, .int .i64 f.kind, .int .i64 f.long], .agg #[.string g.name, .int .i64 g.kind, .int .i64 g.long]] w (RetVE w (⟨g.kind, (floatOfInt .f64 v.bits : Int), ⟨#[]⟩⟩, 0)) := by
  have HV := Lib.hid hv
  have HC := Lib.hid hc
  clear hv hc
  have HP := Lib.hid hp
  clear hp
  have hcb := call_bits
  obtain ⟨vk, vb, vt⟩ := v
  obtain ⟨fn, fk, fl⟩ := f
  obtain ⟨gn, gk, gl⟩ := g
  dsimp only at *
  obtain ⟨W, hW⟩ : ∃ W, W = (((w.alloc (Obj.cells #[.int .i64 vk, .int .u64 vb, .string vt] 46)).alloc (Obj.cells #[.string fn, .int .i64 fk, .int .i64 fl] 43)).alloc (Obj.cells #[.string gn, .int .i64 gk, .int .i64 gl] 43)).alloc (Obj.cells #[.int .i64 0, .int .u64 0, .string ⟨#[]⟩] 46) := ⟨_, rfl⟩
  have B0 : Four w W _ _ _ _ _ _ _ _ := hW ▸ four_new w _ _ _ _ _ _ _ _
  have p0 := B0.b0.cellIs 0 (.int .i64 vk) rfl
  have p1 := B0.b0.cellIs 1 (.int .u64 vb) rfl
  have p2 := B0.b0.cellIs 2 (.string vt) rfl
  have q0 := B0.b1.cellIs 0 (.string fn) rfl
  have q1 := B0.b1.cellIs 1 (.int .i64 fk) rfl
  have q2 := B0.b1.cellIs 2 (.int .i64 fl) rfl
  go_enter Try.func37, Try.ntmps37
  go_upto_region 1 with fail
  rw [← hW]
  clear hW
  go_wp2_with fail
  refine (right_is (v := ⟨vk, vb, vt⟩) (f := ⟨fn, fk, fl⟩) _ h0 h1 HV.out).mono ?_
  rintro e w1 ⟨rfl, hb1⟩
  have B1 := B0.kept hb1
  clear p0 p1 p2 q0 q1 q2 hb1 B0
  have p0 := B1.b0.cellIs 0 (.int .i64 vk) rfl
  have p1 := B1.b0.cellIs 1 (.int .u64 vb) rfl
  have p2 := B1.b0.cellIs 2 (.string vt) rfl
  have q0 := B1.b1.cellIs 0 (.string fn) rfl
  have q1 := B1.b1.cellIs 1 (.int .i64 fk) rfl
  have q2 := B1.b1.cellIs 2 (.int .i64 fl) rfl
  have r0 := B1.b2.cellIs 0 (.string gn) rfl
  have r1 := B1.b2.cellIs 1 (.int .i64 gk) rfl
  have r2 := B1.b2.cellIs 2 (.int .i64 gl) rfl
  go_wp2_with fail
  refine (casts_is _ HC.out).mono ?_
  rintro e w2 ⟨rfl, hb2⟩
  have B2 := B1.kept hb2
  clear p0 p1 p2 q0 q1 q2 r0 r1 r2 hb2 B1
  have p1 := B2.b0.cellIs 1 (.int .u64 vb) rfl
  have r1 := B2.b2.cellIs 1 (.int .i64 gk) rfl
  obtain ⟨W3, hW3⟩ : ∃ W3, W3 = w2.alloc (Obj.cells #[.int .i64 gk, .int .u64 vb, .string ⟨#[]⟩] 46) := ⟨_, rfl⟩
  have O3 : Blk W3 w2.heap.size 46 #[.int .i64 gk, .int .u64 vb, .string ⟨#[]⟩] := by rw [hW3]; exact Blk.new _ _ _
  have B3 : Four w W3 _ _ _ _ _ _ _ _ := B2.kept (hW3 ▸ (Below.refl _ _).alloc (Nat.le_refl _) _)
  have hsz : w.heap.size + 3 < w2.heap.size := B2.b3.lt
  go_upto_region 6 with fail
  rw [← hW3]
  clear hW3 p1 r1 B2
  have n1 : ¬ w2.heap.size = w.heap.size + 3 := by omega
  have n2 : ¬ w.heap.size + 3 = w2.heap.size := by omega
  have p1 := B3.b0.cellIs 1 (.int .u64 vb) rfl
  have p2 := B3.b0.cellIs 2 (.string vt) rfl
  have q1 := B3.b1.cellIs 1 (.int .i64 fk) rfl
  have r1 := B3.b2.cellIs 1 (.int .i64 gk) rfl
  have r2 := B3.b2.cellIs 2 (.int .i64 gl) rfl
  have o0 := O3.cellIs 0 (.int .i64 gk) rfl
  have o1 := O3.cellIs 1 (.int .u64 vb) rfl
  have o2 := O3.cellIs 2 (.string ⟨#[]⟩) rfl
  have x0 := O3.frozen 0
  have x1 := O3.frozen 1
  have x2 := O3.frozen 2
  have y0 := B3.b3.cellIs 0 (.int .i64 0) rfl
  have y1 := B3.b3.cellIs 1 (.int .u64 0) rfl
  have y2 := B3.b3.cellIs 2 (.string ⟨#[]⟩) rfl
  have z0 := B3.b3.frozen 0
  have z1 := B3.b3.frozen 1
  have z2 := B3.b3.frozen 2
  go_wp2_with fail
  refine (plain_is _ HP.out).mono ?_
  rintro e w' ⟨rfl, rfl⟩
  go_wp2_with fail
  refine bodyPost_ret (v := .tuple #[.agg #[.int .i64 (gk), .int .u64 ((floatOfInt .f64 vb : Int)), .string (⟨#[]⟩)], .int .i64 0]) (by simp [results, Try.results37, go_sem, y0, y1, y2]) rfl ⟨?_, ?_⟩
  · rfl
  · exact below_set (below_set (below_set (below_set B3.below (by omega) _ _) (by omega) _ _) (by omega) _ _) (by omega) _ _
set_option maxHeartbeats 1000000 in
set_option maxRecDepth 100000 in
theorem kind_CastE (v : Vl) (f g : Fld) (w : World) (h0 : 0 ≤ v.bits) (h1 : v.bits ≤ 18446744073709551615) (hv : valB v f = true) (hc : castsB f.kind f.long g.kind g.long = true) (g12 : (g.kind == 12) = false) (g10 : (g.kind == 10) = true) (g8 : (g.kind == 8) = false) (hp : plainB f.kind = false) (hs : signedB f.kind = true) :
    Calls Try.prog 37 #[.agg #[.int .i64 v.kind, .int .u64 v.bits, .string v.text], .agg #[.string f.name, .int .i64 f.kind, .int .i64 f.long], .agg #[.string g.name, .int .i64 g.kind, .int .i64 g.long]] w (RetVE w (⟨g.kind, (floatOfInt .f64 (wrap64 v.bits) : Int), ⟨#[]⟩⟩, 0)) := by
  have HV := Lib.hid hv
  have HC := Lib.hid hc
  clear hv hc
  have HP := Lib.hid hp
  have HS := Lib.hid hs
  clear hp hs
  have hcb := call_bits
  obtain ⟨vk, vb, vt⟩ := v
  obtain ⟨fn, fk, fl⟩ := f
  obtain ⟨gn, gk, gl⟩ := g
  dsimp only at *
  obtain ⟨W, hW⟩ : ∃ W, W = (((w.alloc (Obj.cells #[.int .i64 vk, .int .u64 vb, .string vt] 46)).alloc (Obj.cells #[.string fn, .int .i64 fk, .int .i64 fl] 43)).alloc (Obj.cells #[.string gn, .int .i64 gk, .int .i64 gl] 43)).alloc (Obj.cells #[.int .i64 0, .int .u64 0, .string ⟨#[]⟩] 46) := ⟨_, rfl⟩
  have B0 : Four w W _ _ _ _ _ _ _ _ := hW ▸ four_new w _ _ _ _ _ _ _ _
  have p0 := B0.b0.cellIs 0 (.int .i64 vk) rfl
  have p1 := B0.b0.cellIs 1 (.int .u64 vb) rfl
  have p2 := B0.b0.cellIs 2 (.string vt) rfl
  have q0 := B0.b1.cellIs 0 (.string fn) rfl
  have q1 := B0.b1.cellIs 1 (.int .i64 fk) rfl
  have q2 := B0.b1.cellIs 2 (.int .i64 fl) rfl
  go_enter Try.func37, Try.ntmps37
  go_upto_region 1 with fail
  rw [← hW]
  clear hW
  go_wp2_with fail
  refine (right_is (v := ⟨vk, vb, vt⟩) (f := ⟨fn, fk, fl⟩) _ h0 h1 HV.out).mono ?_
  rintro e w1 ⟨rfl, hb1⟩
  have B1 := B0.kept hb1
  clear p0 p1 p2 q0 q1 q2 hb1 B0
  have p0 := B1.b0.cellIs 0 (.int .i64 vk) rfl
  have p1 := B1.b0.cellIs 1 (.int .u64 vb) rfl
  have p2 := B1.b0.cellIs 2 (.string vt) rfl
  have q0 := B1.b1.cellIs 0 (.string fn) rfl
  have q1 := B1.b1.cellIs 1 (.int .i64 fk) rfl
  have q2 := B1.b1.cellIs 2 (.int .i64 fl) rfl
  have r0 := B1.b2.cellIs 0 (.string gn) rfl
  have r1 := B1.b2.cellIs 1 (.int .i64 gk) rfl
  have r2 := B1.b2.cellIs 2 (.int .i64 gl) rfl
  go_wp2_with fail
  refine (casts_is _ HC.out).mono ?_
  rintro e w2 ⟨rfl, hb2⟩
  have B2 := B1.kept hb2
  clear p0 p1 p2 q0 q1 q2 r0 r1 r2 hb2 B1
  have p1 := B2.b0.cellIs 1 (.int .u64 vb) rfl
  have r1 := B2.b2.cellIs 1 (.int .i64 gk) rfl
  obtain ⟨W3, hW3⟩ : ∃ W3, W3 = w2.alloc (Obj.cells #[.int .i64 gk, .int .u64 vb, .string ⟨#[]⟩] 46) := ⟨_, rfl⟩
  have O3 : Blk W3 w2.heap.size 46 #[.int .i64 gk, .int .u64 vb, .string ⟨#[]⟩] := by rw [hW3]; exact Blk.new _ _ _
  have B3 : Four w W3 _ _ _ _ _ _ _ _ := B2.kept (hW3 ▸ (Below.refl _ _).alloc (Nat.le_refl _) _)
  have hsz : w.heap.size + 3 < w2.heap.size := B2.b3.lt
  go_upto_region 6 with fail
  rw [← hW3]
  clear hW3 p1 r1 B2
  have n1 : ¬ w2.heap.size = w.heap.size + 3 := by omega
  have n2 : ¬ w.heap.size + 3 = w2.heap.size := by omega
  have p1 := B3.b0.cellIs 1 (.int .u64 vb) rfl
  have p2 := B3.b0.cellIs 2 (.string vt) rfl
  have q1 := B3.b1.cellIs 1 (.int .i64 fk) rfl
  have r1 := B3.b2.cellIs 1 (.int .i64 gk) rfl
  have r2 := B3.b2.cellIs 2 (.int .i64 gl) rfl
  have o0 := O3.cellIs 0 (.int .i64 gk) rfl
  have o1 := O3.cellIs 1 (.int .u64 vb) rfl
  have o2 := O3.cellIs 2 (.string ⟨#[]⟩) rfl
  have x0 := O3.frozen 0
  have x1 := O3.frozen 1
  have x2 := O3.frozen 2
  have y0 := B3.b3.cellIs 0 (.int .i64 0) rfl
  have y1 := B3.b3.cellIs 1 (.int .u64 0) rfl
  have y2 := B3.b3.cellIs 2 (.string ⟨#[]⟩) rfl
  have z0 := B3.b3.frozen 0
  have z1 := B3.b3.frozen 1
  have z2 := B3.b3.frozen 2
  go_wp2_with fail
  refine (plain_is _ HP.out).mono ?_
  rintro e w' ⟨rfl, rfl⟩
  go_wp2_with fail
  refine (signed_is _ HS.out).mono ?_
  rintro e w' ⟨rfl, rfl⟩
  go_wp2_with fail
  refine bodyPost_ret (v := .tuple #[.agg #[.int .i64 (gk), .int .u64 ((floatOfInt .f64 (wrap64 vb) : Int)), .string (⟨#[]⟩)], .int .i64 0]) (by simp [results, Try.results37, go_sem, y0, y1, y2]) rfl ⟨?_, ?_⟩
  · rfl
  · exact below_set (below_set (below_set (below_set B3.below (by omega) _ _) (by omega) _ _) (by omega) _ _) (by omega) _ _
set_option maxHeartbeats 1000000 in
set_option maxRecDepth 100000 in
theorem kind_CastF0 (v : Vl) (f g : Fld) (w : World) (h0 : 0 ≤ v.bits) (h1 : v.bits ≤ 18446744073709551615) (hv : valB v f = true) (hc : castsB f.kind f.long g.kind g.long = true) (g12 : (g.kind == 12) = false) (g10 : (g.kind == 10) = false) (g8 : (g.kind == 8) = true) (f10 : (f.kind == 10) = true) :
    Calls Try.prog 37 #[.agg #[.int .i64 v.kind, .int .u64 v.bits, .string v.text], .agg #[.string f.name, .int .i64 f.kind, .int .i64 f.long], .agg #[.string g.name, .int .i64 g.kind, .int .i64 g.long]] w (RetVE w (⟨g.kind, IntKind.u64.wrap (wholeI v.bits.toNat), ⟨#[]⟩⟩, 0)) := by
  have HV := Lib.hid hv
  have HC := Lib.hid hc
  clear hv hc
  obtain ⟨vk, vb, vt⟩ := v
  obtain ⟨fn, fk, fl⟩ := f
  obtain ⟨gn, gk, gl⟩ := g
  dsimp only at *
  obtain ⟨W, hW⟩ : ∃ W, W = (((w.alloc (Obj.cells #[.int .i64 vk, .int .u64 vb, .string vt] 46)).alloc (Obj.cells #[.string fn, .int .i64 fk, .int .i64 fl] 43)).alloc (Obj.cells #[.string gn, .int .i64 gk, .int .i64 gl] 43)).alloc (Obj.cells #[.int .i64 0, .int .u64 0, .string ⟨#[]⟩] 46) := ⟨_, rfl⟩
  have B0 : Four w W _ _ _ _ _ _ _ _ := hW ▸ four_new w _ _ _ _ _ _ _ _
  have p0 := B0.b0.cellIs 0 (.int .i64 vk) rfl
  have p1 := B0.b0.cellIs 1 (.int .u64 vb) rfl
  have p2 := B0.b0.cellIs 2 (.string vt) rfl
  have q0 := B0.b1.cellIs 0 (.string fn) rfl
  have q1 := B0.b1.cellIs 1 (.int .i64 fk) rfl
  have q2 := B0.b1.cellIs 2 (.int .i64 fl) rfl
  go_enter Try.func37, Try.ntmps37
  go_upto_region 1 with fail
  rw [← hW]
  clear hW
  go_wp2_with fail
  refine (right_is (v := ⟨vk, vb, vt⟩) (f := ⟨fn, fk, fl⟩) _ h0 h1 HV.out).mono ?_
  rintro e w1 ⟨rfl, hb1⟩
  have B1 := B0.kept hb1
  clear p0 p1 p2 q0 q1 q2 hb1 B0
  have p0 := B1.b0.cellIs 0 (.int .i64 vk) rfl
  have p1 := B1.b0.cellIs 1 (.int .u64 vb) rfl
  have p2 := B1.b0.cellIs 2 (.string vt) rfl
  have q0 := B1.b1.cellIs 0 (.string fn) rfl
  have q1 := B1.b1.cellIs 1 (.int .i64 fk) rfl
  have q2 := B1.b1.cellIs 2 (.int .i64 fl) rfl
  have r0 := B1.b2.cellIs 0 (.string gn) rfl
  have r1 := B1.b2.cellIs 1 (.int .i64 gk) rfl
  have r2 := B1.b2.cellIs 2 (.int .i64 gl) rfl
  go_wp2_with fail
  refine (casts_is _ HC.out).mono ?_
  rintro e w2 ⟨rfl, hb2⟩
  have B2 := B1.kept hb2
  clear p0 p1 p2 q0 q1 q2 r0 r1 r2 hb2 B1
  have p1 := B2.b0.cellIs 1 (.int .u64 vb) rfl
  have r1 := B2.b2.cellIs 1 (.int .i64 gk) rfl
  obtain ⟨W3, hW3⟩ : ∃ W3, W3 = w2.alloc (Obj.cells #[.int .i64 gk, .int .u64 vb, .string ⟨#[]⟩] 46) := ⟨_, rfl⟩
  have O3 : Blk W3 w2.heap.size 46 #[.int .i64 gk, .int .u64 vb, .string ⟨#[]⟩] := by rw [hW3]; exact Blk.new _ _ _
  have B3 : Four w W3 _ _ _ _ _ _ _ _ := B2.kept (hW3 ▸ (Below.refl _ _).alloc (Nat.le_refl _) _)
  have hsz : w.heap.size + 3 < w2.heap.size := B2.b3.lt
  go_upto_region 6 with fail
  rw [← hW3]
  clear hW3 p1 r1 B2
  have n1 : ¬ w2.heap.size = w.heap.size + 3 := by omega
  have n2 : ¬ w.heap.size + 3 = w2.heap.size := by omega
  have p1 := B3.b0.cellIs 1 (.int .u64 vb) rfl
  have p2 := B3.b0.cellIs 2 (.string vt) rfl
  have q1 := B3.b1.cellIs 1 (.int .i64 fk) rfl
  have r1 := B3.b2.cellIs 1 (.int .i64 gk) rfl
  have r2 := B3.b2.cellIs 2 (.int .i64 gl) rfl
  have o0 := O3.cellIs 0 (.int .i64 gk) rfl
  have o1 := O3.cellIs 1 (.int .u64 vb) rfl
  have o2 := O3.cellIs 2 (.string ⟨#[]⟩) rfl
  have x0 := O3.frozen 0
  have x1 := O3.frozen 1
  have x2 := O3.frozen 2
  have y0 := B3.b3.cellIs 0 (.int .i64 0) rfl
  have y1 := B3.b3.cellIs 1 (.int .u64 0) rfl
  have y2 := B3.b3.cellIs 2 (.string ⟨#[]⟩) rfl
  have z0 := B3.b3.frozen 0
  have z1 := B3.b3.frozen 1
  have z2 := B3.b3.frozen 2
  go_wp2_with fail
  refine (kind_Whole vb _).mono ?_
  rintro e w4 ⟨rfl, hb4⟩
  have O4 := O3.below hb4
  have B4 := B3.kept hb4
  clear p1 p2 q1 r1 r2 o0 o1 o2 x0 x1 x2 y0 y1 y2 z0 z1 z2 B3 O3 hb4
  have o0 := O4.cellIs 0 (.int .i64 gk) rfl
  have o1 := O4.cellIs 1 (.int .u64 vb) rfl
  have o2 := O4.cellIs 2 (.string ⟨#[]⟩) rfl
  have x1 := O4.frozen 1
  have y0 := B4.b3.cellIs 0 (.int .i64 0) rfl
  have y1 := B4.b3.cellIs 1 (.int .u64 0) rfl
  have y2 := B4.b3.cellIs 2 (.string ⟨#[]⟩) rfl
  have z0 := B4.b3.frozen 0
  have z1 := B4.b3.frozen 1
  have z2 := B4.b3.frozen 2
  go_wp2_with fail
  refine bodyPost_ret (v := .tuple #[.agg #[.int .i64 (gk), .int .u64 (IntKind.u64.wrap (wholeI vb.toNat)), .string (⟨#[]⟩)], .int .i64 0]) (by simp [results, Try.results37, go_sem, y0, y1, y2]) rfl ⟨?_, ?_⟩
  · rfl
  · exact below_set (below_set (below_set (below_set B4.below (by omega) _ _) (by omega) _ _) (by omega) _ _) (by omega) _ _
set_option maxHeartbeats 1000000 in
set_option maxRecDepth 100000 in
theorem kind_CastC (v : Vl) (f g : Fld) (w : World) (h0 : 0 ≤ v.bits) (h1 : v.bits ≤ 18446744073709551615) (hv : valB v f = true) (hc : castsB f.kind f.long g.kind g.long = true) (g12 : (g.kind == 12) = true) (g10 : (g.kind == 10) = false) (g8 : (g.kind == 8) = false) (n : Nat) (hn : g.long = n) (hn2 : n ≤ 64) :
    Calls Try.prog 37 #[.agg #[.int .i64 v.kind, .int .u64 v.bits, .string v.text], .agg #[.string f.name, .int .i64 f.kind, .int .i64 f.long], .agg #[.string g.name, .int .i64 g.kind, .int .i64 g.long]] w (RetVE w (⟨g.kind, v.bits, padT v.text n⟩, 0)) := by
  have HV := Lib.hid hv
  have HC := Lib.hid hc
  clear hv hc
  have HN := Lib.hid hn
  clear hn
  obtain ⟨vk, vb, vt⟩ := v
  obtain ⟨fn, fk, fl⟩ := f
  obtain ⟨gn, gk, gl⟩ := g
  dsimp only at *
  obtain ⟨W, hW⟩ : ∃ W, W = (((w.alloc (Obj.cells #[.int .i64 vk, .int .u64 vb, .string vt] 46)).alloc (Obj.cells #[.string fn, .int .i64 fk, .int .i64 fl] 43)).alloc (Obj.cells #[.string gn, .int .i64 gk, .int .i64 gl] 43)).alloc (Obj.cells #[.int .i64 0, .int .u64 0, .string ⟨#[]⟩] 46) := ⟨_, rfl⟩
  have B0 : Four w W _ _ _ _ _ _ _ _ := hW ▸ four_new w _ _ _ _ _ _ _ _
  have p0 := B0.b0.cellIs 0 (.int .i64 vk) rfl
  have p1 := B0.b0.cellIs 1 (.int .u64 vb) rfl
  have p2 := B0.b0.cellIs 2 (.string vt) rfl
  have q0 := B0.b1.cellIs 0 (.string fn) rfl
  have q1 := B0.b1.cellIs 1 (.int .i64 fk) rfl
  have q2 := B0.b1.cellIs 2 (.int .i64 fl) rfl
  go_enter Try.func37, Try.ntmps37
  go_upto_region 1 with fail
  rw [← hW]
  clear hW
  go_wp2_with fail
  refine (right_is (v := ⟨vk, vb, vt⟩) (f := ⟨fn, fk, fl⟩) _ h0 h1 HV.out).mono ?_
  rintro e w1 ⟨rfl, hb1⟩
  have B1 := B0.kept hb1
  clear p0 p1 p2 q0 q1 q2 hb1 B0
  have p0 := B1.b0.cellIs 0 (.int .i64 vk) rfl
  have p1 := B1.b0.cellIs 1 (.int .u64 vb) rfl
  have p2 := B1.b0.cellIs 2 (.string vt) rfl
  have q0 := B1.b1.cellIs 0 (.string fn) rfl
  have q1 := B1.b1.cellIs 1 (.int .i64 fk) rfl
  have q2 := B1.b1.cellIs 2 (.int .i64 fl) rfl
  have r0 := B1.b2.cellIs 0 (.string gn) rfl
  have r1 := B1.b2.cellIs 1 (.int .i64 gk) rfl
  have r2 := B1.b2.cellIs 2 (.int .i64 gl) rfl
  go_wp2_with fail
  refine (casts_is _ HC.out).mono ?_
  rintro e w2 ⟨rfl, hb2⟩
  have B2 := B1.kept hb2
  clear p0 p1 p2 q0 q1 q2 r0 r1 r2 hb2 B1
  have p1 := B2.b0.cellIs 1 (.int .u64 vb) rfl
  have r1 := B2.b2.cellIs 1 (.int .i64 gk) rfl
  obtain ⟨W3, hW3⟩ : ∃ W3, W3 = w2.alloc (Obj.cells #[.int .i64 gk, .int .u64 vb, .string ⟨#[]⟩] 46) := ⟨_, rfl⟩
  have O3 : Blk W3 w2.heap.size 46 #[.int .i64 gk, .int .u64 vb, .string ⟨#[]⟩] := by rw [hW3]; exact Blk.new _ _ _
  have B3 : Four w W3 _ _ _ _ _ _ _ _ := B2.kept (hW3 ▸ (Below.refl _ _).alloc (Nat.le_refl _) _)
  have hsz : w.heap.size + 3 < w2.heap.size := B2.b3.lt
  go_upto_region 6 with fail
  rw [← hW3]
  clear hW3 p1 r1 B2
  have n1 : ¬ w2.heap.size = w.heap.size + 3 := by omega
  have n2 : ¬ w.heap.size + 3 = w2.heap.size := by omega
  have p1 := B3.b0.cellIs 1 (.int .u64 vb) rfl
  have p2 := B3.b0.cellIs 2 (.string vt) rfl
  have q1 := B3.b1.cellIs 1 (.int .i64 fk) rfl
  have r1 := B3.b2.cellIs 1 (.int .i64 gk) rfl
  have r2 := B3.b2.cellIs 2 (.int .i64 gl) rfl
  have o0 := O3.cellIs 0 (.int .i64 gk) rfl
  have o1 := O3.cellIs 1 (.int .u64 vb) rfl
  have o2 := O3.cellIs 2 (.string ⟨#[]⟩) rfl
  have x0 := O3.frozen 0
  have x1 := O3.frozen 1
  have x2 := O3.frozen 2
  have y0 := B3.b3.cellIs 0 (.int .i64 0) rfl
  have y1 := B3.b3.cellIs 1 (.int .u64 0) rfl
  have y2 := B3.b3.cellIs 2 (.string ⟨#[]⟩) rfl
  have z0 := B3.b3.frozen 0
  have z1 := B3.b3.frozen 1
  have z2 := B3.b3.frozen 2
  rw [HN.out] at r2
  have hmk := make_bytes n (by omega) W3
  have hcp := copy_pad W3 n vt _ rfl
  have hcv := conv_pad W3 n vt _ rfl
  have p2a := (B3.b0.alloc (Obj.cells (zeroB n) 5)).cellIs 2 (.string vt) rfl
  have B4 : Four w (W3.alloc (Obj.cells (padB vt n) 5)) _ _ _ _ _ _ _ _ := B3.kept ((Below.refl _ _).alloc (Nat.le_refl _) _)
  have O4 := O3.alloc (Obj.cells (padB vt n) 5)
  clear o0 o1 o2 x0 x1 x2 y0 y1 y2 z0 z1 z2
  have o0 := O4.cellIs 0 (.int .i64 gk) rfl
  have o1 := O4.cellIs 1 (.int .u64 vb) rfl
  have o2 := O4.cellIs 2 (.string ⟨#[]⟩) rfl
  have x2 := O4.frozen 2
  have y0 := B4.b3.cellIs 0 (.int .i64 0) rfl
  have y1 := B4.b3.cellIs 1 (.int .u64 0) rfl
  have y2 := B4.b3.cellIs 2 (.string ⟨#[]⟩) rfl
  have z0 := B4.b3.frozen 0
  have z1 := B4.b3.frozen 1
  have z2 := B4.b3.frozen 2
  go_wp2_with fail
  refine bodyPost_ret (v := .tuple #[.agg #[.int .i64 (gk), .int .u64 (vb), .string (padT vt n)], .int .i64 0]) (by simp [results, Try.results37, go_sem, y0, y1, y2]) rfl ⟨?_, ?_⟩
  · rfl
  · exact below_set (below_set (below_set (below_set B4.below (by omega) _ _) (by omega) _ _) (by omega) _ _) (by omega) _ _
end Go.Proofs.Ytdggnnbgiadgaaa
