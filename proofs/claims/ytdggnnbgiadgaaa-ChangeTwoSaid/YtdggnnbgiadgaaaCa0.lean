/- make([]byte, n), copy(b, text), string(b). -/
import Derived.Test.YtdggnnbgiadgaaaMk2
import Derived.Lib.BufferWrite
set_option linter.unusedVariables false
namespace Go.Proofs.Ytdggnnbgiadgaaa
open Go.RowKit

theorem infoB : (Try.prog.info? 5).map (fun i => (i.zero, i.size, i.bytes)) = some (some (.int .u8 0), 1, 1) := by kernel_rfl
def padL (s : ByteArray) (n : Nat) : List UInt8 := s.data.toList.take n ++ List.replicate (n - s.size) 0
def padB (s : ByteArray) (n : Nat) : Array Value := ((padL s n).map fun b => Value.int .u8 (b.toNat : Int)).toArray
def padT (s : ByteArray) (n : Nat) : ByteArray := ⟨(padL s n).toArray⟩
def zeroB (n : Nat) : Array Value := Array.replicate n (.int .u8 0)
theorem toList_size (s : ByteArray) : s.data.toList.length = s.size := (Lib.size_eq s).symm
theorem padL_length (s : ByteArray) (n : Nat) : (padL s n).length = n := by
  have := toList_size s
  simp [padL, -Array.length_toList, this]
  omega
theorem padT_size (s : ByteArray) (n : Nat) : (padT s n).size = n := by
  have := padL_length s n
  simp [padT, ByteArray.size, this]
theorem setRow_new (W : World) (cur cs : Array Value) (t : TypeId) (H : Nat) (hH : W.heap.size = H) : (W.alloc (.cells cur t)).setRow H cs = W.alloc (.cells cs t) := by
  subst hH
  unfold World.setRow World.alloc
  congr 1
  apply Array.ext_getElem?
  intro i
  rw [Array.getElem?_modify]
  by_cases h : W.heap.size = i
  · subst h; simp
  · simp [h, Array.getElem?_push]
    by_cases h2 : i = W.heap.size
    · exact absurd h2.symm h
    · simp [h2]
set_option maxRecDepth 100000 in
theorem make_bytes (n : Nat) (hn : n ≤ 1000000) (w : World) : (Instr.makeSlice 89 (.int .i64 n) (.int .i64 n)).run Try.prog w = .ok (.slice (some ⟨w.heap.size, 0, none⟩) n n) (w.alloc (.cells (zeroB n) 5)) := by
  obtain ⟨i0, hi, hzz⟩ := Option.map_eq_some_iff.1 infoB
  simp only [Prod.mk.injEq] at hzz
  obtain ⟨hz0, hz1, hz2⟩ := hzz
  rw [run_make w 89 5 i0 _ Try.underlying89 hi hz0 .i64 .i64 n n (by omega) (by omega) (by rw [hz2]; omega) (by omega)]
  rw [hz1, Int.toNat_natCast, Nat.mul_one]
  congr 3
  apply Array.ext
  · rw [size_madeCells]; simp [zeroB]
  · intro i h1 h2
    simp [madeCells, zeroB, Value.cells, Nat.mod_one]
theorem copy_pad (W : World) (n : Nat) (s : ByteArray) (H : Nat) (hH : W.heap.size = H) (ty : TypeId) :
    (Builtin.copy_ #[89, 9] ty #[.slice (some ⟨H, 0, none⟩) n n, .string s]).run Try.prog (W.alloc (.cells (zeroB n) 5)) = .ok (goInt ((min s.size n : Nat) : Int)) (W.alloc (.cells (padB s n) 5)) := by
  obtain ⟨i0, hi, hzz⟩ := Option.map_eq_some_iff.1 infoB
  simp only [Prod.mk.injEq] at hzz
  obtain ⟨hz0, hz1, hz2⟩ := hzz
  have hlen : (s.data.toList.take n).length = min s.size n := by rw [List.length_take, toList_size, Nat.min_comm]
  have hst := run_storeCells_at Try.prog H 0 5 (Lib.byteCells (s.data.toList.take n)) 0 (zeroB n) (W.alloc (.cells (zeroB n) 5)) (by subst hH; exact heap_alloc_new W _) (by rw [Lib.byteCells_length, hlen]; simp [zeroB]; omega) (Lib.byteCells_one _)
  have hex : List.take (s.size.min n) (s.data.toList.map fun b : UInt8 => Value.int IntKind.u8 (b.toNat : Int)) = Lib.byteCells (s.data.toList.take n) := by
    have e : s.size.min n = min s.size n := rfl
    have h := toList_size s
    have : s.data.toList.take (min s.size n) = s.data.toList.take n := by
      rcases Nat.le_total n s.size with hc | hc
      · rw [Nat.min_eq_right hc]
      · rw [Nat.min_eq_left hc, List.take_of_length_le (by omega), List.take_of_length_le (by omega)]
    rw [e, ← List.map_take, this]
    rfl
  have hpad : ((zeroB n).toList.take (0 + 0) ++ Lib.byteCells (s.data.toList.take n) ++ (zeroB n).toList.drop (0 + 0 + (Lib.byteCells (s.data.toList.take n)).length)).toArray = padB s n := by
    unfold padB padL
    rw [Lib.byteCells_length, hlen]
    simp only [zeroB, Array.toList_replicate, List.drop_replicate, Nat.add_zero, List.take_zero, List.nil_append, List.map_append, List.map_replicate]
    rw [show n - (0 + min s.size n) = n - s.size from by omega]
    rfl
  rw [hpad, setRow_new W _ _ _ H hH] at hst
  simp [Builtin.copy_, run_underlying Try.underlying89, Builtin.lenOf, Builtin.firstCells, sizeOf, typeInfo, hi]
  rw [hex, hst]
  rfl
set_option maxRecDepth 100000 in
theorem conv_pad (W : World) (n : Nat) (s : ByteArray) (H : Nat) (hH : W.heap.size = H) : (convert 89 9 (.slice (some ⟨H, 0, none⟩) n n)).run Try.prog (W.alloc (.cells (padB s n) 5)) = .ok (.string (padT s n)) (W.alloc (.cells (padB s n) 5)) := by
  have hx : (padL s n).map (fun b => (b.toNat : Int)) = (padL s n).map (fun b => (b.toNat : Int)) := rfl
  rw [run_convert_bytes_arg (P := Try.prog) (w := W.alloc (.cells (padB s n) 5)) 89 5 Try.underlying89 Try.underlying5 H 0 n n ((padL s n).map fun b => (b.toNat : Int)) (by rw [List.length_map, padL_length]) (fun i hi => ?_) 9 Try.underlying9]
  · congr 2
    unfold strOfNums padT
    congr 2
    rw [List.map_map]
    refine List.map_id'' (fun b => ?_) _ |>.trans rfl
    simp
  · have hb : Blk (W.alloc (.cells (padB s n) 5)) H 5 (padB s n) := Blk.newAt W H hH _ _
    rw [Nat.zero_add]
    have hi' : i < (padL s n).length := by rw [padL_length]; exact hi
    exact hb.cellIs i _ (by simp [padB, List.getD, hi'])
end Go.Proofs.Ytdggnnbgiadgaaa
