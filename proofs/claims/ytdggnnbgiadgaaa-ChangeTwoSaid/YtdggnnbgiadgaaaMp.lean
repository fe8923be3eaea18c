/- A map literal with whole numbers as keys: insert and lookup at a block that is known. -/
import Derived.Test.YtdggnnbgiadgaaaNam
import Derived.WideMake
set_option linter.unusedVariables false
namespace Go.Proofs.Ytdggnnbgiadgaaa
open Go.RowKit

section
variable {P : Program} {w : World}
def keyIs (n : Int) (x : MapEntry) : Bool := match x.key with | .int .i64 m => m == n | _ => false
theorem run_insert_int (mty kt et : TypeId) (r clock : Nat) (es : Array MapEntry) (n : Int) (val : Value) (hm : P.underlying mty = some (.map kt et)) (hk : P.underlying kt = some (.int .i64)) (hb : w.heap[r]? = some (.map es clock))
    (hf : Instr.findNow (.int .i64) (.int .i64 n) es.toList 0 = some none) :
    (Instr.mapUpdate mty (.map (some r)) (.int .i64 n) val).run P w = .ok () { w with heap := w.heap.setIfInBounds r (.map (es.push { key := .int .i64 n, val := val, born := clock }) (clock + 1)) } := by
  have hc : (Instr.checkKey false 10000 kt (.int .i64 n)).run P w = .ok () w := MapKept.run_checkKey (k := .int .i64 n) hk (by simp [MapKept.IsKey]) false 9999
  simp [Instr.mapUpdate, run_underlying hm, MapKept.run_getObj_map hb, hc, MapKept.run_findKey hk hf, MapKept.run_setObj_map _ hb, Result.andThen]
theorem wp_insert {ops : Array Oper} {rest : List Oper} {o : Oper} {a : Act} {Q : Exit → Act → World → Prop} (hgd : o.guard = none) {m x v : Operand} {t : TypeId} (hop : o.op = Op.insert t m x v) (kt et : TypeId)
    (hm : P.underlying t = some (.map kt et)) (hk : P.underlying kt = some (.int .i64)) {r clock : Nat} {es : Array MapEntry} {n : Int} {val : Value} (em : a.eval m = .map (some r)) (ex : a.eval x = .int .i64 n) (ev : a.eval v = val)
    (hb : w.heap[r]? = some (.map es clock)) (hf : Instr.findNow (.int .i64) (.int .i64 n) es.toList 0 = some none)
    (h : ∀ w1, w1.heap[r]? = some (.map (es.push { key := .int .i64 n, val := val, born := clock }) (clock + 1)) → w.grownBy w1 (some r) → w1.heap.size = w.heap.size → wpList P ops Q rest (a.put o.dst undef) w1) :
    wpList P ops Q (o :: rest) a w := by
  refine wpList_plain hgd fun K' hK' => ?_
  have hr : r < w.heap.size := by
    rcases Nat.lt_or_ge r w.heap.size with hlt | hge
    · exact hlt
    · rw [Array.getElem?_eq_none hge] at hb; cases hb
  unfold Oper.wp
  simp [execOp, hop, em, ex, ev, run_insert_int _ _ _ _ _ _ _ _ hm hk hb hf, Result.andThen]
  refine hK' _ _ (h _ (by simp [hr]) ⟨rfl, rfl, rfl, by simp, fun i hi hne => ?_⟩ (by simp))
  have : r ≠ i := fun e => hne (by rw [e])
  simp [this]
theorem run_lookup_hit (mty kt et : TypeId) (r clock : Nat) (es : Array MapEntry) (n : Int) (val : Value) (i : Nat) (hm : P.underlying mty = some (.map kt et)) (hk : P.underlying kt = some (.int .i64)) (hb : w.heap[r]? = some (.map es clock))
    (hf : Instr.findNow (.int .i64) (.int .i64 n) es.toList 0 = some (some (i, val))) :
    (Instr.lookup mty (.map (some r)) (.int .i64 n) true).run P w = .ok (.tuple #[val, .bool true]) w := by
  have hc : ∀ b, (Instr.checkKey b 10000 kt (.int .i64 n)).run P w = .ok () w := fun b => MapKept.run_checkKey (k := .int .i64 n) hk (by simp [MapKept.IsKey]) b 9999
  simp [Instr.lookup, run_underlying hm, MapKept.run_getObj_map hb, hc, MapKept.run_findKey hk hf, Result.andThen]
theorem run_lookup_miss (mty kt et : TypeId) (r clock : Nat) (es : Array MapEntry) (n : Int) (z : Value) (hm : P.underlying mty = some (.map kt et)) (hk : P.underlying kt = some (.int .i64)) (hb : w.heap[r]? = some (.map es clock))
    (hf : Instr.findNow (.int .i64) (.int .i64 n) es.toList 0 = some none) (hz : (zeroValue et).run P w = .ok z w) :
    (Instr.lookup mty (.map (some r)) (.int .i64 n) true).run P w = .ok (.tuple #[z, .bool false]) w := by
  have hc : ∀ b, (Instr.checkKey b 10000 kt (.int .i64 n)).run P w = .ok () w := fun b => MapKept.run_checkKey (k := .int .i64 n) hk (by simp [MapKept.IsKey]) b 9999
  simp [Instr.lookup, run_underlying hm, MapKept.run_getObj_map hb, hc, MapKept.run_findKey hk hf, hz, Result.andThen]
end
end Go.Proofs.Ytdggnnbgiadgaaa
