/- ChangeTwo answers true for every input, whatever the fields and the two changes: two changes at once are the first one, and then the second one. No condition beyond the row's own. -/
import Derived.Test.YtdggnnbgiadgaaaRows
import Derived.Test.YtdggnnbgiadgaaaTwo
import Derived.Test.YtdggnnbgiadgaaaRd
import Derived.WalkKit
import Derived.ProofKit
import Derived.OpenShut
import Derived.ShutString
import Derived.ChangeOld
import Derived.Below
import Derived.SizedLaws
set_option linter.unusedVariables false
namespace Go.Proofs.Ytdggnnbgiadgaaa.changeTwo
open Go.ChangeShapes Go.WideShapes Go.ChangeAt Go.RowKit
theorem own : ownKnob Try.prog.godebug = none := by kernel_rfl
theorem laidOut : laidOutB Try.prog = true := by kernel_rfl
set_option maxRecDepth 100000 in
theorem lifted (os : Os) (started : os.Started) (H : Type) (enc : TypeId × Value → H) :
    ReturnsInHanded {} Try.checked os 4 .any (Rows.changeTwoSpec.pre6 enc Try.prog Try.f4 Rows.changeTwoRow.domain false) (Rows.changeTwoSpec.post enc Try.prog Try.f4 false true false false) := by
  refine returnsInHanded_of_change_sized (C := Try.checked) own started (by kernel_rfl) Try.func4
    (ChangeSpec.witness6 (enc := enc) (C := Try.checked) false ⟨#[], #[.slice none 0 0, .agg #[.int .i64 0, .string ByteArray.empty, .string ByteArray.empty, .int .i64 0, .int .i64 0, .int .i64 0, .int .u64 0, .string ByteArray.empty, .slice none 0 0], .agg #[.int .i64 0, .string ByteArray.empty, .string ByteArray.empty, .int .i64 0, .int .i64 0, .int .i64 0, .int .u64 0, .string ByteArray.empty, .slice none 0 0]], []⟩ 8 (by kernel_rfl) (by kernel_rfl) (by kernel_rfl) (by kernel_rfl)) ?_
  intro W base args ds gs before hval0 hW hcnd hsz0 _
  have hsz : (DataW.weightsEach Try.prog (Try.f4.params.toList ++ Rows.changeTwoSpec.plain.varTypes Try.prog) (ds ++ gs)).all (· ≤ reachBytes) = true := hsz0
  have hval : ∀ (j : Nat) t v, Try.f4.params[j]? = some t → args[j]? = some v → Value.okWide Try.prog W .any base t v := hval0
  have hW' := hW
  obtain ⟨p, q, hA0, hV, rfl, hfz, hnd⟩ := hW
  have hA : DataW.TrodAll enc Try.prog W 0 (fun _ => true) true Try.f4.params.toList args.toList ds p := hA0
  rw [Try.params4] at hA hval hsz
  obtain ⟨v0, vs0, d0, ds0, p0, q0, hargs, rfl, rfl, h0, r0⟩ := trodAll_cons hA
  obtain ⟨v1, vs1, d1, ds1, p1, q1, rfl, rfl, rfl, h1, r1⟩ := trodAll_cons r0
  obtain ⟨v2, vs2, d2, ds2, p2, q2, rfl, rfl, rfl, h2, r2⟩ := trodAll_cons r1
  obtain ⟨rfl, rfl, rfl⟩ := trodAll_nil r2
  obtain rfl : args = #[v0, v1, v2] := by cases args; simp_all
  obtain ⟨rfl, rfl⟩ := trodVars_none hV
  have wok : ∀ (j : Nat) (t : TypeId) (d : DataW H), (#[22, 49, 49].toList ++ Rows.changeTwoSpec.plain.varTypes Try.prog)[j]? = some t → ([d0, d1, d2] ++ [])[j]? = some d → WOk t d := fun j t d ht hd n hn => by
    have := List.all_eq_true.1 hsz n (DataW.weights_mem_each ht hd n hn)
    simpa using this
  obtain ⟨s0, len0, cap0, rfl⟩ := okWide_slice Try.underlying22 (hval 0 22 v0 rfl rfl)
  obtain ⟨cs1, rfl, hcs1⟩ := okWide_struct Try.underlying49 (hval 1 49 v1 rfl rfl)
  obtain ⟨cs2, rfl, hcs2⟩ := okWide_struct Try.underlying49 (hval 2 49 v2 rfl rfl)
  have k0 := h0
  have k1 := h1
  have k2 := h2
  have lt0 : ∀ x ∈ p0, x.block < W.heap.size := by obtain ⟨m, hm⟩ := k0; exact DataW.trod_lt m _ _ _ hm
  have lt1 : ∀ x ∈ p1, x.block < W.heap.size := by obtain ⟨m, hm⟩ := k1; exact DataW.trod_lt m _ _ _ hm
  have lt2 : ∀ x ∈ p2, x.block < W.heap.size := by obtain ⟨m, hm⟩ := k2; exact DataW.trod_lt m _ _ _ hm
  obtain ⟨f0, hf0⟩ := h0
  obtain ⟨f1, hf1⟩ := h1
  obtain ⟨f2, hf2⟩ := h2
  obtain ⟨A, l, cl, e0, hcl, hrl, hfs, hll⟩ := rd_flds hf0 (wok 0 _ _ rfl rfl)
  obtain ⟨⟨a, B, cp⟩, e1, hra⟩ := rd_ch hf1 (wok 1 _ _ rfl rfl)
  obtain ⟨⟨b, B', cp'⟩, e2, hrb⟩ := rd_ch hf2 (wok 2 _ _ rfl rfl)
  simp [Value.cells] at e0
  obtain ⟨rfl, rfl, rfl⟩ := e0
  obtain rfl : cs1 = chCells a B cp := by
    apply Array.toList_inj.1
    exact e1
  obtain rfl : cs2 = chCells b B' cp' := by
    apply Array.toList_inj.1
    exact e2
  dsimp only at hra hrb
  have hin : TwoIn W l a b s0 B B' cap0 cp cp' := ⟨hrl, hcl, hra.rd, hra.cp, hrb.rd, hrb.cp,
    ⟨fun f hf => (hfs f hf).name, fun c hc => by
      simp at hc
      rcases hc with rfl | rfl
      · have h1 := hra.name; have h2 := hra.dst.name; have h3 := hra.dflt.text; have h4 := hra.len; exact ⟨by omega, h2, h3, by omega⟩
      · have h1 := hrb.name; have h2 := hrb.dst.name; have h3 := hrb.dflt.text; have h4 := hrb.len; exact ⟨by omega, h2, h3, by omega⟩, by omega, by simp⟩, hfs, hra.ok, hrb.ok⟩
  clear hA0 hval0 hsz0 hsz wok
  refine (law_Two l a b s0 B B' cap0 cp cp' W hin).mono fun e W' ⟨he, bel⟩ => ?_
  subst he
  exact ⟨_, rfl, _, _, _, [], _, [], hW', trodAll_mk1 (shut_bool Try.underlying4 _), (trodAll_cons_mk (Below.trod laidOut (by kernel_rfl) (of_decide_eq_true (by kernel_rfl)) k0 bel lt0) (trodAll_cons_mk (Below.trod laidOut (by kernel_rfl) (of_decide_eq_true (by kernel_rfl)) k1 bel lt1) (trodAll_cons_mk (Below.trod laidOut (by kernel_rfl) (of_decide_eq_true (by kernel_rfl)) k2 bel lt2) trodAll_mk0))), rfl, bel.frame _, fun h => by cases h⟩
theorem over : Rows.changeTwoRow.holds Try.pinned (OpenSpec.ofChange Rows.changeTwoSpec) :=
  OpenClaim.holds_of_wide 4 Try.f4 rfl rfl rfl rfl rfl rfl rfl ⟨rfl, rfl, rfl, rfl, rfl⟩ rfl rfl rfl rfl rfl (by kernel_rfl) Try.func4 (by kernel_rfl)
    (of_decide_eq_true (by kernel_rfl)) (by unfold Func.isWrapper; first | (rw [if_pos (by decide +kernel)]; kernel_rfl) | (rw [if_neg (by decide +kernel)]; exact ⟨rfl, rfl⟩))
    (fun os started H enc _ => lifted os started H enc)
theorem proved : Rows.ChangeTwoSaid := over
#print axioms proved
end Go.Proofs.Ytdggnnbgiadgaaa.changeTwo
namespace Go.Proofs.Ytdggnnbgiadgaaa
/-- The row, under a short name, for the claim. -/
theorem changeTwo_holds : Rows.ChangeTwoSaid := changeTwo.proved
end Go.Proofs.Ytdggnnbgiadgaaa
