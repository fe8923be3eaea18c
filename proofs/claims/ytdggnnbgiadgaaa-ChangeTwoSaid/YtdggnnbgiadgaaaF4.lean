/- field.Right. -/
import Derived.Test.YtdggnnbgiadgaaaF3
set_option linter.unusedVariables false
namespace Go.Proofs.Ytdggnnbgiadgaaa
open Go.RowKit

structure FldOk (f : Fld) : Prop where
  name : f.name.size ≤ 140737488355328
  kind : -9223372036854775808 ≤ f.kind ∧ f.kind ≤ 9223372036854775807
  long : -9223372036854775808 ≤ f.long ∧ f.long ≤ 9223372036854775807
structure FsOk (l : List Fld) : Prop where
  len : l.length ≤ 50000
  all : ∀ f ∈ l, FldOk f
structure VlOk (v : Vl) : Prop where
  bits : 0 ≤ v.bits ∧ v.bits ≤ 18446744073709551615
  text : v.text.size ≤ 140737488355328
  kind : -9223372036854775808 ≤ v.kind ∧ v.kind ≤ 9223372036854775807
theorem FsOk.at_ {l : List Fld} (h : FsOk l) {k : Nat} {f : Fld} (hf : l[k]? = some f) : FldOk f := h.all f (List.mem_of_getElem? hf)

def rightFrom (all : List Fld) : List Fld → Nat → Bool
  | [], _ => true
  | f :: r, i => (nameB f.name && (!(longI f.kind f.long == 0) && findI all f.name == (i : Int))) && rightFrom all r (i + 1)
def rightL (l : List Fld) : Bool := rightFrom l l 0 && decide (l.length ≤ 16)
theorem right_step {l : List Fld} {k : Nat} {f : Fld} (hk : l[k]? = some f) : rightFrom l (l.drop k) k = ((nameB f.name && (!(longI f.kind f.long == 0) && findI l f.name == (k : Int))) && rightFrom l (l.drop (k + 1)) (k + 1)) := by
  have hlt : k < l.length := (List.getElem?_eq_some_iff.1 hk).1
  have he : l[k] = f := (List.getElem?_eq_some_iff.1 hk).2
  rw [List.drop_eq_getElem_cons hlt, he]; rfl
theorem right_no {l : List Fld} {k : Nat} (h : rightFrom l (l.drop k) k = rightFrom l l 0) (h2 : rightFrom l (l.drop k) k = false) : rightL l = false := by
  unfold rightL; rw [← h, h2]; rfl

theorem keepc {w w1 : World} (hb : Below w.heap.size w w1) {a : Addr} {v : Value} (h : w.cell? a = some v) : w1.cell? a = some v := (hb.cell (World.block_lt_of_cell? w _ h)).trans h

theorem field_Right (l : List Fld) (A : Option Addr) (c : Nat) (w : World) (hr : RS FF w A l) (hok : FsOk l) (hlc : l.length ≤ c) :
    Calls Try.prog 16 #[.slice A l.length c] w fun e w' => e = .returned (.bool (rightL l)) ∧ Below w.heap.size w w' := by
  have hl := hok.len
  go_enter Try.func16, Try.ntmps16
  go_wp2_with fail
  go_loopw [3, 4, 7] (fun _ _ i wr => ∃ k : Nat, k ≤ l.length ∧ i = .int .i64 k ∧ Below w.heap.size w wr ∧ Hid (rightFrom l (l.drop k) k = rightFrom l l 0)) (fun _ _ i _ => l.length - (intOf i).toNat)
  case atStart => exact ⟨0, Nat.zero_le _, rfl, Below.refl _ _, rfl⟩
  case round =>
    obtain ⟨k, hk, rfl, hB, HF⟩ := hrel
    by_cases hlt : k < l.length
    · have hr1 := hr.below hB
      obtain ⟨ad, f, rfl, hf, c0, c1, c2⟩ := hr1.fld hlt
      have hs := right_step hf
      have hn := (hok.at_ hf).name
      have Hf := Lib.hid hf
      have HS := Lib.hid hs
      have Hn := Lib.hid hn
      clear hf hs hn
      have hr2 := hr1.alloc (Obj.cells #[.string f.name, .int .i64 f.kind, .int .i64 f.long] 43)
      have hB2 := hB.alloc hB.size (Obj.cells #[.string f.name, .int .i64 f.kind, .int .i64 f.long] 43)
      have x0 : (wr.alloc (Obj.cells #[.string f.name, .int .i64 f.kind, .int .i64 f.long] 43)).cell? ⟨wr.heap.size, 0, none⟩ = some (.string f.name) := by go_simp
      have x1 : (wr.alloc (Obj.cells #[.string f.name, .int .i64 f.kind, .int .i64 f.long] 43)).cell? ⟨wr.heap.size, 1, none⟩ = some (.int .i64 f.kind) := by go_simp
      have x2 : (wr.alloc (Obj.cells #[.string f.name, .int .i64 f.kind, .int .i64 f.long] 43)).cell? ⟨wr.heap.size, 2, none⟩ = some (.int .i64 f.long) := by go_simp
      have X0 := Lib.hid x0
      have X1 := Lib.hid x1
      have X2 := Lib.hid x2
      clear x0 x1 x2
      go_wp2_with (first
        | (go_at_call 32; refine (field_Name _ _ Hn.out).mono ?_; rintro e w1 ⟨rfl, hb1⟩; have y0 := keepc hb1 X0.out; have y1 := keepc hb1 X1.out; have y2 := keepc hb1 X2.out)
        | (go_at_call 33; refine (kind_Long _ _ _ _).mono ?_; rintro e w2 ⟨rfl, hb2⟩; have z0 := keepc hb2 y0)
        | (go_at_call 34; refine (field_Find l _ c f.name _ ((hr2.below hb1).below hb2) (by omega) hlc).mono ?_; rintro e w3 ⟨rfl, hb3⟩))
      all_goals have hB3 := hB2.trans (hb1.mono hB2.size)
      · go_ret
        refine ⟨?_, hB3.trans (hb2.mono hB3.size)⟩
        have h1 : nameB f.name = true := by assumption
        have h2 : longI f.kind f.long = 0 := by assumption
        have h3 : rightL l = false := right_no HF.out (by rw [HS.out, h1, h2]; rfl)
        rw [h3]; rfl
      · have hB4 := hB3.trans (hb2.mono hB3.size)
        have hB5 := hB4.trans (hb3.mono hB4.size)
        have h1 : nameB f.name = true := by assumption
        have h2 : ¬ longI f.kind f.long = 0 := by assumption
        have h4 : (longI f.kind f.long == 0) = true ∨ (findI l f.name != (k : Int)) = true := by assumption
        go_ret
        refine ⟨?_, hB5⟩
        go_light
        have h3 : rightL l = false := right_no HF.out (by
          rw [HS.out, h1]
          rcases h4 with h4 | h4
          · exact absurd (by simpa using h4) h2
          · simp at h4; simp [h4])
        rw [h3]; rfl
      · have hB4 := hB3.trans (hb2.mono hB3.size)
        have hB5 := hB4.trans (hb3.mono hB4.size)
        have h1 : nameB f.name = true := by assumption
        have h4 : (longI f.kind f.long == 0) = false ∧ (findI l f.name != (k : Int)) = false := by assumption
        go_roundw
        case rel =>
          go_light
          exact ⟨k + 1, by omega, by go_num, hB5, by
            have h5 := HS.out
            rw [h1, h4.1, show (findI l f.name == (k : Int)) = true by simpa using h4.2] at h5
            exact (HF.out.symm.trans h5).symm⟩
        case measure => simp [intOf]; omega
      · go_ret
        refine ⟨?_, hB3⟩
        have h1 : ¬ nameB f.name = true := by assumption
        have h3 : rightL l = false := right_no HF.out (by rw [HS.out]; simp [h1])
        rw [h3]; rfl
    · go_wp2
      go_ret
      have hlen : k = l.length := by omega
      have h2 := HF.out
      subst hlen
      rw [List.drop_length] at h2
      exact ⟨ret_bool (by unfold rightL; rw [← h2]; simp [rightFrom]; omega), hB⟩
end Go.Proofs.Ytdggnnbgiadgaaa
