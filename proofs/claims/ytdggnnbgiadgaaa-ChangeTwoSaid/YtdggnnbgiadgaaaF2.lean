/- field.Find, slices.Equal, slices.Clone at fields. -/
import Derived.Test.YtdggnnbgiadgaaaF1
set_option linter.unusedVariables false
namespace Go.Proofs.Ytdggnnbgiadgaaa
open Go.RowKit

theorem infoF : (Try.prog.info? 43).map (fun i => (i.zero, i.size, i.bytes)) = some (some (.agg #[(.string ⟨#[]⟩), (.int .i64 0), (.int .i64 0)]), FF.sz, 32) := by kernel_rfl

def nmEq (a b : ByteArray) : Bool := a.toList == b.toList
/-- The first place of a name; -1: there is none. -/
def findFrom (l : List Fld) (nm : ByteArray) (i : Nat) : Int :=
  match l with
  | [] => -1
  | f :: l => if nmEq f.name nm = true then (i : Int) else findFrom l nm (i + 1)
def findI (l : List Fld) (nm : ByteArray) : Int := findFrom l nm 0

theorem find1 (f : Fld) (nm : ByteArray) (p : Addr) (w : World) (hc : w.cell? p = some (.string nm)) :
    Calls Try.prog 58 #[.agg #[.string f.name, .int .i64 f.kind, .int .i64 f.long], .pointer (some p)] w fun e w' => e = .returned (.bool (nmEq f.name nm)) ∧ Below w.heap.size w w' := by
  have hl := World.block_lt_of_cell? w _ hc
  go_enter Try.func58, Try.ntmps58
  go_wp2
  go_ret
  exact ⟨rfl, (Below.refl _ _).alloc (Nat.le_refl _) _⟩

theorem find_step {l : List Fld} {k : Nat} {f : Fld} (hk : l[k]? = some f) (nm : ByteArray) : findFrom (l.drop k) nm k = if nmEq f.name nm = true then (k : Int) else findFrom (l.drop (k + 1)) nm (k + 1) := by
  have hlt : k < l.length := (List.getElem?_eq_some_iff.1 hk).1
  have he : l[k] = f := (List.getElem?_eq_some_iff.1 hk).2
  rw [List.drop_eq_getElem_cons hlt, he]; rfl

theorem indexFunc (l : List Fld) (A : Option Addr) (c : Nat) (nm : ByteArray) (p : Addr) (w : World) (hr : RS FF w A l) (hl : l.length ≤ 60000) (hlc : l.length ≤ c) (hc : w.cell? p = some (.string nm)) :
    Calls Try.prog 57 #[.slice A l.length c, .func (.func 58) #[] #[.pointer (some p)]] w fun e w' => e = .returned (.int .i64 (findI l nm)) ∧ Below w.heap.size w w' := by
  go_enter Try.func57, Try.ntmps57
  go_wp2_with fail
  go_loopw [5, 8] (fun _ i wr => ∃ k : Nat, k ≤ l.length ∧ i = .int .i64 k ∧ Below w.heap.size w wr ∧ Hid (findFrom (l.drop k) nm k = findI l nm)) (fun _ i _ => l.length - (intOf i).toNat)
  case atStart => exact ⟨0, Nat.zero_le _, rfl, Below.refl _ _, rfl⟩
  case round =>
    obtain ⟨k, hk, rfl, hB, HF⟩ := hrel
    by_cases hlt : k < l.length
    · obtain ⟨ad, f, rfl, hf, c0, c1, c2⟩ := (hr.below hB).fld hlt
      have hs := find_step hf nm
      have hcw := (hB.cell (World.block_lt_of_cell? w _ hc)).trans hc
      have Hf := Lib.hid hf
      clear hf
      cases hm : nmEq f.name nm with
      | true =>
        have HS := Lib.hid (hs.symm.trans HF.out)
        have HM := Lib.hid hm
        clear hs HF
        go_wp2_with (go_at_call 58; refine (find1 f nm p _ hcw).mono ?_; rintro e w1 ⟨rfl, hb⟩; rw [hm]; clear hm)
        go_ret
        exact ⟨by rw [← HS.out, if_pos HM.out]; rfl, hB.trans (hb.mono hB.size)⟩
      | false =>
        have HS := Lib.hid (hs.symm.trans HF.out)
        have HM := Lib.hid hm
        clear hs HF
        go_wp2_with (go_at_call 58; refine (find1 f nm p _ hcw).mono ?_; rintro e w1 ⟨rfl, hb⟩; rw [hm]; clear hm)
        go_roundw
        case rel => exact ⟨k + 1, by omega, by go_num, hB.trans (hb.mono hB.size), by have := HS.out; rw [if_neg (by rw [HM.out]; exact Bool.false_ne_true)] at this; exact this⟩
        case measure => simp [intOf]; omega
    · have hk' : k = l.length := by omega
      have HS : Hid (findI l nm = -1) := by
        have := HF.out
        rw [List.drop_eq_nil_of_le (by omega)] at this
        exact this.symm
      clear hk'
      go_wp2
      go_ret
      exact ⟨by rw [HS.out]; rfl, hB⟩

theorem field_Find (l : List Fld) (A : Option Addr) (c : Nat) (nm : ByteArray) (w : World) (hr : RS FF w A l) (hl : l.length ≤ 60000) (hlc : l.length ≤ c) :
    Calls Try.prog 34 #[.slice A l.length c, .string nm] w fun e w' => e = .returned (.int .i64 (findI l nm)) ∧ Below w.heap.size w w' := by
  have hr1 := hr.alloc (Obj.cells #[.string nm] 9)
  have hc1 : (w.alloc (Obj.cells #[.string nm] 9)).cell? ⟨w.heap.size, 0, none⟩ = some (.string nm) := by go_simp
  go_enter Try.func34, Try.ntmps34
  go_wp2_with (go_at_call 57; refine (indexFunc l A c nm _ _ hr1 hl hlc hc1).mono ?_; rintro e w1 ⟨rfl, hb⟩)
  go_ret
  exact ⟨rfl, ((Below.refl _ _).alloc (Nat.le_refl _) _).trans (hb.mono (by simp))⟩
end Go.Proofs.Ytdggnnbgiadgaaa
