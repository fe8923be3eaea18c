/- slices.Equal, slices.Clone at fields; field.Right. -/
import Derived.Test.YtdggnnbgiadgaaaEq
set_option linter.unusedVariables false
namespace Go.Proofs.Ytdggnnbgiadgaaa
open Go.RowKit
attribute [local go_sem high] eqFld_run

theorem take_step {α : Type} {l m : List α} {k : Nat} {f g : α} (h : l.take k = m.take k) (hf : l[k]? = some f) (hg : m[k]? = some g) (e : f = g) : l.take (k + 1) = m.take (k + 1) := by
  rw [List.take_add_one, List.take_add_one, h, hf, hg, e]
theorem take_ne {α : Type} {l m : List α} {k : Nat} {f g : α} (hf : l[k]? = some f) (hg : m[k]? = some g) (e : f ≠ g) : l ≠ m := by
  rintro rfl; rw [hf] at hg; exact e (Option.some.inj hg)

theorem slices_Equal (l m : List Fld) (A B : Option Addr) (c d : Nat) (w : World) (hr : RS FF w A l) (hs : RS FF w B m) (hl : l.length ≤ 60000) (hm : m.length ≤ 60000) (hlc : l.length ≤ c) (hmd : m.length ≤ d) :
    Calls Try.prog 36 #[.slice A l.length c, .slice B m.length d] w fun e w' => e = .returned (.bool (decide (l = m))) ∧ Below w.heap.size w w' := by
  by_cases hlen : l.length = m.length
  · have hb : ((l.length : Int) != (m.length : Int)) = false := by simp; omega
    have HL := Lib.hid hlen
    clear hlen
    go_enter Try.func36, Try.ntmps36
    go_wp2_with fail
    go_loopw [5, 13] (fun _ i wr => ∃ k : Nat, k ≤ l.length ∧ i = .int .i64 k ∧ Below w.heap.size w wr ∧ Hid (l.take k = m.take k)) (fun _ i _ => l.length - (intOf i).toNat)
    case atStart => exact ⟨0, Nat.zero_le _, rfl, Below.refl _ _, rfl⟩
    case round =>
      obtain ⟨k, hk, rfl, hB, HF⟩ := hrel
      by_cases hlt : k < l.length
      · have hlt2 : k < m.length := by have := HL.out; omega
        obtain ⟨ad, f, rfl, hf, c0, c1, c2⟩ := (hr.below hB).fld hlt
        obtain ⟨ae, g, rfl, hg, d0, d1, d2⟩ := (hs.below hB).fld hlt2
        have Hf := Lib.hid hf
        have Hg := Lib.hid hg
        clear hf hg
        have e1 : (k : Int) < (l.length : Int) := by omega
        have e2 : (k : Int) < (m.length : Int) := by omega
        by_cases hfg : f = g
        · have hq : fldEq ⟨f.name, f.kind, f.long⟩ ⟨g.name, g.kind, g.long⟩ = true := (fldEq_iff f g).2 hfg
          have HN : Hid (l.take (k + 1) = m.take (k + 1)) := take_step HF.out Hf.out Hg.out hfg
          clear hfg
          go_wp2_with fail
          go_quiet (fail)
          go_wp2
          go_roundw
          case rel => exact ⟨k + 1, by omega, by go_num, below_drewN hB nq, HN⟩
          case measure => simp [intOf]; omega
        · have hq : fldEq ⟨f.name, f.kind, f.long⟩ ⟨g.name, g.kind, g.long⟩ = false := by rw [← Bool.not_eq_true]; exact fun h => hfg ((fldEq_iff f g).1 h)
          have HN : Hid (decide (l = m) = false) := decide_eq_false (take_ne Hf.out Hg.out hfg)
          clear hfg
          go_wp2_with fail
          go_quiet (fail)
          go_wp2
          go_ret
          exact ⟨by rw [HN.out]; rfl, below_drewN hB nq⟩
      · have HN : Hid (decide (l = m) = true) := decide_eq_true (by have := HF.out; have h2 := HL.out; rw [List.take_of_length_le (by omega), List.take_of_length_le (by omega)] at this; exact this)
        go_wp2
        go_ret
        exact ⟨by rw [HN.out]; rfl, hB⟩
  · have hb : ((l.length : Int) != (m.length : Int)) = true := by simp; omega
    have HN : Hid (decide (l = m) = false) := decide_eq_false (fun h => hlen (by rw [h]))
    clear hlen
    go_enter Try.func36, Try.ntmps36
    go_wp2_with fail
    go_ret
    exact ⟨by rw [HN.out]; rfl, Below.refl _ _⟩

theorem own_empty {α : Type} (F : Flat α) (e : TypeId) (w : World) (base : Nat) (hb : base ≤ w.heap.size) : Own F e (w.alloc (.cells #[] e)) base (.slice (some ⟨w.heap.size, 0, none⟩) 0 0) [] :=
  ⟨by simp [Flat.cells], .inr ⟨w.heap.size, 0, #[], rfl, hb, heap_alloc_new w _, Nat.le_refl _, Nat.zero_le _, by simp, by simp [Flat.cells]⟩⟩

/-- A row of one's own is handed back. -/
def RetOwn {α : Type} (F : Flat α) (t : TypeId) (w : World) (l : List α) (e : Ending) (w' : World) : Prop := ∃ v, e = .returned v ∧ Own F t w' w.heap.size v l ∧ Below w.heap.size w w'

theorem slices_Clone (l : List Fld) (A : Option Addr) (c : Nat) (w : World) (hr : RS FF w A l) (hl : l.length ≤ 50000) (hlc : l.length ≤ c) :
    Calls Try.prog 35 #[.slice A l.length c] w (RetOwn FF 43 w l) := by
  cases A with
  | none =>
    have h0 : l = [] := by
      cases l with
      | nil => rfl
      | cons f l => obtain ⟨ad, h, _⟩ := hr 0 _ (by simp [Flat.cells, FF]; rfl); cases h
    subst h0
    have hnil := fun (a : Option Addr) (n c : Nat) (w : World) => Lib.run_eql_slice_nil (P := Try.prog) w 22 43 a n c 0 0 Try.underlying22
    go_enter Try.func35, Try.ntmps35
    go_wp2_with fail
    go_ret
    exact ⟨_, rfl, Own.nil _ _ _ _, Below.refl _ _⟩
  | some ad =>
    have hnil := fun (a : Option Addr) (n c : Nat) (w : World) => Lib.run_eql_slice_nil (P := Try.prog) w 22 43 a n c 0 0 Try.underlying22
    go_enter Try.func35, Try.ntmps35
    go_wp2_with (at_builtin; refine wp_append_row FF w.heap.size rfl (.tmp 5) (.tmp 6) 22 43 _ 32 rfl Try.underlying22 infoF rfl (by decide) (.slice (some ⟨w.heap.size, 0, none⟩) 0 0) [] l ad c rfl rfl (own_empty _ _ _ _ (Nat.le_refl _)) (hr.alloc _) (by simp) (by simp; omega) (by omega) ?_; intro v1 w1 ho hg hat hn)
    go_ret
    refine ⟨_, rfl, by simpa using ho, ((Below.refl _ _).alloc (Nat.le_refl _) _).grown hg (by simp) (fun k hk => by simp [Value.ownBlock] at hk; omega)⟩
end Go.Proofs.Ytdggnnbgiadgaaa
