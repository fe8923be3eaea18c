/- slices.Clone and slices.Sort at []int. -/
import Derived.Test.YtdggnnbgiadgaaaCh2
import Derived.Sort.OwnSortedInts
import Derived.Shelf.Sort.Plain
import Derived.Shelf.Slices.In.SortNone
import Derived.Test.YtdggnnbgiadgaaaShelf
set_option linter.unusedVariables false
namespace Go.Proofs.Ytdggnnbgiadgaaa
open Go.RowKit

theorem clone_ints (l : List Int) (A : Option Addr) (c : Nat) (w : World) (hr : RS FI w A l) (hl : l.length ≤ 50000) (hlc : l.length ≤ c) :
    Calls Try.prog 54 #[.slice A l.length c] w (RetOwn FI 3 w l) := by
  cases A with
  | none =>
    have h0 : l = [] := by
      cases l with
      | nil => rfl
      | cons f l => obtain ⟨ad, h, _⟩ := hr 0 _ (by simp [Flat.cells, FI]; rfl); cases h
    subst h0
    have hnil := fun (a : Option Addr) (n c : Nat) (w : World) => Lib.run_eql_slice_nil (P := Try.prog) w 47 3 a n c 0 0 Try.underlying47
    go_enter Try.func54, Try.ntmps54
    go_wp2_with fail
    go_ret
    exact ⟨_, rfl, Own.nil _ _ _ _, Below.refl _ _⟩
  | some ad =>
    have hnil := fun (a : Option Addr) (n c : Nat) (w : World) => Lib.run_eql_slice_nil (P := Try.prog) w 47 3 a n c 0 0 Try.underlying47
    go_enter Try.func54, Try.ntmps54
    go_wp2_with (at_builtin; refine wp_append_row FI w.heap.size rfl (.tmp 5) (.tmp 6) 47 3 _ 8 rfl Try.underlying47 infoI rfl (by decide) (.slice (some ⟨w.heap.size, 0, none⟩) 0 0) [] l ad c rfl rfl (own_empty _ _ _ _ (Nat.le_refl _)) (hr.alloc _) (by simp) (by simp; omega) (by omega) ?_; intro v1 w1 ho hg hat hn)
    go_ret
    refine ⟨_, rfl, by simpa using ho, ((Below.refl _ _).alloc (Nat.le_refl _) _).grown hg (by simp) (fun k hk => by simp [Value.ownBlock] at hk; omega)⟩

def sorted (l : List Int) : List Int := l.mergeSort fun x y => decide (x ≤ y)
theorem sorted_length (l : List Int) : (sorted l).length = l.length := by simp [sorted]
theorem cells_ints (l : List Int) : FI.cells l = l.map (Value.int .i64) := by
  induction l with
  | nil => rfl
  | cons x l ih => rw [FI.cells_cons, ih]; rfl
theorem sort_ints (l : List Int) (A : Option Addr) (c base : Nat) (w : World) (ho : Own FI 3 w base (.slice A l.length c) l) (hl : l.length ≤ 60000) :
    Calls Try.prog 55 #[.slice A l.length c] w fun e w' => e = .returned (.tuple #[]) ∧ Own FI 3 w' base (.slice A l.length c) (sorted l) ∧ w.grownBy w' (Value.slice A l.length c).ownBlock := by
  rcases ho.2 with ⟨h, hn⟩ | ⟨g, cap, cur, h, hg, hb, h1, h2, h3, h4⟩
  · have h0 : l = [] := List.eq_nil_of_length_eq_zero hn
    subst h0
    refine (Try.slices_Sort_int_none _ _ _).mono ?_
    rintro e w' ⟨rfl, rfl⟩
    refine ⟨rfl, ?_, grown_of_below (Below.refl _ _) _⟩
    rw [show sorted [] = ([] : List Int) from List.eq_nil_of_length_eq_zero (sorted_length [])]
    exact ho
  · cases h
    refine (Try.slices_Sort_int g 0 c l w (holds_of_blockI hb (by rw [← cells_ints]; simpa [FI] using h4)) (Array.getElem?_eq_some_iff.1 hb).1 (by omega)).mono ?_
    rintro e w' ⟨rfl, n, os, rfl⟩
    refine ⟨rfl, ?_, grownBy_sortedI _⟩
    have h9 := ownsRow_sortedI (w := w) (n := n) (os := os) (ss := l) (ts := sorted l) (sorted_length l) hg hb h1 h2 h3
    unfold Own
    rw [cells_ints, sorted_length]
    exact h9
end Go.Proofs.Ytdggnnbgiadgaaa
