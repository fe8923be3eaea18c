/- Plain: what one change behind another makes. -/
import Derived.Test.YtdggnnbgiadgaaaAll
set_option linter.unusedVariables false
namespace Go.Proofs.Ytdggnnbgiadgaaa
open Go.RowKit

theorem rightFrom_mem {all : List Fld} : ∀ {l : List Fld} {k : Nat} {f : Fld}, rightFrom all l k = true → f ∈ l → nameB f.name = true ∧ longI f.kind f.long ≠ 0
  | [], k, f, _, hf => by simp at hf
  | g :: l, k, f, h, hf => by
    simp only [rightFrom, Bool.and_eq_true] at h
    rcases List.mem_cons.1 hf with rfl | hf
    · have h2 := h.1.2.1
      exact ⟨h.1.1, by simpa using h2⟩
    · exact rightFrom_mem h.2 hf
theorem right_mem {l : List Fld} (h : rightL l = true) {f : Fld} (hf : f ∈ l) : nameB f.name = true ∧ longI f.kind f.long ≠ 0 := by
  unfold rightL at h
  simp only [Bool.and_eq_true] at h
  exact rightFrom_mem h.1 hf
theorem casts_self {x k : Int} (h : longI x k ≠ 0) : castsB x k x k = true := by
  unfold castsB
  rw [if_neg h, if_neg h, if_pos rfl]
theorem moves_of {old : List Fld} : ∀ {ms : List Mv} {fs : List Fld}, (∀ (k : Nat) (m : Mv) (f : Fld), ms[k]? = some m → fs[k]? = some f → moveOkB old m f = true) → movesB old ms fs = true
  | [], _, _ => by unfold movesB; rfl
  | m :: ms, [], _ => by unfold movesB; rfl
  | m :: ms, f :: fs, h => by
    unfold movesB
    rw [h 0 m f rfl rfl, moves_of (fun k m f h1 h2 => h (k + 1) m f (by simpa using h1) (by simpa using h2))]
    rfl
theorem mvs_get {n k : Nat} {m : Mv} (h : (mvs n)[k]? = some m) : m = ⟨(k : Int), Vl.zero⟩ ∧ k < n := by
  unfold mvs at h
  rw [List.getElem?_map] at h
  cases h2 : (List.range n)[k]? with
  | none => rw [h2] at h; simp at h
  | some x =>
    rw [h2] at h
    simp at h
    obtain ⟨h3, h4⟩ := List.getElem?_eq_some_iff.1 h2
    simp at h3 h4
    subst h4
    exact ⟨h.symm, h3⟩
theorem same_tab {l : List Fld} (h : rightL l = true) : tabB (sameT l) = true := by
  unfold sameT
  rw [if_pos h]
  unfold tabB
  dsimp only
  rw [h, mvs_length, decide_eq_true rfl]
  refine (Bool.true_and _).trans ((Bool.true_and _).trans ((Bool.true_and _).trans (moves_of fun k m f hm hf => ?_)))
  obtain ⟨rfl, hk⟩ := mvs_get hm
  unfold moveOkB
  dsimp only
  rw [if_neg (by omega)]
  have hc := casts_self (right_mem h (List.mem_of_getElem? hf)).2
  have e : l.getD (k : Int).toNat Fld.zero = f := by rw [Int.toNat_natCast]; simp [List.getD, hf]
  rw [e, hc, (vlEq_iff _ _).2 rfl]
  simp
  omega
theorem same_new {l : List Fld} (h : rightL l = true) : (sameT l).new = l ∧ (sameT l).old = l ∧ (sameT l).moves = mvs l.length := by unfold sameT; rw [if_pos h]; exact ⟨rfl, rfl, rfl⟩
theorem way_old {t : Tb} {c : Ch} {r : Tb × Int} (h : wayT t c = some r) : r.1.old = t.old := by
  unfold wayT at h
  have hn : ∀ (s : Tb → Ch → Nat → Tb × Int), (∀ k, (s t c k).1.old = t.old) → (namedT s t c).1.old = t.old := fun s hs => by unfold namedT; split; rfl; exact hs _
  split at h
  · cases h; unfold addsT; split <;> rfl
  split at h
  · cases h; exact hn _ fun k => rfl
  split at h
  · cases h; exact hn _ fun k => rfl
  split at h
  · cases h; exact hn _ fun k => by unfold recastsT; split <;> rfl
  split at h
  · cases h; unfold ordersT; split <;> rfl
  · cases h
theorem make_fine {l : List Fld} {c : Ch} {t : Tb} (h : makeT l c = (t, 0)) : rightL l = true ∧ tabB t = true ∧ t.old = l := by
  cases hR : rightL l with
  | false => rw [make_wrong hR] at h; simp at h
  | true =>
    cases hw : wayT (sameT l) c with
    | none => rw [make_no hR hw] at h; simp at h
    | some r =>
      rw [make_of hR hw] at h
      unfold afterT at h
      split at h
      · split at h
        · rename_i h1 h2
          simp at h
          subst h
          exact ⟨rfl, h2, (way_old hw).trans (same_new hR).2.1⟩
        · simp at h
      · rename_i h1
        simp at h
        exact absurd h.2 h1
theorem comp_same {l : List Fld} {t : Tb} (hR : rightL l = true) (ht : tabB t = true) (ho : t.old = l) : composeT (sameT l) t = (t, 0) := by
  obtain ⟨e1, e2, e3⟩ := same_new hR
  obtain ⟨h1, h2, h3⟩ := tab_facts ht
  have hm : compMs (sameT l) t = t.moves := by
    unfold compMs
    apply List.ext_getElem?
    intro k
    rw [List.getElem?_zipWith]
    cases hk : t.moves[k]? with
    | none => rfl
    | some m =>
      obtain ⟨hlt, _⟩ := List.getElem?_eq_some_iff.1 hk
      obtain ⟨f, hf⟩ : ∃ f, t.new[k]? = some f := ⟨_, List.getElem?_eq_getElem (by omega)⟩
      rw [hf]
      show some (compM (sameT l) t m f) = some m
      congr 1
      have hmo := h3 k m f hk hf
      unfold compM
      by_cases hs : 0 ≤ m.src
      · unfold moveOkB at hmo
        rw [if_neg (by omega)] at hmo
        simp only [Bool.and_eq_true, decide_eq_true_eq] at hmo
        obtain ⟨-, hlt2, hv, -⟩ := hmo
        have hv' := (vlEq_iff _ _).1 hv
        rw [if_pos hs, e3]
        have hg : (mvs l.length).getD m.src.toNat ⟨0, Vl.zero⟩ = ⟨(m.src.toNat : Int), Vl.zero⟩ := by
          have hlt3 : m.src.toNat < l.length := by rw [ho] at hlt2; omega
          obtain ⟨x, hx⟩ : ∃ x, (mvs l.length)[m.src.toNat]? = some x := ⟨_, List.getElem?_eq_getElem (by rw [mvs_length]; exact hlt3)⟩
          simp [List.getD, hx, (mvs_get hx).1]
        rw [hg]
        dsimp only
        rw [if_neg (by omega)]
        obtain ⟨src, d⟩ := m
        dsimp only at *
        rw [hv']
        congr 1
        omega
      · rw [if_neg hs]
  have hc : compT (sameT l) t = t := by
    unfold compT
    rw [hm, e2]
    obtain ⟨o, n, ms⟩ := t
    dsimp only at *
    rw [ho]
  unfold composeT
  rw [if_pos ⟨same_tab hR, ht, by rw [e1, ho]⟩, hc, if_pos ht]
theorem two_law {l : List Fld} {a b : Ch} {ma : Tb} (ha : makeT l a = (ma, 0)) :
    ((makeT ma.new b).2 ≠ 0 → (allT l [a, b]).2 = (makeT ma.new b).2) ∧ ((makeT ma.new b).2 = 0 → ((allT l [a, b]).2 = 0 ∧ (allT l [a, b]).1.new = (makeT ma.new b).1.new) ∨ (allT l [a, b]).2 = 70) := by
  obtain ⟨hR, ht, ho⟩ := make_fine ha
  have e1 : allT l [a, b] = allFrom ma [b] := by
    unfold allT
    rw [if_pos hR]
    conv => lhs; unfold allFrom
    rw [(same_new hR).1, ha]
    dsimp only
    rw [if_pos rfl, comp_same hR ht ho]
    dsimp only
    rw [if_pos rfl]
  rw [e1]
  obtain ⟨mb, eb, hb⟩ : ∃ mb eb, makeT ma.new b = (mb, eb) := ⟨_, _, rfl⟩
  rw [hb]
  dsimp only
  unfold allFrom
  rw [hb]
  dsimp only
  constructor
  · intro h
    rw [if_neg h]
  · intro h
    subst h
    rw [if_pos rfl]
    unfold composeT
    split
    · split
      · exact .inl ⟨rfl, rfl⟩
      · exact .inr (by simp)
    · exact .inr (by simp)
end Go.Proofs.Ytdggnnbgiadgaaa
