/- The law's own words: Same, few, own. -/
import Derived.Test.YtdggnnbgiadgaaaAll
set_option linter.unusedVariables false
namespace Go.Proofs.Ytdggnnbgiadgaaa
open Go.RowKit
attribute [local go_sem high] eqFld_run

theorem ref06_Same (l m : List Fld) (A B : Option Addr) (c d : Nat) (w : World) (hr : RS FF w A l) (hs : RS FF w B m) (hl : l.length ≤ 60000) (hm : m.length ≤ 60000) (hlc : l.length ≤ c) (hmd : m.length ≤ d) :
    Calls Try.prog 14 #[.slice A l.length c, .slice B m.length d] w fun e w' => e = .returned (.bool (decide (l = m))) ∧ Below w.heap.size w w' := by
  by_cases hlen : l.length = m.length
  · have hb : ((l.length : Int) != (m.length : Int)) = false := by simp; omega
    have HL := Lib.hid hlen
    clear hlen
    go_enter Try.func14, Try.ntmps14
    go_wp2_with fail
    go_loopw [5] (fun i wr => ∃ k : Nat, k ≤ l.length ∧ i = .int .i64 k ∧ Below w.heap.size w wr ∧ Hid (l.take k = m.take k)) (fun i _ => l.length - (intOf i).toNat)
    case atStart => exact ⟨0, Nat.zero_le _, rfl, Below.refl _ _, rfl⟩
    case round =>
      obtain ⟨k, hk, rfl, hB, HF⟩ := hrel
      by_cases hlt : k < l.length
      · have hlt2 : k < m.length := by have := HL.out; omega
        obtain ⟨ad, f, rfl, hf, c0, c1, c2⟩ := (hr.below hB).fld hlt
        obtain ⟨ae, g, rfl, hg, d0, d1, d2⟩ := (hs.below hB).fld hlt2
        have Hf := Lib.hid hf
        have Hg := Lib.hid hg
        clear hf hg
        have e1 : (k : Int) < (l.length : Int) := by omega
        have e2 : (k : Int) < (m.length : Int) := by omega
        by_cases hfg : f = g
        · have hq : fldEq ⟨f.name, f.kind, f.long⟩ ⟨g.name, g.kind, g.long⟩ = true := (fldEq_iff f g).2 hfg
          have HN : Hid (l.take (k + 1) = m.take (k + 1)) := take_step HF.out Hf.out Hg.out hfg
          clear hfg
          go_wp2_with fail
          go_quiet (fail)
          go_wp2
          go_roundw
          case rel => exact ⟨k + 1, by omega, by go_num, below_drewN hB nq, HN⟩
          case measure => simp [intOf]; omega
        · have hq : fldEq ⟨f.name, f.kind, f.long⟩ ⟨g.name, g.kind, g.long⟩ = false := by rw [← Bool.not_eq_true]; exact fun h => hfg ((fldEq_iff f g).1 h)
          have HN : Hid (decide (l = m) = false) := decide_eq_false (take_ne Hf.out Hg.out hfg)
          clear hfg
          go_wp2_with fail
          go_quiet (fail)
          go_wp2
          go_ret
          exact ⟨by rw [HN.out]; rfl, below_drewN hB nq⟩
      · have HN : Hid (decide (l = m) = true) := decide_eq_true (by have := HF.out; have h2 := HL.out; rw [List.take_of_length_le (by omega), List.take_of_length_le (by omega)] at this; exact this)
        go_wp2
        go_ret
        exact ⟨by rw [HN.out]; rfl, hB⟩
  · have hb : ((l.length : Int) != (m.length : Int)) = true := by simp; omega
    have HN : Hid (decide (l = m) = false) := decide_eq_false (fun h => hlen (by rw [h]))
    clear hlen
    go_enter Try.func14, Try.ntmps14
    go_wp2_with fail
    go_ret
    exact ⟨by rw [HN.out]; rfl, Below.refl _ _⟩

/-! ### few -/
def nameSum (l : List Fld) : Nat := (l.map fun f => f.name.size).sum
def chSize (c : Ch) : Nat := c.name.size + (c.dst.name.size + (c.dflt.text.size + c.order.length))
def chSum (cs : List Ch) : Nat := (cs.map chSize).sum
def fewB (l : List Fld) (cs : List Ch) : Bool := decide (l.length ≤ 40) && (decide (cs.length ≤ 30) && decide (nameSum l + chSum cs ≤ 2000))
theorem sum_take {α : Type} {l : List α} {k : Nat} {x : α} (f : α → Nat) (h : l[k]? = some x) : ((l.take (k + 1)).map f).sum = ((l.take k).map f).sum + f x := by
  obtain ⟨h1, h2⟩ := List.getElem?_eq_some_iff.1 h
  rw [List.take_succ_eq_append_getElem h1, h2, List.map_append, List.sum_append]
  simp
theorem sum_le {α : Type} (f : α → Nat) (b : Nat) : ∀ (l : List α), (∀ x ∈ l, f x ≤ b) → (l.map f).sum ≤ l.length * b
  | [], _ => by simp
  | x :: l, h => by
    have h1 := h x (by simp)
    have h2 := sum_le f b l (fun y hy => h y (by simp [hy]))
    simp only [List.map_cons, List.sum_cons, List.length_cons, Nat.add_mul]
    omega
theorem mem_le_sum {α : Type} (f : α → Nat) : ∀ (l : List α) (x : α), x ∈ l → f x ≤ (l.map f).sum
  | y :: l, x, h => by
    simp only [List.map_cons, List.sum_cons]
    rcases List.mem_cons.1 h with rfl | h
    · omega
    · have := mem_le_sum f l x h; omega
theorem few_spec {l : List Fld} {cs : List Ch} (h : fewB l cs = true) : l.length ≤ 40 ∧ cs.length ≤ 30 ∧ ∀ c ∈ cs, c.order.length ≤ 2000 := by
  unfold fewB at h
  simp only [Bool.and_eq_true, decide_eq_true_eq] at h
  refine ⟨h.1, h.2.1, fun c hc => ?_⟩
  have := mem_le_sum chSize cs c hc
  have h3 := h.2.2
  unfold chSum at h3
  unfold chSize at this h3
  omega
structure Sized (l : List Fld) (cs : List Ch) : Prop where
  names : ∀ f ∈ l, f.name.size ≤ 140737488355328
  chs : ∀ c ∈ cs, c.name.size ≤ 140737488355328 ∧ c.dst.name.size ≤ 140737488355328 ∧ c.dflt.text.size ≤ 140737488355328 ∧ c.order.length ≤ 140737488355328
  l : l.length ≤ 140737488355328
  cs : cs.length ≤ 140737488355328

def FewI (l : List Fld) (k : Nat) (n : Int) : Prop := l.length ≤ 40 → n = (nameSum (l.take k) : Int)
def FewJ (l : List Fld) (cs : List Ch) (k : Nat) (n : Int) : Prop := l.length ≤ 40 → cs.length ≤ 30 → n = ((nameSum l + chSum (cs.take k) : Nat) : Int)
theorem fewI_next {l : List Fld} {k : Nat} {n : Int} {f : Fld} (h : FewI l k n) (hf : l[k]? = some f) (hs : ∀ f ∈ l, f.name.size ≤ 140737488355328) : FewI l (k + 1) (wrap64 (n + f.name.size)) := fun h40 => by
  have hk := (List.getElem?_eq_some_iff.1 hf).1
  have h1 := h h40
  have h2 : nameSum (l.take (k + 1)) = nameSum (l.take k) + f.name.size := sum_take _ hf
  have h3 : nameSum (l.take k) ≤ (l.take k).length * 140737488355328 := sum_le _ _ _ (fun x hx => hs x (List.mem_of_mem_take hx))
  have h4 := hs f (List.mem_of_getElem? hf)
  rw [List.length_take] at h3
  have h5 : nameSum (l.take k) ≤ 40 * 140737488355328 := Nat.le_trans h3 (Nat.mul_le_mul_right _ (by omega))
  rw [h2, h1]
  unfold wrap64
  omega
theorem fewJ_next {l : List Fld} {cs : List Ch} {k : Nat} {n : Int} {c : Ch} (h : FewJ l cs k n) (hc : cs[k]? = some c) (hs : Sized l cs) : FewJ l cs (k + 1) (wrap64 (n + (chSize c : Nat))) := fun h40 h30 => by
  have hk := (List.getElem?_eq_some_iff.1 hc).1
  have h1 := h h40 h30
  have h2 : chSum (cs.take (k + 1)) = chSum (cs.take k) + chSize c := sum_take _ hc
  have hb : ∀ x ∈ cs, chSize x ≤ 562949953421312 := fun x hx => by
    have := hs.chs x hx
    unfold chSize
    omega
  have h3 : chSum (cs.take k) ≤ (cs.take k).length * 562949953421312 := sum_le _ _ _ (fun x hx => hb x (List.mem_of_mem_take hx))
  have h4 := hb c (List.mem_of_getElem? hc)
  rw [List.length_take] at h3
  have h5 : chSum (cs.take k) ≤ 30 * 562949953421312 := Nat.le_trans h3 (Nat.mul_le_mul_right _ (by omega))
  have h6 : nameSum l ≤ l.length * 140737488355328 := sum_le _ _ _ hs.names
  have h7 : nameSum l ≤ 40 * 140737488355328 := Nat.le_trans h6 (Nat.mul_le_mul_right _ (by omega))
  rw [h2, h1]
  unfold wrap64
  omega

set_option maxRecDepth 100000 in
theorem law_few (l : List Fld) (cs : List Ch) (A C : Option Addr) (cl cc : Nat) (w : World) (hr : RS FF w A l) (hlc : l.length ≤ cl) (hcs : RC w C cs) (hcc : cs.length ≤ cc) (hs : Sized l cs) :
    Calls Try.prog 5 #[.slice A l.length cl, .slice C cs.length cc] w fun e w' => e = .returned (.bool (fewB l cs)) ∧ Below w.heap.size w w' := by
  have hl := hs.l
  have hc := hs.cs
  go_enter Try.func5, Try.ntmps5
  go_wp2_with fail
  go_loopw [5, 12] (fun s i wr => ∃ (k : Nat) (n : Int), k ≤ l.length ∧ i = .int .i64 k ∧ s = .int .i64 n ∧ Hid (FewI l k n) ∧ Below w.heap.size w wr) (fun _ i _ => l.length - (intOf i).toNat)
  case atStart => exact ⟨0, 0, Nat.zero_le _, rfl, rfl, fun _ => rfl, Below.refl _ _⟩
  case round =>
    obtain ⟨k, n, hk, rfl, rfl, HI, hB⟩ := hrel
    by_cases hlt : k < l.length
    · obtain ⟨ad, f, rfl, hf, c0, c1, c2⟩ := (hr.below hB).fld hlt
      have HN : Hid (FewI l (k + 1) (wrap64 (n + f.name.size))) := fewI_next HI.out hf hs.names
      clear hf
      go_wp2_with fail
      go_roundw
      case rel => exact ⟨k + 1, _, by omega, by go_num, rfl, HN, hB.alloc hB.size _⟩
      case measure => simp [intOf]; omega
    · have hk' : k = l.length := by omega
      subst hk'
      go_wp2_with fail
      have HI2 : Hid (FewJ l cs 0 n) := fun h40 _ => by
        have := HI.out h40
        rw [List.take_length] at this
        rw [this]
        simp [chSum]
      clear HI
      go_loopw [5, 24] (fun s i wr => ∃ (k : Nat) (n : Int), k ≤ cs.length ∧ i = .int .i64 k ∧ s = .int .i64 n ∧ Hid (FewJ l cs k n) ∧ Below w.heap.size w wr) (fun _ i _ => cs.length - (intOf i).toNat)
      case atStart => exact ⟨0, n, Nat.zero_le _, rfl, rfl, HI2, hB⟩
      case round =>
        clear HI2 hB hk hlt
        obtain ⟨k, n, hk, rfl, rfl, HI, hB⟩ := hrel
        by_cases hlt : k < cs.length
        · obtain ⟨ad, c, B, cp, rfl, hc, hcp, ho, q0, q1, q2, q3, q4, q5, q6, q7, q8⟩ := (hcs.below hB).at_ hlt
          obtain ⟨b1, b2, b3, b4⟩ := hs.chs c (List.mem_of_getElem? hc)
          have hn : (chSize c : Int) = c.name.size + c.dst.name.size + c.dflt.text.size + c.order.length := by unfold chSize; omega
          have hN := fewJ_next HI.out hc hs
          rw [hn] at hN
          have HN := Lib.hid hN
          clear hc hN hn ho
          go_wp2_with fail
          go_roundw
          case rel => exact ⟨k + 1, _, by omega, by go_num, rfl, HN, hB.alloc hB.size _⟩
          case measure => simp [intOf]; omega
        · have hk' : k = cs.length := by omega
          subst hk'
          by_cases h40 : l.length ≤ 40
          · by_cases h30 : cs.length ≤ 30
            · have HF : Hid (fewB l cs = decide (n ≤ 2000)) := by
                have h := HI.out h40 h30
                rw [List.take_length] at h
                unfold fewB
                rw [h, decide_eq_true h40, decide_eq_true h30]
                show (true && (true && _)) = _
                rw [Bool.true_and, Bool.true_and]
                exact decide_eq_decide.2 (by omega)
              go_wp2_with fail
              go_ret
              exact ⟨by rw [HF.out]; rfl, hB⟩
            · have HF : Hid (fewB l cs = false) := by unfold fewB; rw [decide_eq_false h30, Bool.false_and, Bool.and_false]; exact rfl
              have h30' : (30 : Int) < cs.length := by omega
              go_wp2_with fail
              go_ret
              exact ⟨by rw [HF.out]; rfl, hB⟩
          · have HF : Hid (fewB l cs = false) := by unfold fewB; rw [decide_eq_false h40]; exact rfl
            have h40' : (40 : Int) < l.length := by omega
            go_wp2_with fail
            go_ret
            exact ⟨by rw [HF.out]; rfl, hB⟩
end Go.Proofs.Ytdggnnbgiadgaaa
