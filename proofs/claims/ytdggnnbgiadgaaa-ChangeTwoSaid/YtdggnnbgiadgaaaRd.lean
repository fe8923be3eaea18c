/- What the reading of the arguments as data gives. -/
import Derived.Test.YtdggnnbgiadgaaaLw2
import Derived.Deep.Slices
import Derived.Deep.Fields
import Derived.ChangeSame
import Derived.SizedLaws
set_option linter.unusedVariables false
namespace Go.Proofs.Ytdggnnbgiadgaaa
open Go.RowKit Go.ChangeShapes Go.WideShapes Go.Deep

section
variable {H : Type} {enc : TypeId × Value → H} {w : World} {base : Nat} {spare : Nat → Bool} {held : Bool} {fuel : Nat} {cs : List Value} {x : DataW H × List MemPlace}
def WOk (t : TypeId) (d : DataW H) : Prop := ∀ n ∈ d.weights Try.prog t, n ≤ reachBytes
theorem reach_le : reachBytes ≤ 140737488351232 := by decide
theorem rd_string {s : ByteArray} {t : TypeId} (h : WOk (H := H) t (.lit (.string s.data.toList))) : s.size ≤ 140737488351232 := by
  have := h s.data.toList.length (by simp [DataW.weights])
  have h2 := reach_le
  have h3 : s.data.toList.length = s.size := (Lib.size_eq s).symm
  omega
theorem wok_part {t : TypeId} {fs : Array Go.Field} {ds : List (DataW H)} (hu : Try.prog.underlying t = some (.struct fs)) (h : WOk (H := H) t (.agg ds)) {j : Nat} {f : Go.Field} {d : DataW H} (hf : fs[j]? = some f) (hd : ds[j]? = some d) : WOk f.type d := fun n hn =>
  h n (by
    simp only [DataW.weights, hu]
    exact DataW.weights_mem_each (ts := fs.toList.map (·.type)) (j := j) (t := f.type) (by rw [List.getElem?_map, Array.getElem?_toList, hf]; rfl) hd n hn)
theorem wok_elems {t e : TypeId} {es sp : List (DataW H)} (hu : Try.prog.underlying t = some (.slice e)) (h : WOk (H := H) t (.slice es sp)) : (es.length + sp.length) * Try.prog.bytesOf e ≤ reachBytes ∧ ∀ d ∈ es, WOk e d := by
  have hm : ∀ {l : List (DataW H)} {d : DataW H}, d ∈ l → ∀ n ∈ d.weights Try.prog e, n ∈ DataW.weightsAll Try.prog e l := by
    intro l
    induction l with
    | nil => intro d hd; simp at hd
    | cons y l ih =>
      intro d hd n hn
      simp only [DataW.weightsAll, List.mem_append]
      rcases List.mem_cons.1 hd with rfl | hd
      · exact .inl hn
      · exact .inr (ih hd n hn)
  refine ⟨h _ (by simp [DataW.weights, hu]), fun d hd n hn => h n ?_⟩
  simp only [DataW.weights, hu]
  exact List.mem_cons_of_mem _ (List.mem_append_left _ (hm hd n hn))

theorem choose_list {α : Type} (Q : Nat → α → Prop) : ∀ n : Nat, (∀ i, i < n → ∃ f, Q i f) → ∃ l : List α, l.length = n ∧ ∀ (i : Nat) (f : α), l[i]? = some f → Q i f
  | 0, _ => ⟨[], rfl, fun i f h => by simp at h⟩
  | n + 1, h => by
    obtain ⟨l, hl, hq⟩ := choose_list Q n fun i hi => h i (by omega)
    obtain ⟨f, hf⟩ := h n (by omega)
    refine ⟨l ++ [f], by simp [hl], fun i g hg => ?_⟩
    rcases Nat.lt_or_ge i l.length with hi | hi
    · rw [List.getElem?_append_left hi] at hg
      exact hq i g hg
    · rw [List.getElem?_append_right hi] at hg
      have h0 : i - l.length = 0 := by
        rcases Nat.eq_zero_or_pos (i - l.length) with h | h
        · exact h
        · rw [List.getElem?_eq_none (by simp; omega)] at hg; cases hg
      rw [h0] at hg
      simp at hg
      subst hg
      have : i = n := by omega
      rw [this]; exact hf
theorem rs_elems {α : Type} {F : Flat α} {w : World} {a : Addr} {l : List α} (hs : 0 < F.sz) (h : ∀ (i : Nat) (f : α), l[i]? = some f → ∀ j u, (F.enc f)[j]? = some u → w.cell? (a.add (i * F.sz + j)) = some u) : RS F w (some a) l := fun i u hu => by
  refine ⟨a, rfl, ?_⟩
  have e : i = i / F.sz * F.sz + i % F.sz := (Nat.div_add_mod' i F.sz).symm
  rw [e, F.cells_get l _ _ (Nat.mod_lt _ hs)] at hu
  cases hx : l[i / F.sz]? with
  | none => rw [hx] at hu; simp at hu
  | some f =>
    rw [hx] at hu
    rw [e]
    exact h _ f hx _ u hu
theorem cS : Try.prog.cellsOf 9 = 1 := by kernel_rfl
theorem cI : Try.prog.cellsOf 3 = 1 := by kernel_rfl
theorem cU : Try.prog.cellsOf 44 = 1 := by kernel_rfl
theorem cF : Try.prog.cellsOf 43 = 3 := by kernel_rfl
theorem cV : Try.prog.cellsOf 46 = 3 := by kernel_rfl
theorem cN : Try.prog.cellsOf 47 = 1 := by kernel_rfl
theorem cC : Try.prog.cellsOf 49 = 9 := by kernel_rfl
theorem list3 {α : Type} {l : List α} (h : l.length = 3) : ∃ a b c, l = [a, b, c] := by
  match l, h with
  | [a, b, c], _ => exact ⟨a, b, c, rfl⟩
theorem list5 {α : Type} {l : List α} (h : l.length = 5) : ∃ a b c d e, l = [a, b, c, d, e] := by
  match l, h with
  | [a, b, c, d, e], _ => exact ⟨a, b, c, d, e, rfl⟩
theorem list9 {α : Type} {l : List α} (h : l.length = 9) : ∃ a b c d e f g h i, l = [a, b, c, d, e, f, g, h, i] := by
  match l, h with
  | [a, b, c, d, e, f, g, h, i], _ => exact ⟨a, b, c, d, e, f, g, h, i, rfl⟩
theorem i64_wf {n : Int} (h : (Lit.int .i64 n).wf = true) : -9223372036854775808 ≤ n ∧ n ≤ 9223372036854775807 := by
  simp only [Lit.wf, Bool.and_eq_true, decide_eq_true_eq] at h
  exact h
theorem u64_wf {n : Int} (h : (Lit.int .u64 n).wf = true) : 0 ≤ n ∧ n ≤ 18446744073709551615 := by
  simp only [Lit.wf, Bool.and_eq_true, decide_eq_true_eq] at h
  exact h
theorem rd_fld (h : DataW.trod enc Try.prog w base spare held fuel 43 cs = some x) (hw : WOk 43 x.1) : ∃ f, cs = FF.enc f ∧ FldOk f := by
  obtain ⟨xs, n, rfl, hx, hp, hlen, hg⟩ := DataW.trod_struct Try.underlying43 h
  obtain ⟨y0, y1, y2, rfl⟩ := list3 hlen
  rw [cF] at hp
  obtain ⟨c0, c1, c2, rfl⟩ := list3 hp
  subst hx
  have g0 : DataW.trod enc Try.prog w base spare held n 9 (([c0, c1, c2].drop 0).take (Try.prog.cellsOf 9)) = some y0 := hg 0 _ rfl
  have g1 : DataW.trod enc Try.prog w base spare held n 3 (([c0, c1, c2].drop 1).take (Try.prog.cellsOf 3)) = some y1 := hg 1 _ rfl
  have g2 : DataW.trod enc Try.prog w base spare held n 3 (([c0, c1, c2].drop 2).take (Try.prog.cellsOf 3)) = some y2 := hg 2 _ rfl
  rw [cS] at g0
  rw [cI] at g1 g2
  obtain ⟨s, e0, z0, -⟩ := DataW.trod_string Try.underlying9 g0
  obtain ⟨k, e1, z1, w1⟩ := DataW.trod_int Try.underlying3 g1
  obtain ⟨l, e2, z2, w2⟩ := DataW.trod_int Try.underlying3 g2
  simp at e0 e1 e2
  subst e0 e1 e2
  refine ⟨⟨s, k, l⟩, rfl, ⟨?_, i64_wf w1, i64_wf w2⟩⟩
  have hw0 : WOk 9 y0.1 := by
    have := wok_part Try.underlying43 hw (j := 0) rfl rfl
    exact this
  rw [z0] at hw0
  have := rd_string hw0
  dsimp only
  omega
theorem rd_vl (h : DataW.trod enc Try.prog w base spare held fuel 46 cs = some x) (hw : WOk 46 x.1) : ∃ v, cs = FV.enc v ∧ VlOk v := by
  obtain ⟨xs, n, rfl, hx, hp, hlen, hg⟩ := DataW.trod_struct Try.underlying46 h
  obtain ⟨y0, y1, y2, rfl⟩ := list3 hlen
  rw [cV] at hp
  obtain ⟨c0, c1, c2, rfl⟩ := list3 hp
  subst hx
  have g0 : DataW.trod enc Try.prog w base spare held n 3 (([c0, c1, c2].drop 0).take (Try.prog.cellsOf 3)) = some y0 := hg 0 _ rfl
  have g1 : DataW.trod enc Try.prog w base spare held n 44 (([c0, c1, c2].drop 1).take (Try.prog.cellsOf 44)) = some y1 := hg 1 _ rfl
  have g2 : DataW.trod enc Try.prog w base spare held n 9 (([c0, c1, c2].drop 2).take (Try.prog.cellsOf 9)) = some y2 := hg 2 _ rfl
  rw [cI] at g0
  rw [cU] at g1
  rw [cS] at g2
  obtain ⟨k, e0, z0, w0⟩ := DataW.trod_int Try.underlying3 g0
  obtain ⟨b, e1, z1, w1⟩ := DataW.trod_int Try.underlying44 g1
  obtain ⟨s, e2, z2, -⟩ := DataW.trod_string Try.underlying9 g2
  simp at e0 e1 e2
  subst e0 e1 e2
  refine ⟨⟨k, b, s⟩, rfl, ⟨u64_wf w1, ?_, i64_wf w0⟩⟩
  have hw0 : WOk 9 y2.1 := by
    have := wok_part Try.underlying46 hw (j := 2) rfl rfl
    exact this
  rw [z2] at hw0
  have := rd_string hw0
  dsimp only
  omega
/-- A slice whose elements are flat. -/
theorem rd_flat {α : Type} (F : Flat α) {t e : TypeId} (hu : Try.prog.underlying t = some (.slice e)) (hc : Try.prog.cellsOf e = F.sz) (hs : 0 < F.sz) (Ok : α → Prop) (hr : ∀ {fuel : Nat} {cs : List Value} {x : DataW H × List MemPlace}, DataW.trod enc Try.prog w base spare held fuel e cs = some x → WOk e x.1 → ∃ f, cs = F.enc f ∧ Ok f)
    (h : DataW.trod enc Try.prog w base spare held fuel t cs = some x) (hw : WOk t x.1) :
    ∃ A l c, cs = [.slice A l.length c] ∧ l.length ≤ c ∧ RS F w A l ∧ (∀ f ∈ l, Ok f) ∧ l.length * Try.prog.bytesOf e ≤ 140737488351232 := by
  rcases open_slice hu h with ⟨rfl, hx⟩ | ⟨a, len, cap, m, n, D, Pl, rfl, hb, hl, hm, hmm, hx, hi⟩
  · exact ⟨none, [], 0, rfl, Nat.le_refl _, RS.nil, fun _ h => by simp at h, by simp⟩
  · rw [hx] at hw
    obtain ⟨hsz, hel⟩ := wok_elems hu hw
    have hlm : len ≤ m := by rw [hmm]; split <;> omega
    have hall : ∀ i, i < len → ∃ f, (∀ j u, (F.enc f)[j]? = some u → w.cell? (a.add (i * F.sz + j)) = some u) ∧ Ok f := fun i hi' => by
      obtain ⟨cs', hcs', ht⟩ := hi i (by omega)
      obtain ⟨f, rfl, hf⟩ := hr ht (hel _ (List.mem_map.2 ⟨i, List.mem_range.2 hi', rfl⟩))
      refine ⟨f, fun j u hj => ?_, hf⟩
      obtain ⟨-, hlen, hget⟩ := World.cells?_some hcs'
      rw [hc] at hlen hget
      have hj' : j < F.sz := by
        rcases Nat.lt_or_ge j F.sz with h | h
        · exact h
        · rw [List.getElem?_eq_none (by omega)] at hj; cases hj
      rw [← Go.Deep.add_add, hget j hj', hj]
    obtain ⟨l, rfl, hl'⟩ := choose_list _ len hall
    refine ⟨some a, l, cap, rfl, hl, rs_elems hs fun i f hf => (hl' i f hf).1, fun f hf => ?_, ?_⟩
    · obtain ⟨i, hi'⟩ := List.mem_iff_getElem?.1 hf
      exact (hl' i f hi').2
    · simp only [List.length_map, List.length_range] at hsz
      have h1 := Nat.mul_le_mul_right (Try.prog.bytesOf e) (Nat.le_add_right l.length (m - l.length))
      have := reach_le
      omega
theorem rd_int (h : DataW.trod enc Try.prog w base spare held fuel 3 cs = some x) (hw : WOk 3 x.1) : ∃ n, cs = FI.enc n ∧ (-9223372036854775808 ≤ n ∧ n ≤ 9223372036854775807) := by
  obtain ⟨k, e1, z1, w1⟩ := DataW.trod_int Try.underlying3 h
  exact ⟨k, e1, i64_wf w1⟩
structure ChRaw (w : World) (c : Ch) (B : Option Addr) (cp : Nat) : Prop where
  cp : c.order.length ≤ cp
  rd : RS FI w B c.order
  dst : FldOk c.dst
  dflt : VlOk c.dflt
  name : c.name.size ≤ 140737488351232
  ints : ∀ n ∈ c.order, -9223372036854775808 ≤ n ∧ n ≤ 9223372036854775807
  len : c.order.length ≤ 140737488351232
theorem ChRaw.ok {w : World} {c : Ch} {B : Option Addr} {cp : Nat} (h : ChRaw w c B cp) (hl : c.order.length ≤ 50000) : ChOk c := ⟨h.dst, h.dflt, by have := h.name; omega, hl, h.ints⟩
theorem rd_ch (h : DataW.trod enc Try.prog w base spare held fuel 49 cs = some x) (hw : WOk 49 x.1) : ∃ y : Ch × Option Addr × Nat, cs = FC.enc y ∧ ChRaw w y.1 y.2.1 y.2.2 := by
  obtain ⟨xs, n, rfl, hx, hp, hlen, hg⟩ := DataW.trod_struct Try.underlying49 h
  obtain ⟨y0, y1, y2, y3, y4, rfl⟩ := list5 hlen
  rw [cC] at hp
  obtain ⟨c0, c1, c2, c3, c4, c5, c6, c7, c8, rfl⟩ := list9 hp
  subst hx
  have g0 : DataW.trod enc Try.prog w base spare held n 3 (([c0, c1, c2, c3, c4, c5, c6, c7, c8].drop 0).take (Try.prog.cellsOf 3)) = some y0 := hg 0 _ rfl
  have g1 : DataW.trod enc Try.prog w base spare held n 9 (([c0, c1, c2, c3, c4, c5, c6, c7, c8].drop 1).take (Try.prog.cellsOf 9)) = some y1 := hg 1 _ rfl
  have g2 : DataW.trod enc Try.prog w base spare held n 43 (([c0, c1, c2, c3, c4, c5, c6, c7, c8].drop 2).take (Try.prog.cellsOf 43)) = some y2 := hg 2 _ rfl
  have g3 : DataW.trod enc Try.prog w base spare held n 46 (([c0, c1, c2, c3, c4, c5, c6, c7, c8].drop 5).take (Try.prog.cellsOf 46)) = some y3 := hg 3 _ rfl
  have g4 : DataW.trod enc Try.prog w base spare held n 47 (([c0, c1, c2, c3, c4, c5, c6, c7, c8].drop 8).take (Try.prog.cellsOf 47)) = some y4 := hg 4 _ rfl
  rw [cI] at g0
  rw [cS] at g1
  rw [cF] at g2
  rw [cV] at g3
  rw [cN] at g4
  have hw1 : WOk 9 y1.1 := by
    have := wok_part Try.underlying49 hw (j := 1) rfl rfl
    exact this
  have hw2 : WOk 43 y2.1 := by
    have := wok_part Try.underlying49 hw (j := 2) rfl rfl
    exact this
  have hw3 : WOk 46 y3.1 := by
    have := wok_part Try.underlying49 hw (j := 3) rfl rfl
    exact this
  have hw4 : WOk 47 y4.1 := by
    have := wok_part Try.underlying49 hw (j := 4) rfl rfl
    exact this
  obtain ⟨k, e0, z0, w0⟩ := DataW.trod_int Try.underlying3 g0
  obtain ⟨s, e1, z1, -⟩ := DataW.trod_string Try.underlying9 g1
  obtain ⟨f, e2, hf⟩ := rd_fld g2 hw2
  obtain ⟨v, e3, hv⟩ := rd_vl g3 hw3
  obtain ⟨B, l, c, e4, hl, hr, hi, hb⟩ := rd_flat FI Try.underlying47 (by rw [cI]; rfl) (by decide) _ (fun h1 h2 => rd_int h1 h2) g4 hw4
  simp [FF, FV] at e0 e1 e2 e3 e4
  obtain ⟨rfl, rfl, rfl⟩ := e2
  obtain ⟨rfl, rfl, rfl⟩ := e3
  subst e0 e1 e4
  rw [z1] at hw1
  have hbo : Try.prog.bytesOf 3 = 8 := by kernel_rfl
  rw [hbo] at hb
  refine ⟨(⟨k, s, f, v, l⟩, B, c), rfl, ⟨hl, hr, hf, hv, rd_string hw1, hi, ?_⟩⟩
  dsimp only
  omega
theorem rd_flds (h : DataW.trod enc Try.prog w base spare held fuel 22 cs = some x) (hw : WOk 22 x.1) : ∃ A l c, cs = [.slice A l.length c] ∧ l.length ≤ c ∧ RS FF w A l ∧ (∀ f ∈ l, FldOk f) ∧ l.length ≤ 140737488351232 := by
  obtain ⟨A, l, c, e4, hl, hr, hi, hb⟩ := rd_flat FF Try.underlying22 (by rw [cF]; rfl) (by decide) _ (fun h1 h2 => rd_fld h1 h2) h hw
  have hbo : Try.prog.bytesOf 43 = 32 := by kernel_rfl
  rw [hbo] at hb
  exact ⟨A, l, c, e4, hl, hr, hi, by omega⟩
theorem rd_chs (h : DataW.trod enc Try.prog w base spare held fuel 23 cs = some x) (hw : WOk 23 x.1) : ∃ A l c, cs = [.slice A l.length c] ∧ l.length ≤ c ∧ RC w A l ∧ (∀ f ∈ l, ∃ B cp, ChRaw w f B cp) ∧ l.length ≤ 140737488351232 := by
  obtain ⟨A, l, c, e4, hl, hr, hi, hb⟩ := rd_flat FC Try.underlying23 (by rw [cC]; rfl) (by decide) _ (fun h1 h2 => rd_ch h1 h2) h hw
  have hbo : Try.prog.bytesOf 49 = 112 := by kernel_rfl
  rw [hbo] at hb
  refine ⟨A, l.map (·.1), c, by rw [List.length_map]; exact e4, by rw [List.length_map]; exact hl, rc_of hr (fun x hx => ⟨(hi x hx).cp, (hi x hx).rd⟩) (Below.refl _ _), fun f hf => ?_, by rw [List.length_map]; omega⟩
  obtain ⟨y, hy, rfl⟩ := List.mem_map.1 hf
  exact ⟨_, _, hi y hy⟩
end
end Go.Proofs.Ytdggnnbgiadgaaa
