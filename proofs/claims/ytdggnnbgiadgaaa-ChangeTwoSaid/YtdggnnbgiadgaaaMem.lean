/- Memory words: rows of flat things (structs of one-cell fields), read and owned. -/
import Derived.Test.YtdggnnbgiadgaaaBase
namespace Go.Proofs.Ytdggnnbgiadgaaa
open Go.RowKit

/-- How a thing of fixed size lies in cells. -/
structure Flat (α : Type) where
  enc : α → List Value
  sz : Nat
  len : ∀ x, (enc x).length = sz
  one : ∀ x, ∀ u ∈ enc x, u.oneCell' = true

structure Fld where
  name : ByteArray
  kind : Int
  long : Int
  deriving DecidableEq
structure Vl where
  kind : Int
  bits : Int
  text : ByteArray
  deriving DecidableEq
structure Mv where
  src : Int
  dflt : Vl
  deriving DecidableEq
def Fld.zero : Fld := ⟨⟨#[]⟩, 0, 0⟩
def Vl.zero : Vl := ⟨0, 0, ⟨#[]⟩⟩

def FF : Flat Fld where
  enc f := [.string f.name, .int .i64 f.kind, .int .i64 f.long]
  sz := 3
  len _ := rfl
  one f u hu := by simp at hu; rcases hu with rfl | rfl | rfl <;> rfl
def FV : Flat Vl where
  enc v := [.int .i64 v.kind, .int .u64 v.bits, .string v.text]
  sz := 3
  len _ := rfl
  one f u hu := by simp at hu; rcases hu with rfl | rfl | rfl <;> rfl
def FM : Flat Mv where
  enc m := [.int .i64 m.src, .int .i64 m.dflt.kind, .int .u64 m.dflt.bits, .string m.dflt.text]
  sz := 4
  len _ := rfl
  one f u hu := by simp at hu; rcases hu with rfl | rfl | rfl | rfl <;> rfl
def FI : Flat Int where
  enc n := [.int .i64 n]
  sz := 1
  len _ := rfl
  one f u hu := by simp at hu; rcases hu with rfl; rfl
def FB : Flat UInt8 where
  enc n := [.int .u8 n.toNat]
  sz := 1
  len _ := rfl
  one f u hu := by simp at hu; rcases hu with rfl; rfl

/-! ### Plain facts on the cells of a list -/
section
variable {α : Type} (F : Flat α)
def Flat.cells (xs : List α) : List Value := xs.flatMap F.enc
theorem Flat.cells_nil : F.cells [] = [] := rfl
theorem Flat.cells_cons (x : α) (xs : List α) : F.cells (x :: xs) = F.enc x ++ F.cells xs := rfl
theorem Flat.cells_append (xs ys : List α) : F.cells (xs ++ ys) = F.cells xs ++ F.cells ys := by simp [Flat.cells]
theorem Flat.cells_one (x : α) : F.cells [x] = F.enc x := by simp [Flat.cells]
theorem Flat.cells_length (xs : List α) : (F.cells xs).length = xs.length * F.sz := by
  induction xs with
  | nil => simp [Flat.cells]
  | cons x xs ih => rw [F.cells_cons, List.length_append, ih, F.len, List.length_cons, Nat.add_mul]; omega
theorem Flat.cells_get (xs : List α) (k j : Nat) (hj : j < F.sz) : (F.cells xs)[k * F.sz + j]? = (xs[k]?).bind fun x => (F.enc x)[j]? := by
  induction xs generalizing k with
  | nil => simp [Flat.cells]
  | cons x xs ih =>
    rw [F.cells_cons]
    cases k with
    | zero =>
      rw [List.getElem?_append_left (by rw [F.len]; omega)]
      simp
    | succ k =>
      rw [List.getElem?_append_right (by rw [F.len, Nat.add_mul]; omega), F.len]
      rw [show (k + 1) * F.sz + j - F.sz = k * F.sz + j from by rw [Nat.add_mul]; omega, ih]
      simp
theorem Flat.cells_one_cell (xs : List α) : ∀ u ∈ F.cells xs, u.oneCell' = true := by
  intro u hu
  simp only [Flat.cells, List.mem_flatMap] at hu
  obtain ⟨x, _, hx⟩ := hu
  exact F.one x u hx
theorem Flat.cells_take (xs : List α) (n : Nat) : F.cells (xs.take n) = (F.cells xs).take (n * F.sz) := by
  induction xs generalizing n with
  | nil => simp [Flat.cells]
  | cons x xs ih =>
    cases n with
    | zero => simp [Flat.cells]
    | succ n =>
      rw [List.take_succ_cons, F.cells_cons, F.cells_cons, ih, List.take_append, F.len]
      rw [List.take_of_length_le (l := F.enc x) (by rw [F.len, Nat.add_mul]; omega), show (n + 1) * F.sz - F.sz = n * F.sz from by rw [Nat.add_mul]; omega]
theorem Flat.cells_drop (xs : List α) (n : Nat) : F.cells (xs.drop n) = (F.cells xs).drop (n * F.sz) := by
  induction xs generalizing n with
  | nil => simp [Flat.cells]
  | cons x xs ih =>
    cases n with
    | zero => simp
    | succ n =>
      rw [List.drop_succ_cons, F.cells_cons, ih, List.drop_append, F.len]
      rw [List.drop_of_length_le (l := F.enc x) (by rw [F.len, Nat.add_mul]; omega), show (n + 1) * F.sz - F.sz = n * F.sz from by rw [Nat.add_mul]; omega]
      simp
end

/-! ### A row that is read -/
section
variable {α : Type} {F : Flat α} {w w1 : World} {A : Option Addr} {xs ys : List α}
def RS (F : Flat α) (w : World) (A : Option Addr) (xs : List α) : Prop := ∀ i u, (F.cells xs)[i]? = some u → ∃ ad, A = some ad ∧ w.cell? (ad.add i) = some u
theorem RS.nil : RS F w A [] := fun i u h => by simp [Flat.cells] at h
theorem RS.below (h : RS F w A xs) (hb : Below w.heap.size w w1) : RS F w1 A xs := fun i u hi => by
  obtain ⟨ad, e, hc⟩ := h i u hi
  exact ⟨ad, e, (hb.cell (World.block_lt_of_cell? w _ hc)).trans hc⟩
theorem RS.drew (h : RS F w A xs) : RS F w.drew A xs := h
theorem RS.drewN (h : RS F w A xs) (n : Nat) : RS F (w.drewN n) A xs := h
theorem RS.alloc (h : RS F w A xs) (o : Obj) : RS F (w.alloc o) A xs := h.below ((Below.refl _ _).alloc (Nat.le_refl _) o)
theorem RS.at_ (h : RS F w A xs) {k : Nat} (hk : k < xs.length) (hs : 0 < F.sz) : ∃ ad x, A = some ad ∧ xs[k]? = some x ∧ ∀ j u, (F.enc x)[j]? = some u → w.cell? (ad.add (k * F.sz + j)) = some u := by
  have hx : xs[k]? = some xs[k] := List.getElem?_eq_getElem hk
  have hg : ∀ j, j < F.sz → (F.cells xs)[k * F.sz + j]? = (F.enc xs[k])[j]? := fun j hj => by rw [F.cells_get xs k j hj, hx]; rfl
  have h0 : (F.enc xs[k])[0]? = some ((F.enc xs[k])[0]'(by rw [F.len]; exact hs)) := List.getElem?_eq_getElem _
  obtain ⟨ad, e, _⟩ := h (k * F.sz + 0) _ ((hg 0 hs).trans h0)
  refine ⟨ad, xs[k], e, hx, fun j u hu => ?_⟩
  have hj : j < F.sz := by
    rcases Nat.lt_or_ge j F.sz with hlt | hge
    · exact hlt
    · rw [List.getElem?_eq_none (by rw [F.len]; exact hge)] at hu; cases hu
  obtain ⟨ad', e', hc⟩ := h _ u ((hg j hj).trans hu)
  rw [e] at e'
  cases e'
  exact hc
end
theorem fieldAt (a : Addr) (n j : Nat) (hj : j ≠ 0) : a.add (n + j) = ⟨(a.add n).block, (a.add n).off + j, none⟩ := by
  unfold Addr.add
  by_cases hn : n = 0
  · subst hn; simp [hj]
  · simp [hn, hj]; omega
section
variable {w : World} {A : Option Addr} {k : Nat}
theorem RS.fld {xs : List Fld} (h : RS FF w A xs) (hk : k < xs.length) : ∃ ad f, A = some ad ∧ xs[k]? = some f ∧ w.cell? (ad.add (k * 3)) = some (.string f.name) ∧
    w.cell? ⟨(ad.add (k * 3)).block, (ad.add (k * 3)).off + 1, none⟩ = some (.int .i64 f.kind) ∧ w.cell? ⟨(ad.add (k * 3)).block, (ad.add (k * 3)).off + 2, none⟩ = some (.int .i64 f.long) := by
  obtain ⟨ad, f, e, hx, hc⟩ := h.at_ hk (by decide)
  exact ⟨ad, f, e, hx, hc 0 _ rfl, by rw [← fieldAt _ _ 1 (by omega)]; exact hc 1 _ rfl, by rw [← fieldAt _ _ 2 (by omega)]; exact hc 2 _ rfl⟩
theorem RS.vl {xs : List Vl} (h : RS FV w A xs) (hk : k < xs.length) : ∃ ad v, A = some ad ∧ xs[k]? = some v ∧ w.cell? (ad.add (k * 3)) = some (.int .i64 v.kind) ∧
    w.cell? ⟨(ad.add (k * 3)).block, (ad.add (k * 3)).off + 1, none⟩ = some (.int .u64 v.bits) ∧ w.cell? ⟨(ad.add (k * 3)).block, (ad.add (k * 3)).off + 2, none⟩ = some (.string v.text) := by
  obtain ⟨ad, f, e, hx, hc⟩ := h.at_ hk (by decide)
  exact ⟨ad, f, e, hx, hc 0 _ rfl, by rw [← fieldAt _ _ 1 (by omega)]; exact hc 1 _ rfl, by rw [← fieldAt _ _ 2 (by omega)]; exact hc 2 _ rfl⟩
theorem RS.mv {xs : List Mv} (h : RS FM w A xs) (hk : k < xs.length) : ∃ ad m, A = some ad ∧ xs[k]? = some m ∧ w.cell? (ad.add (k * 4)) = some (.int .i64 m.src) ∧
    w.cell? ⟨(ad.add (k * 4)).block, (ad.add (k * 4)).off + 1, none⟩ = some (.int .i64 m.dflt.kind) ∧ w.cell? ⟨(ad.add (k * 4)).block, (ad.add (k * 4)).off + 2, none⟩ = some (.int .u64 m.dflt.bits) ∧
    w.cell? ⟨(ad.add (k * 4)).block, (ad.add (k * 4)).off + 3, none⟩ = some (.string m.dflt.text) := by
  obtain ⟨ad, f, e, hx, hc⟩ := h.at_ hk (by decide)
  exact ⟨ad, f, e, hx, hc 0 _ rfl, by rw [← fieldAt _ _ 1 (by omega)]; exact hc 1 _ rfl, by rw [← fieldAt _ _ 2 (by omega)]; exact hc 2 _ rfl, by rw [← fieldAt _ _ 3 (by omega)]; exact hc 3 _ rfl⟩
theorem RS.int_ {xs : List Int} (h : RS FI w A xs) (hk : k < xs.length) : ∃ ad x, A = some ad ∧ xs[k]? = some x ∧ w.cell? (ad.add k) = some (.int .i64 x) := by
  obtain ⟨ad, f, e, hx, hc⟩ := h.at_ hk (by decide)
  exact ⟨ad, f, e, hx, by have := hc 0 _ rfl; simpa [FI] using this⟩
end

/-! ### A row of one's own -/
section
variable {α : Type} {F : Flat α} {w w1 : World} {base : Nat} {e : TypeId} {v : Value} {xs : List α}
def Own (F : Flat α) (e : TypeId) (w : World) (base : Nat) (v : Value) (xs : List α) : Prop := w.ownsRow base e F.sz v xs.length (F.cells xs)
theorem Own.nil (F : Flat α) (e : TypeId) (w : World) (base : Nat) : Own F e w base (.slice none 0 0) [] := World.ownsRow_nil _ _ _ _
theorem Own.slice (h : Own F e w base v xs) : ∃ A c, v = .slice A xs.length c ∧ xs.length ≤ c ∧ RS F w A xs := by
  rcases h.2 with ⟨rfl, hn⟩ | ⟨g, cap, cur, rfl, _, _, hc, _⟩
  · obtain rfl := List.eq_nil_of_length_eq_zero hn
    exact ⟨none, 0, rfl, Nat.le_refl _, RS.nil⟩
  · exact ⟨_, cap, rfl, hc, fun i u hi => ⟨_, rfl, World.ownsRow.cells h (g := g) rfl i u hi⟩⟩
theorem Own.lt (h : Own F e w base v xs) : ∀ k, v.ownBlock = some k → base ≤ k ∧ k < w.heap.size := World.ownsRow.lt h
theorem Own.grown (h : Own F e w base v xs) {row : Option Nat} (hg : w.grownBy w1 row) (hne : v.ownBlock = none ∨ v.ownBlock ≠ row) : Own F e w1 base v xs := World.ownsRow.kept h hg hne
theorem grown_of_below {w w1 : World} (h : Below w.heap.size w w1) (row : Option Nat) : w.grownBy w1 row := ⟨h.os, h.tape, h.output, h.size, fun i hi _ => h.block i hi⟩
theorem Own.below (h : Own F e w base v xs) (hb : Below w.heap.size w w1) : Own F e w1 base v xs := h.grown (grown_of_below hb none) (by cases v.ownBlock <;> simp)
theorem Own.alloc (h : Own F e w base v xs) (o : Obj) : Own F e (w.alloc o) base v xs := World.ownsRow.alloc h o
theorem Own.drew (h : Own F e w base v xs) : Own F e w.drew base v xs := h
theorem Own.drewN (h : Own F e w base v xs) (n : Nat) : Own F e (w.drewN n) base v xs := h
theorem Own.lower {b' : Nat} (h : Own F e w base v xs) (hb : b' ≤ base) : Own F e w b' v xs := by
  refine ⟨h.1, ?_⟩
  rcases h.2 with h2 | ⟨g, cap, cur, r1, r2, r⟩
  · exact .inl h2
  · exact .inr ⟨g, cap, cur, r1, by omega, r⟩
theorem Own.typed (h : Own F e w base v xs) (k : Nat) (hk : v.ownBlock = some k) : ∃ cells, w.heap[k]? = some (.cells cells e (0, 0)) := by
  rcases h.2 with ⟨rfl, _⟩ | ⟨g, cap, cur, rfl, hg, hh, r⟩
  · simp [Value.ownBlock] at hk
  · have : g = k := by simpa [Value.ownBlock] using hk
    subst this
    exact ⟨cur, hh⟩
theorem Own.ne {β : Type} {G : Flat β} {e' : TypeId} {v' : Value} {ys : List β} {b' : Nat} (h : Own F e w base v xs) (h' : Own G e' w b' v' ys) (hne : e ≠ e') : v.ownBlock = none ∨ v.ownBlock ≠ v'.ownBlock := by
  cases hv : v.ownBlock with
  | none => exact .inl rfl
  | some k =>
    refine .inr fun hk => ?_
    obtain ⟨c, hc⟩ := h.typed k hv
    obtain ⟨c', hc'⟩ := h'.typed k hk.symm
    rw [hc] at hc'
    injection hc' with hc'
    injection hc' with _ ht
    exact hne ht
/-- A store far from the row. -/
theorem Own.far (h : Own F e w base v xs) {p : Addr} (hp : v.ownBlock ≠ some p.block) (u : Value) : Own F e (w.setCell p u) base v xs := by
  refine World.ownsRow.kept h (row := some p.block) ⟨rfl, rfl, rfl, by simp [World.setCell], fun i hi hne => Below.heap_setCell _ _ _ _ (by rintro rfl; exact hne rfl)⟩ (.inr hp)
/-- The row's block is not one whose element type is another. -/
theorem Own.ne_block (h : Own F e w base v xs) {g : Nat} {cs : Array Value} {t : TypeId} {fr : Nat × Nat} (hg : w.heap[g]? = some (.cells cs t fr)) (hne : e ≠ t) : v.ownBlock ≠ some g := by
  intro hv
  obtain ⟨c, hc⟩ := h.typed g hv
  rw [hg] at hc
  injection hc with hc
  injection hc with _ ht
  exact hne ht.symm
end

/-! ### append(v, x) of one thing; of another row -/
section
variable {P : Program} {ops : Array Oper} {rest : List Oper} {o : Oper} {a : Act} {Q : Exit → Act → World → Prop} {α : Type} (F : Flat α)

theorem wp_append_one {W : World} (base : Nat) (hgd : o.guard = none) (s x : Operand) (t e : TypeId) (z : Value) (bytes : Nat)
    (ho : o.op = .call { callee := .builtin .append, args := #[s, x], argTypes := #[t, t] })
    (ht : P.underlying t = some (.slice e)) (hinfo : (P.info? e).map (fun i => (i.zero, i.size, i.bytes)) = some (some z, F.sz, bytes)) (hz : z.cells.size = F.sz) (hsz : 0 < F.sz)
    (v : Value) (xs : List α) (y : α) (cs : Array Value) (hcs : cs.toList = F.enc y) (hs : a.eval s = v) (hx : a.eval x = .slice (some ⟨W.heap.size, 0, none⟩) 1 1)
    (HO : Own F e W base v xs) (hbase : base ≤ W.heap.size) (hl : xs.length + 1 ≤ 60000) (hby : bytes ≤ 1000)
    (h : ∀ v1 w1, Own F e w1 base v1 (xs ++ [y]) → W.grownBy w1 v.ownBlock → (v1.ownBlock = v.ownBlock ∨ ∃ b, v1.ownBlock = some b ∧ W.heap.size ≤ b) → wpList P ops Q rest (a.put o.dst v1) w1) :
    wpList P ops Q (o :: rest) a (W.alloc (.cells cs e)) := by
  obtain ⟨i0, hi, hzz⟩ := Option.map_eq_some_iff.1 hinfo
  simp only [Prod.mk.injEq] at hzz
  obtain ⟨hz0, hz1, hz2⟩ := hzz
  have hm : (xs.length + 1) * bytes ≤ 60000 * 1000 := Nat.mul_le_mul hl hby
  have hcl : cs.size = F.sz := by rw [← Array.length_toList, hcs, F.len]
  refine wpList_append_own_at (W.alloc (.cells cs e)) hgd s x t ho base e i0 z F.sz bytes ht hi hz0 hz1 hz2 hz hsz v xs.length (F.cells xs) hs (HO.alloc _) ⟨W.heap.size, 0, none⟩ 1 1 (F.enc y) hx (by rw [F.len]; omega)
    (by rw [← hcs]; exact World.news_of_block (cs := cs) (t := e) (fr := (0, 0)) (heap_alloc_new W _)) (F.one y) (by simp only [maxLen]; omega) (by omega) (by simp; omega) ?_
  intro v1 w1 hown hg _ hat
  refine h v1 w1 (by unfold Own; rw [F.cells_append, F.cells_one, List.length_append]; exact hown) (World.grownBy.trans (World.grownBy_alloc W _ _) hg) ?_
  rcases hat with hat | hat
  · exact .inl hat
  · exact .inr ⟨_, hat, by simp⟩

/-- append(v, s...): s nil or not. -/
theorem wp_append_row {W : World} (base : Nat) (hgd : o.guard = none) (s x : Operand) (t e : TypeId) (z : Value) (bytes : Nat)
    (ho : o.op = .call { callee := .builtin .append, args := #[s, x], argTypes := #[t, t] })
    (ht : P.underlying t = some (.slice e)) (hinfo : (P.info? e).map (fun i => (i.zero, i.size, i.bytes)) = some (some z, F.sz, bytes)) (hz : z.cells.size = F.sz) (hsz : 0 < F.sz)
    (v : Value) (xs ys : List α) (A : Addr) (c : Nat) (hs : a.eval s = v) (hx : a.eval x = .slice (some A) ys.length c)
    (HO : Own F e W base v xs) (HR : RS F W (some A) ys) (hbase : base ≤ W.heap.size) (hl : xs.length + ys.length ≤ 60000) (hby : bytes ≤ 1000)
    (h : ∀ v1 w1, Own F e w1 base v1 (xs ++ ys) → W.grownBy w1 v.ownBlock → (v1.ownBlock = v.ownBlock ∨ ∃ b, v1.ownBlock = some b ∧ W.heap.size ≤ b) → (v1 = .slice none 0 0 ↔ v = .slice none 0 0 ∧ ys.length = 0) → wpList P ops Q rest (a.put o.dst v1) w1) :
    wpList P ops Q (o :: rest) a W := by
  obtain ⟨i0, hi, hzz⟩ := Option.map_eq_some_iff.1 hinfo
  simp only [Prod.mk.injEq] at hzz
  obtain ⟨hz0, hz1, hz2⟩ := hzz
  have hm : (xs.length + ys.length) * bytes ≤ 60000 * 1000 := Nat.mul_le_mul hl hby
  refine wpList_append_own_at W hgd s x t ho base e i0 z F.sz bytes ht hi hz0 hz1 hz2 hz hsz v xs.length (F.cells xs) hs HO A ys.length c (F.cells ys) hx (F.cells_length ys)
    (fun j u hj => by obtain ⟨ad, e, hc⟩ := HR j u hj; cases e; exact hc) (F.cells_one_cell ys) (by simp only [maxLen]; omega) (by omega) hbase ?_
  intro v1 w1 hown hg hn hat
  refine h v1 w1 (by unfold Own; rw [F.cells_append, List.length_append]; exact hown) hg ?_ hn
  rcases hat with hat | hat
  · exact .inl hat
  · exact .inr ⟨_, hat, by simp⟩
end

end Go.Proofs.Ytdggnnbgiadgaaa
