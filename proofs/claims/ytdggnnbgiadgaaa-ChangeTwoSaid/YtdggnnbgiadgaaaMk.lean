/- change.named, change.Make. -/
import Derived.Test.YtdggnnbgiadgaaaMp
set_option linter.unusedVariables false
namespace Go.Proofs.Ytdggnnbgiadgaaa
open Go.RowKit

theorem heap_at_new (W : World) (o : Obj) (H : Nat) (h : W.heap.size = H) : (W.alloc o).heap[H]? = some o := by subst h; exact heap_alloc_new W o
theorem change_namedD (w : World) :
    Calls Try.prog 27 #[.func (.func 28) #[] #[]] w fun e w' => e = .returned (.func (.func 51) #[] #[.pointer (some ⟨w.heap.size, 0, none⟩)]) ∧ w' = w.alloc (Obj.cells #[.func (.func 28) #[] #[]] 70) := by
  have hmf : ∀ (fn : Fn) (first cap : Array Value) (w : World), (Instr.makeFunc fn first cap).run Try.prog w = .ok (.func fn first cap) w := fun _ _ _ _ => rfl
  go_enter Try.func27, Try.ntmps27
  go_wp2_with fail
  go_ret
  exact ⟨rfl, rfl⟩
theorem change_namedR (w : World) :
    Calls Try.prog 27 #[.func (.func 29) #[] #[]] w fun e w' => e = .returned (.func (.func 51) #[] #[.pointer (some ⟨w.heap.size, 0, none⟩)]) ∧ w' = w.alloc (Obj.cells #[.func (.func 29) #[] #[]] 70) := by
  have hmf : ∀ (fn : Fn) (first cap : Array Value) (w : World), (Instr.makeFunc fn first cap).run Try.prog w = .ok (.func fn first cap) w := fun _ _ _ _ => rfl
  go_enter Try.func27, Try.ntmps27
  go_wp2_with fail
  go_ret
  exact ⟨rfl, rfl⟩
theorem change_namedC (w : World) :
    Calls Try.prog 27 #[.func (.func 30) #[] #[]] w fun e w' => e = .returned (.func (.func 51) #[] #[.pointer (some ⟨w.heap.size, 0, none⟩)]) ∧ w' = w.alloc (Obj.cells #[.func (.func 30) #[] #[]] 70) := by
  have hmf : ∀ (fn : Fn) (first cap : Array Value) (w : World), (Instr.makeFunc fn first cap).run Try.prog w = .ok (.func fn first cap) w := fun _ _ _ _ => rfl
  go_enter Try.func27, Try.ntmps27
  go_wp2_with fail
  go_ret
  exact ⟨rfl, rfl⟩


/-- What stands while the ways are laid. -/
structure MkSt (w W : World) (c : Ch) (B : Option Addr) (cp n : Nat) (es : Array MapEntry) (clk : Nat) : Prop where
  box : Blk W w.heap.size 52 (chCells c B cp)
  res : Blk W (w.heap.size + 1) 28 #[.slice none 0 0, .slice none 0 0, .slice none 0 0]
  map : W.heap[w.heap.size + 1 + 1]? = some (.map es clk)
  below : Below w.heap.size w W
  size : W.heap.size = w.heap.size + n
section
variable {w W w1 : World} {c : Ch} {B : Option Addr} {cp n k : Nat} {es es' : Array MapEntry} {clk clk' : Nat}
theorem MkSt.ins (h : MkSt w W c B cp n es clk) (hb : w1.heap[w.heap.size + 1 + 1]? = some (.map es' clk')) (hg : W.grownBy w1 (some (w.heap.size + 1 + 1))) (hz : w1.heap.size = w.heap.size + n) : MkSt w w1 c B cp n es' clk' :=
  ⟨h.box.grown hg (by simp; omega), h.res.grown hg (by simp), hb, h.below.grown hg h.below.size (fun k hk => by cases hk; omega), hz⟩
theorem MkSt.more (h : MkSt w W c B cp n es clk) (o : Obj) : MkSt w (W.alloc o) c B cp (n + 1) es clk :=
  ⟨h.box.alloc _, h.res.alloc _, (Below.heap_alloc W o _ (by
    have := h.map
    rcases Nat.lt_or_ge (w.heap.size + 1 + 1) W.heap.size with hlt | hge
    · exact hlt
    · rw [Array.getElem?_eq_none hge] at this; cases this)).trans h.map, h.below.alloc h.below.size _, by simp [h.size]; omega⟩
theorem Blk.newAt (W : World) (H : Nat) (h : W.heap.size = H) (t : TypeId) (cs : Array Value) : Blk (W.alloc (.cells cs t)) H t cs := by subst h; exact Blk.new W t cs
theorem MkSt.start (w : World) (c : Ch) (B : Option Addr) (cp : Nat) : MkSt w (((w.alloc (Obj.cells (chCells c B cp) 52)).alloc (Obj.cells #[.slice none 0 0, .slice none 0 0, .slice none 0 0] 28)).alloc (Obj.map #[] 0)) c B cp 3 #[] 0 :=
  ⟨((Blk.new _ _ _).alloc _).alloc _, (Blk.second _ _ _ _).alloc _, heap_at_new _ _ _ (by simp), (below_two _ _ _).alloc (by simp; omega) _, by simp⟩
theorem Blk.insd (h : Blk W k 70 #[.func (.func n) #[] #[]]) {m : Nat} (hg : W.grownBy w1 (some m)) (hk : k ≠ m) : Blk w1 k 70 #[.func (.func n) #[] #[]] := h.grown hg (by simpa using hk)
end
abbrev wayOf (p : Nat) : Value := .func (.func 51) #[] #[.pointer (some ⟨p, 0, none⟩)]
abbrev waysOf (p1 p2 p3 : Nat) : Array MapEntry := #[{ key := .int .i64 1, val := .func (.func 26) #[] #[], born := 0 }, { key := .int .i64 2, val := wayOf p1, born := 1 }, { key := .int .i64 3, val := wayOf p2, born := 2 },
  { key := .int .i64 4, val := wayOf p3, born := 3 }, { key := .int .i64 5, val := .func (.func 31) #[] #[], born := 4 }]


def wayT (t : Tb) (c : Ch) : Option (Tb × Int) :=
  if c.op = 1 then some (addsT t c) else if c.op = 2 then some (namedT dropsS t c) else if c.op = 3 then some (namedT renamesS t c) else if c.op = 4 then some (namedT recastsT t c) else if c.op = 5 then some (ordersT t c) else none
def makeT (l : List Fld) (c : Ch) : Tb × Int :=
  if rightL l = true then (match wayT (sameT l) c with
    | none => (Tb.zero, 80)
    | some r => if r.2 = 0 then (if tabB r.1 = true then (r.1, 0) else (Tb.zero, 80)) else (Tb.zero, r.2))
  else (Tb.zero, 60)
theorem look_any (p1 p2 p3 b clk : Nat) (n : Int) (w : World) (hb : w.heap[b]? = some (.map (waysOf p1 p2 p3) clk)) :
    ∃ x ok, (Instr.lookup 71 (.map (some b)) (.int .i64 n) true).run Try.prog w = .ok (.tuple #[x, .bool ok]) w ∧
      (n = 1 → x = .func (.func 26) #[] #[] ∧ ok = true) ∧ (n = 2 → x = wayOf p1 ∧ ok = true) ∧ (n = 3 → x = wayOf p2 ∧ ok = true) ∧ (n = 4 → x = wayOf p3 ∧ ok = true) ∧ (n = 5 → x = .func (.func 31) #[] #[] ∧ ok = true) ∧
      (n ≠ 1 → n ≠ 2 → n ≠ 3 → n ≠ 4 → n ≠ 5 → ok = false) := by
  have hit := fun (i : Nat) (v : Value) (hf : Instr.findNow (.int .i64) (.int .i64 n) (waysOf p1 p2 p3).toList 0 = some (some (i, v))) => run_lookup_hit (P := Try.prog) (w := w) 71 3 68 b clk _ n v i Try.underlying71 Try.underlying3 hb hf
  by_cases h1 : n = 1
  · subst h1; exact ⟨_, _, hit 0 _ rfl, by simp⟩
  by_cases h2 : n = 2
  · subst h2; exact ⟨_, _, hit 1 _ rfl, by simp⟩
  by_cases h3 : n = 3
  · subst h3; exact ⟨_, _, hit 2 _ rfl, by simp⟩
  by_cases h4 : n = 4
  · subst h4; exact ⟨_, _, hit 3 _ rfl, by simp⟩
  by_cases h5 : n = 5
  · subst h5; exact ⟨_, _, hit 4 _ rfl, by simp⟩
  refine ⟨_, _, run_lookup_miss (P := Try.prog) (w := w) 71 3 68 b clk _ n .nilFunc Try.underlying71 Try.underlying3 hb ?_ (by kernel_rfl), by simp [h1, h2, h3, h4, h5]⟩
  have hs : ∀ m : Int, Instr.sameNow (.int .i64) (.int .i64 n) (.int .i64 m) = some (n == m) := fun m => by simp [Instr.sameNow]
  have b1 : (n == 1) = false := by simp [h1]
  have b2 : (n == 2) = false := by simp [h2]
  have b3 : (n == 3) = false := by simp [h3]
  have b4 : (n == 4) = false := by simp [h4]
  have b5 : (n == 5) = false := by simp [h5]
  simp [Instr.findNow, hs, b1, b2, b3, b4, b5]

set_option maxRecDepth 100000 in
theorem change_Make0 (l : List Fld) (c : Ch) (A B : Option Addr) (cl cp : Nat) (w : World) (hr : RS FF w A l) (hok : FsOk l) (hlc : l.length ≤ cl) (ho : RS FI w B c.order) (hlo : c.order.length ≤ cp) (hc : ChOk c) (hR : rightL l = false) :
    Calls Try.prog 15 #[.slice A l.length cl, .agg (chCells c B cp)] w (RetTE w w.heap.size (Tb.zero, 60)) := by
  have HR := Lib.hid hR
  clear hR
  have hmm := @run_makeMap Try.prog
  have s0 := MkSt.start w c B cp
  go_enter Try.func15, Try.ntmps15
  go_upto_region 1 with fail
  go_cut [6] (fun s wx => s = .map (some (w.heap.size + 1 + 1)) ∧ MkSt w wx c B cp 6 (waysOf (w.heap.size + 3) (w.heap.size + 4) (w.heap.size + 5)) 5 ∧ Blk wx (w.heap.size + 3) 70 #[.func (.func 28) #[] #[]] ∧ Blk wx (w.heap.size + 4) 70 #[.func (.func 29) #[] #[]] ∧ Blk wx (w.heap.size + 5) 70 #[.func (.func 30) #[] #[]])
  case first =>
    go_wp2_with (refine wp_insert (r := w.heap.size + 1 + 1) (n := 1) (val := .func (.func 26) #[] #[]) rfl rfl 3 68 Try.underlying71 Try.underlying3 rfl rfl rfl s0.map rfl ?_; refine Stopped.out ?_)
    constructor
    intro w1 hb1 hg1 hz1
    have s1 := s0.ins hb1 hg1 (by first | omega | (simp at hz1; omega))
    clear hb1 hg1 hz1 s0
    go_wp2_with fail
    refine (change_namedD _).mono ?_
    rintro e w2 ⟨rfl, rfl⟩
    have s2 := s1.more (Obj.cells #[.func (.func 28) #[] #[]] 70)
    have z1 := s1.size
    have x1 := Blk.newAt w1 (w.heap.size + 3) z1 70 #[.func (.func 28) #[] #[]]
    go_wp2_with (refine wp_insert (r := w.heap.size + 1 + 1) (n := 2) (val := wayOf (w.heap.size + 3)) rfl rfl 3 68 Try.underlying71 Try.underlying3 rfl rfl rfl s2.map rfl ?_; refine Stopped.out ?_)
    constructor
    intro w3 hb3 hg3 hz3
    have s3 := s2.ins hb3 hg3 (by first | omega | (simp at hz3; omega))
    have x3 := x1.insd hg3 (by omega)
    clear hb3 hg3 hz3 s2 s1 x1
    go_wp2_with fail
    refine (change_namedR _).mono ?_
    rintro e w4 ⟨rfl, rfl⟩
    have s4 := s3.more (Obj.cells #[.func (.func 29) #[] #[]] 70)
    have z3 := s3.size
    have y1 := Blk.newAt w3 (w.heap.size + 4) z3 70 #[.func (.func 29) #[] #[]]
    have x4 := x3.alloc (Obj.cells #[.func (.func 29) #[] #[]] 70)
    go_wp2_with (refine wp_insert (r := w.heap.size + 1 + 1) (n := 3) (val := wayOf (w.heap.size + 4)) rfl rfl 3 68 Try.underlying71 Try.underlying3 rfl rfl rfl s4.map rfl ?_; refine Stopped.out ?_)
    constructor
    intro w5 hb5 hg5 hz5
    have s5 := s4.ins hb5 hg5 (by first | omega | (simp at hz5; omega))
    have x5 := x4.insd hg5 (by omega)
    have y5 := y1.insd hg5 (by omega)
    clear hb5 hg5 hz5 s4 s3 x3 x4 y1
    go_wp2_with fail
    refine (change_namedC _).mono ?_
    rintro e w6 ⟨rfl, rfl⟩
    have s6 := s5.more (Obj.cells #[.func (.func 30) #[] #[]] 70)
    have z5 := s5.size
    have v1 := Blk.newAt w5 (w.heap.size + 5) z5 70 #[.func (.func 30) #[] #[]]
    have x6 := x5.alloc (Obj.cells #[.func (.func 30) #[] #[]] 70)
    have y6 := y5.alloc (Obj.cells #[.func (.func 30) #[] #[]] 70)
    go_wp2_with (refine wp_insert (r := w.heap.size + 1 + 1) (n := 4) (val := wayOf (w.heap.size + 5)) rfl rfl 3 68 Try.underlying71 Try.underlying3 rfl rfl rfl s6.map rfl ?_; refine Stopped.out ?_)
    constructor
    intro w7 hb7 hg7 hz7
    have s7 := s6.ins hb7 hg7 (by first | omega | (simp at hz7; omega))
    have z7 := s7.size
    have x7 := x6.insd hg7 (by omega)
    have y7 := y6.insd hg7 (by omega)
    have v7 := v1.insd hg7 (by omega)
    clear hb7 hg7 hz7 s6 s5 x6 x5 y6 y5 v1
    go_wp2_with (refine wp_insert (r := w.heap.size + 1 + 1) (n := 5) (val := .func (.func 31) #[] #[]) rfl rfl 3 68 Try.underlying71 Try.underlying3 rfl rfl rfl s7.map rfl ?_; refine Stopped.out ?_)
    constructor
    intro w9 hb9 hg9 hz9
    have s9 := s7.ins hb9 hg9 (by first | omega | (simp at hz9; omega))
    have x9 := x7.insd hg9 (by omega)
    have y9 := y7.insd hg9 (by omega)
    have v9 := v7.insd hg9 (by omega)
    clear hb9 hg9 hz9 s7 x7 y7 v7
    go_wp2_with fail
    go_meet
    exact ⟨rfl, s9, x9, y9, v9⟩
  case rest =>
    obtain ⟨rfl, s1, -, -, -⟩ := hcut
    obtain ⟨x, ok, hlk, -⟩ := look_any _ _ _ _ _ c.op wc s1.map
    have d0 := s1.box
    have d1 := s1.res
    have u0 := d0.cellIs 0 (.int .i64 c.op) rfl
    have hr1 := hr.below s1.below
    go_wp2_with fail
    refine (field_RightIs hr1 hok hlc HR.out).mono ?_
    rintro e w1 ⟨rfl, hb1⟩
    have e1 := d1.below hb1
    have y0 := e1.cellIs 0 (.slice none 0 0) rfl
    have y1 := e1.cellIs 1 (.slice none 0 0) rfl
    have y2 := e1.cellIs 2 (.slice none 0 0) rfl
    have z0 := e1.frozen 0
    have z1 := e1.frozen 1
    have z2 := e1.frozen 2
    have hB1 : Below w.heap.size w w1 := s1.below.trans (hb1.mono s1.below.size)
    go_wp2_with fail
    refine bodyPost_ret (v := .tuple #[.agg #[.slice none 0 0, .slice none 0 0, .slice none 0 0], .int .i64 60]) (by simp [results, Try.results15, go_sem, y0, y1, y2]) rfl ⟨_, rfl, ?_, ?_, ?_⟩
    · exact OwnTab.zero _ _
    · exact below_set (below_set (below_set hB1 (by omega) _ _) (by omega) _ _) (by omega) _ _
    · exact far_set (far_set (far_set (far_below hB1) (by omega) _ _) (by omega) _ _) (by omega) _ _

set_option maxRecDepth 100000 in
theorem change_Make1 (l : List Fld) (c : Ch) (A B : Option Addr) (cl cp : Nat) (w : World) (hr : RS FF w A l) (hok : FsOk l) (hlc : l.length ≤ cl) (ho : RS FI w B c.order) (hlo : c.order.length ≤ cp) (hc : ChOk c) (hR : rightL l = true) (g1 : c.op ≠ 1) (g2 : c.op ≠ 2) (g3 : c.op ≠ 3) (g4 : c.op ≠ 4) (g5 : c.op ≠ 5) :
    Calls Try.prog 15 #[.slice A l.length cl, .agg (chCells c B cp)] w (RetTE w w.heap.size (Tb.zero, 80)) := by
  have HR := Lib.hid hR
  clear hR
  have hmm := @run_makeMap Try.prog
  have s0 := MkSt.start w c B cp
  go_enter Try.func15, Try.ntmps15
  go_upto_region 1 with fail
  go_cut [6] (fun s wx => s = .map (some (w.heap.size + 1 + 1)) ∧ MkSt w wx c B cp 6 (waysOf (w.heap.size + 3) (w.heap.size + 4) (w.heap.size + 5)) 5 ∧ Blk wx (w.heap.size + 3) 70 #[.func (.func 28) #[] #[]] ∧ Blk wx (w.heap.size + 4) 70 #[.func (.func 29) #[] #[]] ∧ Blk wx (w.heap.size + 5) 70 #[.func (.func 30) #[] #[]])
  case first =>
    go_wp2_with (refine wp_insert (r := w.heap.size + 1 + 1) (n := 1) (val := .func (.func 26) #[] #[]) rfl rfl 3 68 Try.underlying71 Try.underlying3 rfl rfl rfl s0.map rfl ?_; refine Stopped.out ?_)
    constructor
    intro w1 hb1 hg1 hz1
    have s1 := s0.ins hb1 hg1 (by first | omega | (simp at hz1; omega))
    clear hb1 hg1 hz1 s0
    go_wp2_with fail
    refine (change_namedD _).mono ?_
    rintro e w2 ⟨rfl, rfl⟩
    have s2 := s1.more (Obj.cells #[.func (.func 28) #[] #[]] 70)
    have z1 := s1.size
    have x1 := Blk.newAt w1 (w.heap.size + 3) z1 70 #[.func (.func 28) #[] #[]]
    go_wp2_with (refine wp_insert (r := w.heap.size + 1 + 1) (n := 2) (val := wayOf (w.heap.size + 3)) rfl rfl 3 68 Try.underlying71 Try.underlying3 rfl rfl rfl s2.map rfl ?_; refine Stopped.out ?_)
    constructor
    intro w3 hb3 hg3 hz3
    have s3 := s2.ins hb3 hg3 (by first | omega | (simp at hz3; omega))
    have x3 := x1.insd hg3 (by omega)
    clear hb3 hg3 hz3 s2 s1 x1
    go_wp2_with fail
    refine (change_namedR _).mono ?_
    rintro e w4 ⟨rfl, rfl⟩
    have s4 := s3.more (Obj.cells #[.func (.func 29) #[] #[]] 70)
    have z3 := s3.size
    have y1 := Blk.newAt w3 (w.heap.size + 4) z3 70 #[.func (.func 29) #[] #[]]
    have x4 := x3.alloc (Obj.cells #[.func (.func 29) #[] #[]] 70)
    go_wp2_with (refine wp_insert (r := w.heap.size + 1 + 1) (n := 3) (val := wayOf (w.heap.size + 4)) rfl rfl 3 68 Try.underlying71 Try.underlying3 rfl rfl rfl s4.map rfl ?_; refine Stopped.out ?_)
    constructor
    intro w5 hb5 hg5 hz5
    have s5 := s4.ins hb5 hg5 (by first | omega | (simp at hz5; omega))
    have x5 := x4.insd hg5 (by omega)
    have y5 := y1.insd hg5 (by omega)
    clear hb5 hg5 hz5 s4 s3 x3 x4 y1
    go_wp2_with fail
    refine (change_namedC _).mono ?_
    rintro e w6 ⟨rfl, rfl⟩
    have s6 := s5.more (Obj.cells #[.func (.func 30) #[] #[]] 70)
    have z5 := s5.size
    have v1 := Blk.newAt w5 (w.heap.size + 5) z5 70 #[.func (.func 30) #[] #[]]
    have x6 := x5.alloc (Obj.cells #[.func (.func 30) #[] #[]] 70)
    have y6 := y5.alloc (Obj.cells #[.func (.func 30) #[] #[]] 70)
    go_wp2_with (refine wp_insert (r := w.heap.size + 1 + 1) (n := 4) (val := wayOf (w.heap.size + 5)) rfl rfl 3 68 Try.underlying71 Try.underlying3 rfl rfl rfl s6.map rfl ?_; refine Stopped.out ?_)
    constructor
    intro w7 hb7 hg7 hz7
    have s7 := s6.ins hb7 hg7 (by first | omega | (simp at hz7; omega))
    have z7 := s7.size
    have x7 := x6.insd hg7 (by omega)
    have y7 := y6.insd hg7 (by omega)
    have v7 := v1.insd hg7 (by omega)
    clear hb7 hg7 hz7 s6 s5 x6 x5 y6 y5 v1
    go_wp2_with (refine wp_insert (r := w.heap.size + 1 + 1) (n := 5) (val := .func (.func 31) #[] #[]) rfl rfl 3 68 Try.underlying71 Try.underlying3 rfl rfl rfl s7.map rfl ?_; refine Stopped.out ?_)
    constructor
    intro w9 hb9 hg9 hz9
    have s9 := s7.ins hb9 hg9 (by first | omega | (simp at hz9; omega))
    have x9 := x7.insd hg9 (by omega)
    have y9 := y7.insd hg9 (by omega)
    have v9 := v7.insd hg9 (by omega)
    clear hb9 hg9 hz9 s7 x7 y7 v7
    go_wp2_with fail
    go_meet
    exact ⟨rfl, s9, x9, y9, v9⟩
  case rest =>
    obtain ⟨rfl, s1, -, -, -⟩ := hcut
    obtain ⟨x, ok, hlk, -, -, -, -, -, hno⟩ := look_any _ _ _ _ _ c.op wc s1.map
    obtain rfl := hno g1 g2 g3 g4 g5
    have d0 := s1.box
    have d1 := s1.res
    have u0 := d0.cellIs 0 (.int .i64 c.op) rfl
    have hr1 := hr.below s1.below
    go_wp2_with fail
    refine (field_RightIs hr1 hok hlc HR.out).mono ?_
    rintro e w1 ⟨rfl, hb1⟩
    have e1 := d1.below hb1
    have y0 := e1.cellIs 0 (.slice none 0 0) rfl
    have y1 := e1.cellIs 1 (.slice none 0 0) rfl
    have y2 := e1.cellIs 2 (.slice none 0 0) rfl
    have z0 := e1.frozen 0
    have z1 := e1.frozen 1
    have z2 := e1.frozen 2
    have hB1 : Below w.heap.size w w1 := s1.below.trans (hb1.mono s1.below.size)
    go_wp2_with fail
    refine bodyPost_ret (v := .tuple #[.agg #[.slice none 0 0, .slice none 0 0, .slice none 0 0], .int .i64 80]) (by simp [results, Try.results15, go_sem, y0, y1, y2]) rfl ⟨_, rfl, ?_, ?_, ?_⟩
    · exact OwnTab.zero _ _
    · exact below_set (below_set (below_set hB1 (by omega) _ _) (by omega) _ _) (by omega) _ _
    · exact far_set (far_set (far_set (far_below hB1) (by omega) _ _) (by omega) _ _) (by omega) _ _

def afterT (r : Tb × Int) : Tb × Int := if r.2 = 0 then (if tabB r.1 = true then (r.1, 0) else (Tb.zero, 80)) else (Tb.zero, r.2)
theorem look_hitA (p1 p2 p3 b clk : Nat) (n : Int) (w : World) (hb : w.heap[b]? = some (.map (waysOf p1 p2 p3) clk)) (hn : n = 1) :
    (Instr.lookup 71 (.map (some b)) (.int .i64 n) true).run Try.prog w = .ok (.tuple #[.func (.func 26) #[] #[], .bool true]) w := by
  subst hn
  exact run_lookup_hit (P := Try.prog) (w := w) 71 3 68 b clk _ _ _ 0 Try.underlying71 Try.underlying3 hb rfl
theorem look_hitD (p1 p2 p3 b clk : Nat) (n : Int) (w : World) (hb : w.heap[b]? = some (.map (waysOf p1 p2 p3) clk)) (hn : n = 2) :
    (Instr.lookup 71 (.map (some b)) (.int .i64 n) true).run Try.prog w = .ok (.tuple #[wayOf p1, .bool true]) w := by
  subst hn
  exact run_lookup_hit (P := Try.prog) (w := w) 71 3 68 b clk _ _ _ 1 Try.underlying71 Try.underlying3 hb rfl
theorem look_hitR (p1 p2 p3 b clk : Nat) (n : Int) (w : World) (hb : w.heap[b]? = some (.map (waysOf p1 p2 p3) clk)) (hn : n = 3) :
    (Instr.lookup 71 (.map (some b)) (.int .i64 n) true).run Try.prog w = .ok (.tuple #[wayOf p2, .bool true]) w := by
  subst hn
  exact run_lookup_hit (P := Try.prog) (w := w) 71 3 68 b clk _ _ _ 2 Try.underlying71 Try.underlying3 hb rfl
theorem look_hitC (p1 p2 p3 b clk : Nat) (n : Int) (w : World) (hb : w.heap[b]? = some (.map (waysOf p1 p2 p3) clk)) (hn : n = 4) :
    (Instr.lookup 71 (.map (some b)) (.int .i64 n) true).run Try.prog w = .ok (.tuple #[wayOf p3, .bool true]) w := by
  subst hn
  exact run_lookup_hit (P := Try.prog) (w := w) 71 3 68 b clk _ _ _ 3 Try.underlying71 Try.underlying3 hb rfl
theorem look_hitO (p1 p2 p3 b clk : Nat) (n : Int) (w : World) (hb : w.heap[b]? = some (.map (waysOf p1 p2 p3) clk)) (hn : n = 5) :
    (Instr.lookup 71 (.map (some b)) (.int .i64 n) true).run Try.prog w = .ok (.tuple #[.func (.func 31) #[] #[], .bool true]) w := by
  subst hn
  exact run_lookup_hit (P := Try.prog) (w := w) 71 3 68 b clk _ _ _ 4 Try.underlying71 Try.underlying3 hb rfl

theorem ch_cells {W : World} {g : Nat} {c : Ch} {B : Option Addr} {cp : Nat} (h : Blk W g 52 (chCells c B cp)) :
    W.cell? ⟨g, 1, none⟩ = some (.string c.name) ∧ W.cell? ⟨g, 2, none⟩ = some (.string c.dst.name) ∧ W.cell? ⟨g, 3, none⟩ = some (.int .i64 c.dst.kind) ∧ W.cell? ⟨g, 4, none⟩ = some (.int .i64 c.dst.long) ∧ W.cell? ⟨g, 5, none⟩ = some (.int .i64 c.dflt.kind) ∧
      W.cell? ⟨g, 6, none⟩ = some (.int .u64 c.dflt.bits) ∧ W.cell? ⟨g, 7, none⟩ = some (.string c.dflt.text) ∧ W.cell? ⟨g, 8, none⟩ = some (.slice B c.order.length cp) :=
  ⟨h.cellIs 1 _ rfl, h.cellIs 2 _ rfl, h.cellIs 3 _ rfl, h.cellIs 4 _ rfl, h.cellIs 5 _ rfl, h.cellIs 6 _ rfl, h.cellIs 7 _ rfl, h.cellIs 8 _ rfl⟩

theorem same_at {w1 W : World} (l : List Fld) (A : Option Addr) (c : Nat) (hw : Below w1.heap.size w1 W) (hr : RS FF w1 A l) (hok : FsOk l) (hlc : l.length ≤ c) :
    Calls Try.prog 17 #[.slice A l.length c] W fun e w' => ∃ v, e = .returned v ∧ OwnTab w' w1.heap.size v (sameT l) ∧ Below w1.heap.size w1 w' ∧ Below W.heap.size W w' :=
  (table_Same l A c W (hr.below hw) hok hlc).mono fun e w' ⟨v, he, ht, hb⟩ => ⟨v, he, ht.lower hw.size, hw.trans (hb.mono hw.size), hb⟩

/-- Behind the way: the table lies in block g. -/
def MkMid (w wx : World) (rt : Tb) (rc : Int) (s9 s10 : Value) : Prop := ∃ (g : Nat) (B0 B1 B2 : Option Addr) (k0 k1 k2 : Nat), s9 = .pointer (some ⟨g, 0, none⟩) ∧ s10 = .int .i64 rc ∧
  Blk wx g 28 #[.slice B0 rt.old.length k0, .slice B1 rt.new.length k1, .slice B2 rt.moves.length k2] ∧ OwnTab wx w.heap.size (.agg #[.slice B0 rt.old.length k0, .slice B1 rt.new.length k1, .slice B2 rt.moves.length k2]) rt ∧
  Blk wx (w.heap.size + 1) 28 #[.slice none 0 0, .slice none 0 0, .slice none 0 0] ∧ Below w.heap.size w wx ∧ Far w wx ∧ w.heap.size + 1 < g
theorem mk_end {w w1 w4 : World} {rt : Tb} {rc : Int} {g : Nat} {B0 B1 B2 : Option Addr} {k0 k1 k2 : Nat} (hw1 : w.heap.size ≤ w1.heap.size) (hres : Blk w4 (w.heap.size + 1) 28 #[.slice none 0 0, .slice none 0 0, .slice none 0 0])
    (hg : Blk w4 g 28 #[.slice none 0 0, .slice none 0 0, .slice none 0 0]) (ht : OwnTab w4 w1.heap.size (.agg #[.slice B0 rt.old.length k0, .slice B1 rt.new.length k1, .slice B2 rt.moves.length k2]) rt)
    (hb : Below w.heap.size w w4) (hf : Far w w4) (hgw : w.heap.size + 1 < g) :
    MkMid w (((w4.setCell ⟨g, 0, none⟩ (.slice B0 rt.old.length k0)).setCell ⟨g, 1, none⟩ (.slice B1 rt.new.length k1)).setCell ⟨g, 2, none⟩ (.slice B2 rt.moves.length k2)) rt rc (.pointer (some ⟨g, 0, none⟩)) (.int .i64 rc) := by
  refine ⟨g, B0, B1, B2, k0, k1, k2, rfl, rfl, ?_, (ht.lower hw1).stored hg _ _ _ _ _ _, ?_, ?_, ?_, hgw⟩
  · exact ((hg.set_ _ _).set_ _ _).set_ _ _
  · exact ((hres.far (p := ⟨g, 0, none⟩) (by show _ ≠ g; omega) _).far (p := ⟨g, 1, none⟩) (by show _ ≠ g; omega) _).far (p := ⟨g, 2, none⟩) (by show _ ≠ g; omega) _
  · exact below_set (below_set (below_set hb (by omega) _ _) (by omega) _ _) (by omega) _ _
  · exact far_set (far_set (far_set hf (by omega) _ _) (by omega) _ _) (by omega) _ _
theorem far_alloc {a w : World} (h : Far a w) (o : Obj) : Far a (w.alloc o) := fun k t cs h1 h2 hb => (h k t cs h1 h2 hb).alloc o
theorem far_trans {a b c : World} (h : Far a b) (h' : Far b c) : Far a c := fun k t cs h1 h2 hb => h' k t cs h1 h2 (h k t cs h1 h2 hb)
theorem mk_new {w w1 w4 : World} {rt : Tb} {rc : Int} {B0 B1 B2 : Option Addr} {k0 k1 k2 : Nat} (hw1 : w.heap.size ≤ w1.heap.size) (hres : Blk w4 (w.heap.size + 1) 28 #[.slice none 0 0, .slice none 0 0, .slice none 0 0])
    (ht : OwnTab w4 w1.heap.size (.agg #[.slice B0 rt.old.length k0, .slice B1 rt.new.length k1, .slice B2 rt.moves.length k2]) rt)
    (hb : Below w.heap.size w w4) (hf : Far w w4) :
    MkMid w (w4.alloc (.cells #[.slice B0 rt.old.length k0, .slice B1 rt.new.length k1, .slice B2 rt.moves.length k2] 28)) rt rc (.pointer (some ⟨w4.heap.size, 0, none⟩)) (.int .i64 rc) :=
  ⟨w4.heap.size, B0, B1, B2, k0, k1, k2, rfl, rfl, Blk.new _ _ _, (ht.lower hw1).below ((Below.refl _ _).alloc (Nat.le_refl _) _), hres.alloc _, hb.alloc hb.size _, far_alloc hf _, hres.lt⟩

set_option maxHeartbeats 1000000 in
set_option maxRecDepth 100000 in
theorem change_MakeA (l : List Fld) (c : Ch) (A B : Option Addr) (cl cp : Nat) (w : World) (hr : RS FF w A l) (hok : FsOk l) (hlc : l.length ≤ cl) (ho : RS FI w B c.order) (hlo : c.order.length ≤ cp) (hc : ChOk c) (hlen : l.length ≤ 16) (ho5 : c.order.length ≤ 40000)
    (hR : rightL l = true) (hop : c.op = 1) (rt : Tb) (rc : Int) (hrt : addsT (sameT l) c = (rt, rc)) (hq : rc = 0 → TbOk rt) :
    Calls Try.prog 15 #[.slice A l.length cl, .agg (chCells c B cp)] w (RetTE w w.heap.size (afterT (rt, rc))) := by
  have HR := Lib.hid hR
  have hs2 : (sameT l).old = l ∧ (sameT l).new = l ∧ (sameT l).moves.length = l.length := by unfold sameT; rw [hR]; exact ⟨rfl, rfl, mvs_length _⟩
  have HS := Lib.hid hs2
  have HP := Lib.hid hop
  have HT := Lib.hid hrt
  have HQ := Lib.hid hq
  clear hR hs2 hop hrt hq
  have hmm := @run_makeMap Try.prog
  have s0 := MkSt.start w c B cp
  go_enter Try.func15, Try.ntmps15
  go_upto_region 1 with fail
  go_cut [6] (fun s wx => s = .map (some (w.heap.size + 1 + 1)) ∧ MkSt w wx c B cp 6 (waysOf (w.heap.size + 3) (w.heap.size + 4) (w.heap.size + 5)) 5 ∧ Blk wx (w.heap.size + 3) 70 #[.func (.func 28) #[] #[]] ∧ Blk wx (w.heap.size + 4) 70 #[.func (.func 29) #[] #[]] ∧ Blk wx (w.heap.size + 5) 70 #[.func (.func 30) #[] #[]])
  case first =>
    go_wp2_with (refine wp_insert (r := w.heap.size + 1 + 1) (n := 1) (val := .func (.func 26) #[] #[]) rfl rfl 3 68 Try.underlying71 Try.underlying3 rfl rfl rfl s0.map rfl ?_; refine Stopped.out ?_)
    constructor
    intro w1 hb1 hg1 hz1
    have s1 := s0.ins hb1 hg1 (by first | omega | (simp at hz1; omega))
    clear hb1 hg1 hz1 s0
    go_wp2_with fail
    refine (change_namedD _).mono ?_
    rintro e w2 ⟨rfl, rfl⟩
    have s2 := s1.more (Obj.cells #[.func (.func 28) #[] #[]] 70)
    have z1 := s1.size
    have x1 := Blk.newAt w1 (w.heap.size + 3) z1 70 #[.func (.func 28) #[] #[]]
    go_wp2_with (refine wp_insert (r := w.heap.size + 1 + 1) (n := 2) (val := wayOf (w.heap.size + 3)) rfl rfl 3 68 Try.underlying71 Try.underlying3 rfl rfl rfl s2.map rfl ?_; refine Stopped.out ?_)
    constructor
    intro w3 hb3 hg3 hz3
    have s3 := s2.ins hb3 hg3 (by first | omega | (simp at hz3; omega))
    have x3 := x1.insd hg3 (by omega)
    clear hb3 hg3 hz3 s2 s1 x1
    go_wp2_with fail
    refine (change_namedR _).mono ?_
    rintro e w4 ⟨rfl, rfl⟩
    have s4 := s3.more (Obj.cells #[.func (.func 29) #[] #[]] 70)
    have z3 := s3.size
    have y1 := Blk.newAt w3 (w.heap.size + 4) z3 70 #[.func (.func 29) #[] #[]]
    have x4 := x3.alloc (Obj.cells #[.func (.func 29) #[] #[]] 70)
    go_wp2_with (refine wp_insert (r := w.heap.size + 1 + 1) (n := 3) (val := wayOf (w.heap.size + 4)) rfl rfl 3 68 Try.underlying71 Try.underlying3 rfl rfl rfl s4.map rfl ?_; refine Stopped.out ?_)
    constructor
    intro w5 hb5 hg5 hz5
    have s5 := s4.ins hb5 hg5 (by first | omega | (simp at hz5; omega))
    have x5 := x4.insd hg5 (by omega)
    have y5 := y1.insd hg5 (by omega)
    clear hb5 hg5 hz5 s4 s3 x3 x4 y1
    go_wp2_with fail
    refine (change_namedC _).mono ?_
    rintro e w6 ⟨rfl, rfl⟩
    have s6 := s5.more (Obj.cells #[.func (.func 30) #[] #[]] 70)
    have z5 := s5.size
    have v1 := Blk.newAt w5 (w.heap.size + 5) z5 70 #[.func (.func 30) #[] #[]]
    have x6 := x5.alloc (Obj.cells #[.func (.func 30) #[] #[]] 70)
    have y6 := y5.alloc (Obj.cells #[.func (.func 30) #[] #[]] 70)
    go_wp2_with (refine wp_insert (r := w.heap.size + 1 + 1) (n := 4) (val := wayOf (w.heap.size + 5)) rfl rfl 3 68 Try.underlying71 Try.underlying3 rfl rfl rfl s6.map rfl ?_; refine Stopped.out ?_)
    constructor
    intro w7 hb7 hg7 hz7
    have s7 := s6.ins hb7 hg7 (by first | omega | (simp at hz7; omega))
    have z7 := s7.size
    have x7 := x6.insd hg7 (by omega)
    have y7 := y6.insd hg7 (by omega)
    have v7 := v1.insd hg7 (by omega)
    clear hb7 hg7 hz7 s6 s5 x6 x5 y6 y5 v1
    go_wp2_with (refine wp_insert (r := w.heap.size + 1 + 1) (n := 5) (val := .func (.func 31) #[] #[]) rfl rfl 3 68 Try.underlying71 Try.underlying3 rfl rfl rfl s7.map rfl ?_; refine Stopped.out ?_)
    constructor
    intro w9 hb9 hg9 hz9
    have s9 := s7.ins hb9 hg9 (by first | omega | (simp at hz9; omega))
    have x9 := x7.insd hg9 (by omega)
    have y9 := y7.insd hg9 (by omega)
    have v9 := v7.insd hg9 (by omega)
    clear hb9 hg9 hz9 s7 x7 y7 v7
    go_wp2_with fail
    go_meet
    exact ⟨rfl, s9, x9, y9, v9⟩
  case rest =>
    obtain ⟨rfl, s1, f1, f2, f3⟩ := hcut
    have hlk := look_hitA _ _ _ _ _ c.op wc s1.map HP.out
    have d0 := s1.box
    have d1 := s1.res
    have u0 := d0.cellIs 0 (.int .i64 c.op) rfl
    have hr1 := hr.below s1.below
    have ho1 := ho.below s1.below
    go_wp2_with fail
    refine (field_RightIs hr1 hok hlc HR.out).mono ?_
    rintro e w1 ⟨rfl, hb1⟩
    have hB1 : Below w.heap.size w w1 := s1.below.trans (hb1.mono s1.below.size)
    have e0 := d0.below hb1
    have e1 := d1.below hb1
    have g1 := f1.below hb1
    have g2 := f2.below hb1
    have g3 := f3.below hb1
    have hr2 := hr1.below hb1
    have ho2 := ho1.below hb1
    clear d0 d1 u0 hr1 ho1 f1 f2 f3 s1 hb1 hr ho
    have hway : ∀ (v : Value) (W : World), OwnTab W w1.heap.size v (sameT l) → Below w1.heap.size w1 W → Calls Try.prog 26 #[v, .agg (chCells c B cp)] W (RetTE W w1.heap.size (rt, rc)) := by
      intro v W hv hW
      have hn0 : (sameT l).old.length = l.length := by rw [HS.out.1]
      have hn1 : (sameT l).new.length = l.length := by rw [HS.out.2.1]
      have hn2 : (sameT l).moves.length = l.length := HS.out.2.2
      have hs := hW.size
      rw [← HT.out]
      exact change_adds (sameT l) c v B cp w1.heap.size W hv hs hc (by omega) (by omega)
    have HWAY := Lib.hid hway
    clear hway g1 g2 g3
    have v0 := e0.cellIs 0 (.int .i64 c.op) rfl
    have e9 : ∀ W', Below w1.heap.size w1 W' → Blk W' w.heap.size 52 (chCells c B cp) := fun W' h => e0.below h
    have y9 : ∀ W', Below w1.heap.size w1 W' → Blk W' (w.heap.size + 1) 28 #[.slice none 0 0, .slice none 0 0, .slice none 0 0] := fun W' h => e1.below h
    obtain ⟨v1, v2, v3, v4, v5, v6, v7, v8⟩ := ch_cells e0
    have hW1 : w.heap.size + 1 < w1.heap.size := e1.lt
    have hn1 : w.heap.size ≠ w1.heap.size := by omega
    have hn2 : ¬ w1.heap.size = w.heap.size := by omega
    have hlW : w.heap.size ≤ w1.heap.size := by omega
    go_upto_region 7 with fail
    go_cut [9, 10] (fun s9 s10 wx => MkMid w wx rt rc s9 s10)
    case first =>
      go_region_held3 (fun w' => w'.cell? ⟨w.heap.size, 0, none⟩ = some (.int .i64 c.op) ∧ w'.cell? ⟨w.heap.size, 1, none⟩ = some (.string c.name) ∧ w'.cell? ⟨w.heap.size, 2, none⟩ = some (.string c.dst.name) ∧ w'.cell? ⟨w.heap.size, 3, none⟩ = some (.int .i64 c.dst.kind) ∧ w'.cell? ⟨w.heap.size, 4, none⟩ = some (.int .i64 c.dst.long) ∧ w'.cell? ⟨w.heap.size, 5, none⟩ = some (.int .i64 c.dflt.kind) ∧ w'.cell? ⟨w.heap.size, 6, none⟩ = some (.int .u64 c.dflt.bits) ∧ w'.cell? ⟨w.heap.size, 7, none⟩ = some (.string c.dflt.text) ∧ w'.cell? ⟨w.heap.size, 8, none⟩ = some (.slice B c.order.length cp)) (go_keep)
        (first
          | (go_at_call 17; refine (same_at l A cl (by first | exact (Below.refl _ _).drew | exact ((Below.refl _ _).alloc (Nat.le_refl _) _).drew | exact ((Below.refl _ _).drew).alloc (Nat.le_refl _) _) hr2 hok hlc).mono ?_; rintro e w3 ⟨v3, rfl, ht3, hb39, hbW⟩; obtain ⟨m1, m2, m3, m4, m5, m6, m7, m8⟩ := ch_cells (e9 w3 hb39); have m0 := (e9 w3 hb39).cellIs 0 (.int .i64 c.op) rfl; have hn3 : w.heap.size ≠ w3.heap.size := (by have := hb39.size; omega); have hn4 : ¬ w3.heap.size = w.heap.size := (by have := hb39.size; omega); try have t9 : Blk w3 w1.heap.size 28 #[.slice none 0 0, .slice none 0 0, .slice none 0 0] := (by first | exact (Blk.new w1 _ _).below hbW | exact (Blk.drew (Blk.new w1 _ _)).below hbW | exact (Blk.new w1.drew _ _).below hbW))
          | (go_at_call 26; refine (HWAY.out v3 _ (by first | exact ht3 | exact ht3.below ((Below.refl _ _).alloc (Nat.le_refl _) _)) (by first | exact hb39 | exact hb39.alloc hb39.size _)).mono ?_; rintro e w4 ⟨v4, rfl, ht4, hb4, hf4⟩; have e4 : Blk w4 w.heap.size 52 (chCells c B cp) := (by first | exact hf4 _ _ _ (by decide) (by decide) (e9 w3 hb39) | exact hf4 _ _ _ (by decide) (by decide) ((e9 w3 hb39).alloc _)); have y4 : Blk w4 (w.heap.size + 1) 28 #[.slice none 0 0, .slice none 0 0, .slice none 0 0] := (by first | exact hf4 _ _ _ (by decide) (by decide) (y9 w3 hb39) | exact hf4 _ _ _ (by decide) (by decide) ((y9 w3 hb39).alloc _)); have hB4 : Below w.heap.size w w4 := (by first | exact hB1.trans ((hb39.trans hb4).mono hlW) | exact hB1.trans (((hb39.alloc hb39.size _).trans hb4).mono hlW)); have hF4 : Far w w4 := (by first | exact far_trans (far_below hB1) (far_trans (far_below hb39) hf4) | exact far_trans (far_below hB1) (far_trans (far_below (hb39.alloc hb39.size _)) hf4)); obtain ⟨n1, n2, n3, n4, n5, n6, n7, n8⟩ := ch_cells e4; have n0 := e4.cellIs 0 (.int .i64 c.op) rfl; have ht4' := ht4; obtain ⟨B0, k0, B1, k1, B2, k2, rfl, _, _, _, _⟩ := ht4'; (try (have t10 : Blk w4 w1.heap.size 28 #[.slice none 0 0, .slice none 0 0, .slice none 0 0] := hf4 _ _ _ (by decide) (by decide) t9; have t10a := t10.frozen 0; have t10b := t10.frozen 1; have t10c := t10.frozen 2; have t10d := t10.cellIs 0 _ rfl; have t10e := t10.cellIs 1 _ rfl; have t10f := t10.cellIs 2 _ rfl)); (try (have t11 : Blk w4 w3.heap.size 28 #[.slice none 0 0, .slice none 0 0, .slice none 0 0] := hf4 _ _ _ (by decide) (by decide) (Blk.new w3 _ _); have t11a := t11.frozen 0; have t11b := t11.frozen 1; have t11c := t11.frozen 2; have t11d := t11.cellIs 0 _ rfl; have t11e := t11.cellIs 1 _ rfl; have t11f := t11.cellIs 2 _ rfl)))
          | (fail))
      all_goals (go_wp2_with fail; go_meet)
      · exact mk_new hlW y4 ht4 hB4 hF4
      · exact mk_end hlW y4 t11 ht4 hB4 hF4 (by have := hb39.size; omega)
      · exact mk_end hlW y4 t10 ht4 hB4 hF4 (by omega)
    case rest =>
      obtain ⟨g, B0, B1, B2, k0, k1, k2, rfl, rfl, xg, xt, xr, xB, xF, xg2⟩ := hcut
      clear e0 e1 e9 y9 v0 v1 v2 v3 v4 v5 v6 v7 v8 hr2 ho2 hn1 hn2 HWAY hB1 hlk hlW hW1
      obtain ⟨p0, p1, p2⟩ : wc.cell? ⟨g, 0, none⟩ = some (.slice B0 rt.old.length k0) ∧ wc.cell? ⟨g, 1, none⟩ = some (.slice B1 rt.new.length k1) ∧ wc.cell? ⟨g, 2, none⟩ = some (.slice B2 rt.moves.length k2) := ⟨xg.cellIs 0 _ rfl, xg.cellIs 1 _ rfl, xg.cellIs 2 _ rfl⟩
      by_cases hrc : rc = 0
      · have hq0 := HQ.out hrc
        have HQ0 := Lib.hid hq0
        clear hq0 HQ
        subst hrc
        have hrd := xt.rd
        go_wp2_with fail
        refine (table_Right rt _ wc hrd HQ0.out).mono ?_
        rintro e w5 ⟨rfl, hb5⟩
        have xg5 := xg.below hb5
        have xt5 := xt.below hb5
        have xr5 := xr.below hb5
        have xB5 : Below w.heap.size w w5 := xB.trans (hb5.mono xB.size)
        have xF5 : Far w w5 := far_trans xF (far_below hb5)
        clear p0 p1 p2 xg xt xr xB xF hb5 hrd
        have p0 := xg5.cellIs 0 (.slice B0 rt.old.length k0) rfl
        have p1 := xg5.cellIs 1 (.slice B1 rt.new.length k1) rfl
        have p2 := xg5.cellIs 2 (.slice B2 rt.moves.length k2) rfl
        have y0 := xr5.cellIs 0 (.slice none 0 0) rfl
        have y1 := xr5.cellIs 1 (.slice none 0 0) rfl
        have y2 := xr5.cellIs 2 (.slice none 0 0) rfl
        have z0 := xr5.frozen 0
        have z1 := xr5.frozen 1
        have z2 := xr5.frozen 2
        cases hb : tabB rt with
        | false =>
          have HE : Hid (afterT (rt, 0) = (Tb.zero, 80)) := by unfold afterT; dsimp only; rw [hb]; rfl
          clear hb
          go_wp2_with fail
          refine bodyPost_ret (v := .tuple #[.agg #[.slice none 0 0, .slice none 0 0, .slice none 0 0], .int .i64 80]) (by simp [results, Try.results15, go_sem, y0, y1, y2]) rfl ⟨_, by rw [HE.out], ?_, ?_, ?_⟩
          · rw [HE.out]; exact OwnTab.zero _ _
          · exact below_set (below_set (below_set xB5 (by omega) _ _) (by omega) _ _) (by omega) _ _
          · exact far_set (far_set (far_set xF5 (by omega) _ _) (by omega) _ _) (by omega) _ _
        | true =>
          have HE : Hid (afterT (rt, 0) = (rt, 0)) := by unfold afterT; dsimp only; rw [hb]; rfl
          clear hb
          go_wp2_with fail
          refine bodyPost_ret (v := .tuple #[.agg #[.slice B0 rt.old.length k0, .slice B1 rt.new.length k1, .slice B2 rt.moves.length k2], .int .i64 0]) (by simp [results, Try.results15, go_sem, y0, y1, y2]) rfl ⟨_, by rw [HE.out], ?_, ?_, ?_⟩
          · rw [HE.out]; exact xt5.stored xr5 _ _ _ _ _ _
          · exact below_set (below_set (below_set xB5 (by omega) _ _) (by omega) _ _) (by omega) _ _
          · exact far_set (far_set (far_set xF5 (by omega) _ _) (by omega) _ _) (by omega) _ _
      · have hrc1 : (rc == 0) = false := beq_eq_false_iff_ne.2 hrc
        have hrc2 : (rc != 0) = true := by rw [bne_iff_ne]; exact hrc
        have HE : Hid (afterT (rt, rc) = (Tb.zero, rc)) := by unfold afterT; dsimp only; rw [if_neg hrc]; exact rfl
        have y0 := xr.cellIs 0 (.slice none 0 0) rfl
        have y1 := xr.cellIs 1 (.slice none 0 0) rfl
        have y2 := xr.cellIs 2 (.slice none 0 0) rfl
        have z0 := xr.frozen 0
        have z1 := xr.frozen 1
        have z2 := xr.frozen 2
        go_wp2_with fail
        refine bodyPost_ret (v := .tuple #[.agg #[.slice none 0 0, .slice none 0 0, .slice none 0 0], .int .i64 rc]) (by simp [results, Try.results15, go_sem, y0, y1, y2]) rfl ⟨_, by rw [HE.out], ?_, ?_, ?_⟩
        · rw [HE.out]; exact OwnTab.zero _ _
        · exact below_set (below_set (below_set xB (by omega) _ _) (by omega) _ _) (by omega) _ _
        · exact far_set (far_set (far_set xF (by omega) _ _) (by omega) _ _) (by omega) _ _
set_option maxHeartbeats 1000000 in
set_option maxRecDepth 100000 in
theorem change_MakeD (l : List Fld) (c : Ch) (A B : Option Addr) (cl cp : Nat) (w : World) (hr : RS FF w A l) (hok : FsOk l) (hlc : l.length ≤ cl) (ho : RS FI w B c.order) (hlo : c.order.length ≤ cp) (hc : ChOk c) (hlen : l.length ≤ 16) (ho5 : c.order.length ≤ 40000)
    (hR : rightL l = true) (hop : c.op = 2) (rt : Tb) (rc : Int) (hrt : namedT dropsS (sameT l) c = (rt, rc)) (hq : rc = 0 → TbOk rt) :
    Calls Try.prog 15 #[.slice A l.length cl, .agg (chCells c B cp)] w (RetTE w w.heap.size (afterT (rt, rc))) := by
  have HR := Lib.hid hR
  have hs2 : (sameT l).old = l ∧ (sameT l).new = l ∧ (sameT l).moves.length = l.length := by unfold sameT; rw [hR]; exact ⟨rfl, rfl, mvs_length _⟩
  have HS := Lib.hid hs2
  have HP := Lib.hid hop
  have HT := Lib.hid hrt
  have HQ := Lib.hid hq
  clear hR hs2 hop hrt hq
  have hmm := @run_makeMap Try.prog
  have s0 := MkSt.start w c B cp
  go_enter Try.func15, Try.ntmps15
  go_upto_region 1 with fail
  go_cut [6] (fun s wx => s = .map (some (w.heap.size + 1 + 1)) ∧ MkSt w wx c B cp 6 (waysOf (w.heap.size + 3) (w.heap.size + 4) (w.heap.size + 5)) 5 ∧ Blk wx (w.heap.size + 3) 70 #[.func (.func 28) #[] #[]] ∧ Blk wx (w.heap.size + 4) 70 #[.func (.func 29) #[] #[]] ∧ Blk wx (w.heap.size + 5) 70 #[.func (.func 30) #[] #[]])
  case first =>
    go_wp2_with (refine wp_insert (r := w.heap.size + 1 + 1) (n := 1) (val := .func (.func 26) #[] #[]) rfl rfl 3 68 Try.underlying71 Try.underlying3 rfl rfl rfl s0.map rfl ?_; refine Stopped.out ?_)
    constructor
    intro w1 hb1 hg1 hz1
    have s1 := s0.ins hb1 hg1 (by first | omega | (simp at hz1; omega))
    clear hb1 hg1 hz1 s0
    go_wp2_with fail
    refine (change_namedD _).mono ?_
    rintro e w2 ⟨rfl, rfl⟩
    have s2 := s1.more (Obj.cells #[.func (.func 28) #[] #[]] 70)
    have z1 := s1.size
    have x1 := Blk.newAt w1 (w.heap.size + 3) z1 70 #[.func (.func 28) #[] #[]]
    go_wp2_with (refine wp_insert (r := w.heap.size + 1 + 1) (n := 2) (val := wayOf (w.heap.size + 3)) rfl rfl 3 68 Try.underlying71 Try.underlying3 rfl rfl rfl s2.map rfl ?_; refine Stopped.out ?_)
    constructor
    intro w3 hb3 hg3 hz3
    have s3 := s2.ins hb3 hg3 (by first | omega | (simp at hz3; omega))
    have x3 := x1.insd hg3 (by omega)
    clear hb3 hg3 hz3 s2 s1 x1
    go_wp2_with fail
    refine (change_namedR _).mono ?_
    rintro e w4 ⟨rfl, rfl⟩
    have s4 := s3.more (Obj.cells #[.func (.func 29) #[] #[]] 70)
    have z3 := s3.size
    have y1 := Blk.newAt w3 (w.heap.size + 4) z3 70 #[.func (.func 29) #[] #[]]
    have x4 := x3.alloc (Obj.cells #[.func (.func 29) #[] #[]] 70)
    go_wp2_with (refine wp_insert (r := w.heap.size + 1 + 1) (n := 3) (val := wayOf (w.heap.size + 4)) rfl rfl 3 68 Try.underlying71 Try.underlying3 rfl rfl rfl s4.map rfl ?_; refine Stopped.out ?_)
    constructor
    intro w5 hb5 hg5 hz5
    have s5 := s4.ins hb5 hg5 (by first | omega | (simp at hz5; omega))
    have x5 := x4.insd hg5 (by omega)
    have y5 := y1.insd hg5 (by omega)
    clear hb5 hg5 hz5 s4 s3 x3 x4 y1
    go_wp2_with fail
    refine (change_namedC _).mono ?_
    rintro e w6 ⟨rfl, rfl⟩
    have s6 := s5.more (Obj.cells #[.func (.func 30) #[] #[]] 70)
    have z5 := s5.size
    have v1 := Blk.newAt w5 (w.heap.size + 5) z5 70 #[.func (.func 30) #[] #[]]
    have x6 := x5.alloc (Obj.cells #[.func (.func 30) #[] #[]] 70)
    have y6 := y5.alloc (Obj.cells #[.func (.func 30) #[] #[]] 70)
    go_wp2_with (refine wp_insert (r := w.heap.size + 1 + 1) (n := 4) (val := wayOf (w.heap.size + 5)) rfl rfl 3 68 Try.underlying71 Try.underlying3 rfl rfl rfl s6.map rfl ?_; refine Stopped.out ?_)
    constructor
    intro w7 hb7 hg7 hz7
    have s7 := s6.ins hb7 hg7 (by first | omega | (simp at hz7; omega))
    have z7 := s7.size
    have x7 := x6.insd hg7 (by omega)
    have y7 := y6.insd hg7 (by omega)
    have v7 := v1.insd hg7 (by omega)
    clear hb7 hg7 hz7 s6 s5 x6 x5 y6 y5 v1
    go_wp2_with (refine wp_insert (r := w.heap.size + 1 + 1) (n := 5) (val := .func (.func 31) #[] #[]) rfl rfl 3 68 Try.underlying71 Try.underlying3 rfl rfl rfl s7.map rfl ?_; refine Stopped.out ?_)
    constructor
    intro w9 hb9 hg9 hz9
    have s9 := s7.ins hb9 hg9 (by first | omega | (simp at hz9; omega))
    have x9 := x7.insd hg9 (by omega)
    have y9 := y7.insd hg9 (by omega)
    have v9 := v7.insd hg9 (by omega)
    clear hb9 hg9 hz9 s7 x7 y7 v7
    go_wp2_with fail
    go_meet
    exact ⟨rfl, s9, x9, y9, v9⟩
  case rest =>
    obtain ⟨rfl, s1, f1, f2, f3⟩ := hcut
    have hlk := look_hitD _ _ _ _ _ c.op wc s1.map HP.out
    have d0 := s1.box
    have d1 := s1.res
    have u0 := d0.cellIs 0 (.int .i64 c.op) rfl
    have hr1 := hr.below s1.below
    have ho1 := ho.below s1.below
    go_wp2_with fail
    refine (field_RightIs hr1 hok hlc HR.out).mono ?_
    rintro e w1 ⟨rfl, hb1⟩
    have hB1 : Below w.heap.size w w1 := s1.below.trans (hb1.mono s1.below.size)
    have e0 := d0.below hb1
    have e1 := d1.below hb1
    have g1 := f1.below hb1
    have g2 := f2.below hb1
    have g3 := f3.below hb1
    have hr2 := hr1.below hb1
    have ho2 := ho1.below hb1
    clear d0 d1 u0 hr1 ho1 f1 f2 f3 s1 hb1 hr ho
    have hway : ∀ (v : Value) (W : World), OwnTab W w1.heap.size v (sameT l) → Below w1.heap.size w1 W → Calls Try.prog 51 #[v, .agg (chCells c B cp), .pointer (some ⟨w.heap.size + 3, 0, none⟩)] W (RetTE W w1.heap.size (rt, rc)) := by
      intro v W hv hW
      have hn0 : (sameT l).old.length = l.length := by rw [HS.out.1]
      have hn1 : (sameT l).new.length = l.length := by rw [HS.out.2.1]
      have hn2 : (sameT l).moves.length = l.length := HS.out.2.2
      have hs := hW.size
      rw [← HT.out]
      exact change_namedDrop (sameT l) c v B cp w1.heap.size _ W hv hs (by omega) ((g1.below hW).cellIs 0 _ rfl) (fun k w' hk h1 h2 => change_drops (sameT l) c v B cp w1.heap.size k w' h1 h2 (by omega) (by omega) (by omega) (by omega))
    have HWAY := Lib.hid hway
    clear hway g1 g2 g3
    have v0 := e0.cellIs 0 (.int .i64 c.op) rfl
    have e9 : ∀ W', Below w1.heap.size w1 W' → Blk W' w.heap.size 52 (chCells c B cp) := fun W' h => e0.below h
    have y9 : ∀ W', Below w1.heap.size w1 W' → Blk W' (w.heap.size + 1) 28 #[.slice none 0 0, .slice none 0 0, .slice none 0 0] := fun W' h => e1.below h
    obtain ⟨v1, v2, v3, v4, v5, v6, v7, v8⟩ := ch_cells e0
    have hW1 : w.heap.size + 1 < w1.heap.size := e1.lt
    have hn1 : w.heap.size ≠ w1.heap.size := by omega
    have hn2 : ¬ w1.heap.size = w.heap.size := by omega
    have hlW : w.heap.size ≤ w1.heap.size := by omega
    go_upto_region 7 with fail
    go_cut [9, 10] (fun s9 s10 wx => MkMid w wx rt rc s9 s10)
    case first =>
      go_region_held3 (fun w' => w'.cell? ⟨w.heap.size, 0, none⟩ = some (.int .i64 c.op) ∧ w'.cell? ⟨w.heap.size, 1, none⟩ = some (.string c.name) ∧ w'.cell? ⟨w.heap.size, 2, none⟩ = some (.string c.dst.name) ∧ w'.cell? ⟨w.heap.size, 3, none⟩ = some (.int .i64 c.dst.kind) ∧ w'.cell? ⟨w.heap.size, 4, none⟩ = some (.int .i64 c.dst.long) ∧ w'.cell? ⟨w.heap.size, 5, none⟩ = some (.int .i64 c.dflt.kind) ∧ w'.cell? ⟨w.heap.size, 6, none⟩ = some (.int .u64 c.dflt.bits) ∧ w'.cell? ⟨w.heap.size, 7, none⟩ = some (.string c.dflt.text) ∧ w'.cell? ⟨w.heap.size, 8, none⟩ = some (.slice B c.order.length cp)) (go_keep)
        (first
          | (go_at_call 17; refine (same_at l A cl (by first | exact (Below.refl _ _).drew | exact ((Below.refl _ _).alloc (Nat.le_refl _) _).drew | exact ((Below.refl _ _).drew).alloc (Nat.le_refl _) _) hr2 hok hlc).mono ?_; rintro e w3 ⟨v3, rfl, ht3, hb39, hbW⟩; obtain ⟨m1, m2, m3, m4, m5, m6, m7, m8⟩ := ch_cells (e9 w3 hb39); have m0 := (e9 w3 hb39).cellIs 0 (.int .i64 c.op) rfl; have hn3 : w.heap.size ≠ w3.heap.size := (by have := hb39.size; omega); have hn4 : ¬ w3.heap.size = w.heap.size := (by have := hb39.size; omega); try have t9 : Blk w3 w1.heap.size 28 #[.slice none 0 0, .slice none 0 0, .slice none 0 0] := (by first | exact (Blk.new w1 _ _).below hbW | exact (Blk.drew (Blk.new w1 _ _)).below hbW | exact (Blk.new w1.drew _ _).below hbW))
          | (go_at_call 51; refine (HWAY.out v3 _ (by first | exact ht3 | exact ht3.below ((Below.refl _ _).alloc (Nat.le_refl _) _)) (by first | exact hb39 | exact hb39.alloc hb39.size _)).mono ?_; rintro e w4 ⟨v4, rfl, ht4, hb4, hf4⟩; have e4 : Blk w4 w.heap.size 52 (chCells c B cp) := (by first | exact hf4 _ _ _ (by decide) (by decide) (e9 w3 hb39) | exact hf4 _ _ _ (by decide) (by decide) ((e9 w3 hb39).alloc _)); have y4 : Blk w4 (w.heap.size + 1) 28 #[.slice none 0 0, .slice none 0 0, .slice none 0 0] := (by first | exact hf4 _ _ _ (by decide) (by decide) (y9 w3 hb39) | exact hf4 _ _ _ (by decide) (by decide) ((y9 w3 hb39).alloc _)); have hB4 : Below w.heap.size w w4 := (by first | exact hB1.trans ((hb39.trans hb4).mono hlW) | exact hB1.trans (((hb39.alloc hb39.size _).trans hb4).mono hlW)); have hF4 : Far w w4 := (by first | exact far_trans (far_below hB1) (far_trans (far_below hb39) hf4) | exact far_trans (far_below hB1) (far_trans (far_below (hb39.alloc hb39.size _)) hf4)); obtain ⟨n1, n2, n3, n4, n5, n6, n7, n8⟩ := ch_cells e4; have n0 := e4.cellIs 0 (.int .i64 c.op) rfl; have ht4' := ht4; obtain ⟨B0, k0, B1, k1, B2, k2, rfl, _, _, _, _⟩ := ht4'; (try (have t10 : Blk w4 w1.heap.size 28 #[.slice none 0 0, .slice none 0 0, .slice none 0 0] := hf4 _ _ _ (by decide) (by decide) t9; have t10a := t10.frozen 0; have t10b := t10.frozen 1; have t10c := t10.frozen 2; have t10d := t10.cellIs 0 _ rfl; have t10e := t10.cellIs 1 _ rfl; have t10f := t10.cellIs 2 _ rfl)); (try (have t11 : Blk w4 w3.heap.size 28 #[.slice none 0 0, .slice none 0 0, .slice none 0 0] := hf4 _ _ _ (by decide) (by decide) (Blk.new w3 _ _); have t11a := t11.frozen 0; have t11b := t11.frozen 1; have t11c := t11.frozen 2; have t11d := t11.cellIs 0 _ rfl; have t11e := t11.cellIs 1 _ rfl; have t11f := t11.cellIs 2 _ rfl)))
          | (fail))
      all_goals (go_wp2_with fail; go_meet)
      · exact mk_new hlW y4 ht4 hB4 hF4
      · exact mk_end hlW y4 t11 ht4 hB4 hF4 (by have := hb39.size; omega)
      · exact mk_end hlW y4 t10 ht4 hB4 hF4 (by omega)
    case rest =>
      obtain ⟨g, B0, B1, B2, k0, k1, k2, rfl, rfl, xg, xt, xr, xB, xF, xg2⟩ := hcut
      clear e0 e1 e9 y9 v0 v1 v2 v3 v4 v5 v6 v7 v8 hr2 ho2 hn1 hn2 HWAY hB1 hlk hlW hW1
      obtain ⟨p0, p1, p2⟩ : wc.cell? ⟨g, 0, none⟩ = some (.slice B0 rt.old.length k0) ∧ wc.cell? ⟨g, 1, none⟩ = some (.slice B1 rt.new.length k1) ∧ wc.cell? ⟨g, 2, none⟩ = some (.slice B2 rt.moves.length k2) := ⟨xg.cellIs 0 _ rfl, xg.cellIs 1 _ rfl, xg.cellIs 2 _ rfl⟩
      by_cases hrc : rc = 0
      · have hq0 := HQ.out hrc
        have HQ0 := Lib.hid hq0
        clear hq0 HQ
        subst hrc
        have hrd := xt.rd
        go_wp2_with fail
        refine (table_Right rt _ wc hrd HQ0.out).mono ?_
        rintro e w5 ⟨rfl, hb5⟩
        have xg5 := xg.below hb5
        have xt5 := xt.below hb5
        have xr5 := xr.below hb5
        have xB5 : Below w.heap.size w w5 := xB.trans (hb5.mono xB.size)
        have xF5 : Far w w5 := far_trans xF (far_below hb5)
        clear p0 p1 p2 xg xt xr xB xF hb5 hrd
        have p0 := xg5.cellIs 0 (.slice B0 rt.old.length k0) rfl
        have p1 := xg5.cellIs 1 (.slice B1 rt.new.length k1) rfl
        have p2 := xg5.cellIs 2 (.slice B2 rt.moves.length k2) rfl
        have y0 := xr5.cellIs 0 (.slice none 0 0) rfl
        have y1 := xr5.cellIs 1 (.slice none 0 0) rfl
        have y2 := xr5.cellIs 2 (.slice none 0 0) rfl
        have z0 := xr5.frozen 0
        have z1 := xr5.frozen 1
        have z2 := xr5.frozen 2
        cases hb : tabB rt with
        | false =>
          have HE : Hid (afterT (rt, 0) = (Tb.zero, 80)) := by unfold afterT; dsimp only; rw [hb]; rfl
          clear hb
          go_wp2_with fail
          refine bodyPost_ret (v := .tuple #[.agg #[.slice none 0 0, .slice none 0 0, .slice none 0 0], .int .i64 80]) (by simp [results, Try.results15, go_sem, y0, y1, y2]) rfl ⟨_, by rw [HE.out], ?_, ?_, ?_⟩
          · rw [HE.out]; exact OwnTab.zero _ _
          · exact below_set (below_set (below_set xB5 (by omega) _ _) (by omega) _ _) (by omega) _ _
          · exact far_set (far_set (far_set xF5 (by omega) _ _) (by omega) _ _) (by omega) _ _
        | true =>
          have HE : Hid (afterT (rt, 0) = (rt, 0)) := by unfold afterT; dsimp only; rw [hb]; rfl
          clear hb
          go_wp2_with fail
          refine bodyPost_ret (v := .tuple #[.agg #[.slice B0 rt.old.length k0, .slice B1 rt.new.length k1, .slice B2 rt.moves.length k2], .int .i64 0]) (by simp [results, Try.results15, go_sem, y0, y1, y2]) rfl ⟨_, by rw [HE.out], ?_, ?_, ?_⟩
          · rw [HE.out]; exact xt5.stored xr5 _ _ _ _ _ _
          · exact below_set (below_set (below_set xB5 (by omega) _ _) (by omega) _ _) (by omega) _ _
          · exact far_set (far_set (far_set xF5 (by omega) _ _) (by omega) _ _) (by omega) _ _
      · have hrc1 : (rc == 0) = false := beq_eq_false_iff_ne.2 hrc
        have hrc2 : (rc != 0) = true := by rw [bne_iff_ne]; exact hrc
        have HE : Hid (afterT (rt, rc) = (Tb.zero, rc)) := by unfold afterT; dsimp only; rw [if_neg hrc]; exact rfl
        have y0 := xr.cellIs 0 (.slice none 0 0) rfl
        have y1 := xr.cellIs 1 (.slice none 0 0) rfl
        have y2 := xr.cellIs 2 (.slice none 0 0) rfl
        have z0 := xr.frozen 0
        have z1 := xr.frozen 1
        have z2 := xr.frozen 2
        go_wp2_with fail
        refine bodyPost_ret (v := .tuple #[.agg #[.slice none 0 0, .slice none 0 0, .slice none 0 0], .int .i64 rc]) (by simp [results, Try.results15, go_sem, y0, y1, y2]) rfl ⟨_, by rw [HE.out], ?_, ?_, ?_⟩
        · rw [HE.out]; exact OwnTab.zero _ _
        · exact below_set (below_set (below_set xB (by omega) _ _) (by omega) _ _) (by omega) _ _
        · exact far_set (far_set (far_set xF (by omega) _ _) (by omega) _ _) (by omega) _ _
set_option maxHeartbeats 1000000 in
set_option maxRecDepth 100000 in
theorem change_MakeR (l : List Fld) (c : Ch) (A B : Option Addr) (cl cp : Nat) (w : World) (hr : RS FF w A l) (hok : FsOk l) (hlc : l.length ≤ cl) (ho : RS FI w B c.order) (hlo : c.order.length ≤ cp) (hc : ChOk c) (hlen : l.length ≤ 16) (ho5 : c.order.length ≤ 40000)
    (hR : rightL l = true) (hop : c.op = 3) (rt : Tb) (rc : Int) (hrt : namedT renamesS (sameT l) c = (rt, rc)) (hq : rc = 0 → TbOk rt) :
    Calls Try.prog 15 #[.slice A l.length cl, .agg (chCells c B cp)] w (RetTE w w.heap.size (afterT (rt, rc))) := by
  have HR := Lib.hid hR
  have hs2 : (sameT l).old = l ∧ (sameT l).new = l ∧ (sameT l).moves.length = l.length := by unfold sameT; rw [hR]; exact ⟨rfl, rfl, mvs_length _⟩
  have HS := Lib.hid hs2
  have HP := Lib.hid hop
  have HT := Lib.hid hrt
  have HQ := Lib.hid hq
  clear hR hs2 hop hrt hq
  have hmm := @run_makeMap Try.prog
  have s0 := MkSt.start w c B cp
  go_enter Try.func15, Try.ntmps15
  go_upto_region 1 with fail
  go_cut [6] (fun s wx => s = .map (some (w.heap.size + 1 + 1)) ∧ MkSt w wx c B cp 6 (waysOf (w.heap.size + 3) (w.heap.size + 4) (w.heap.size + 5)) 5 ∧ Blk wx (w.heap.size + 3) 70 #[.func (.func 28) #[] #[]] ∧ Blk wx (w.heap.size + 4) 70 #[.func (.func 29) #[] #[]] ∧ Blk wx (w.heap.size + 5) 70 #[.func (.func 30) #[] #[]])
  case first =>
    go_wp2_with (refine wp_insert (r := w.heap.size + 1 + 1) (n := 1) (val := .func (.func 26) #[] #[]) rfl rfl 3 68 Try.underlying71 Try.underlying3 rfl rfl rfl s0.map rfl ?_; refine Stopped.out ?_)
    constructor
    intro w1 hb1 hg1 hz1
    have s1 := s0.ins hb1 hg1 (by first | omega | (simp at hz1; omega))
    clear hb1 hg1 hz1 s0
    go_wp2_with fail
    refine (change_namedD _).mono ?_
    rintro e w2 ⟨rfl, rfl⟩
    have s2 := s1.more (Obj.cells #[.func (.func 28) #[] #[]] 70)
    have z1 := s1.size
    have x1 := Blk.newAt w1 (w.heap.size + 3) z1 70 #[.func (.func 28) #[] #[]]
    go_wp2_with (refine wp_insert (r := w.heap.size + 1 + 1) (n := 2) (val := wayOf (w.heap.size + 3)) rfl rfl 3 68 Try.underlying71 Try.underlying3 rfl rfl rfl s2.map rfl ?_; refine Stopped.out ?_)
    constructor
    intro w3 hb3 hg3 hz3
    have s3 := s2.ins hb3 hg3 (by first | omega | (simp at hz3; omega))
    have x3 := x1.insd hg3 (by omega)
    clear hb3 hg3 hz3 s2 s1 x1
    go_wp2_with fail
    refine (change_namedR _).mono ?_
    rintro e w4 ⟨rfl, rfl⟩
    have s4 := s3.more (Obj.cells #[.func (.func 29) #[] #[]] 70)
    have z3 := s3.size
    have y1 := Blk.newAt w3 (w.heap.size + 4) z3 70 #[.func (.func 29) #[] #[]]
    have x4 := x3.alloc (Obj.cells #[.func (.func 29) #[] #[]] 70)
    go_wp2_with (refine wp_insert (r := w.heap.size + 1 + 1) (n := 3) (val := wayOf (w.heap.size + 4)) rfl rfl 3 68 Try.underlying71 Try.underlying3 rfl rfl rfl s4.map rfl ?_; refine Stopped.out ?_)
    constructor
    intro w5 hb5 hg5 hz5
    have s5 := s4.ins hb5 hg5 (by first | omega | (simp at hz5; omega))
    have x5 := x4.insd hg5 (by omega)
    have y5 := y1.insd hg5 (by omega)
    clear hb5 hg5 hz5 s4 s3 x3 x4 y1
    go_wp2_with fail
    refine (change_namedC _).mono ?_
    rintro e w6 ⟨rfl, rfl⟩
    have s6 := s5.more (Obj.cells #[.func (.func 30) #[] #[]] 70)
    have z5 := s5.size
    have v1 := Blk.newAt w5 (w.heap.size + 5) z5 70 #[.func (.func 30) #[] #[]]
    have x6 := x5.alloc (Obj.cells #[.func (.func 30) #[] #[]] 70)
    have y6 := y5.alloc (Obj.cells #[.func (.func 30) #[] #[]] 70)
    go_wp2_with (refine wp_insert (r := w.heap.size + 1 + 1) (n := 4) (val := wayOf (w.heap.size + 5)) rfl rfl 3 68 Try.underlying71 Try.underlying3 rfl rfl rfl s6.map rfl ?_; refine Stopped.out ?_)
    constructor
    intro w7 hb7 hg7 hz7
    have s7 := s6.ins hb7 hg7 (by first | omega | (simp at hz7; omega))
    have z7 := s7.size
    have x7 := x6.insd hg7 (by omega)
    have y7 := y6.insd hg7 (by omega)
    have v7 := v1.insd hg7 (by omega)
    clear hb7 hg7 hz7 s6 s5 x6 x5 y6 y5 v1
    go_wp2_with (refine wp_insert (r := w.heap.size + 1 + 1) (n := 5) (val := .func (.func 31) #[] #[]) rfl rfl 3 68 Try.underlying71 Try.underlying3 rfl rfl rfl s7.map rfl ?_; refine Stopped.out ?_)
    constructor
    intro w9 hb9 hg9 hz9
    have s9 := s7.ins hb9 hg9 (by first | omega | (simp at hz9; omega))
    have x9 := x7.insd hg9 (by omega)
    have y9 := y7.insd hg9 (by omega)
    have v9 := v7.insd hg9 (by omega)
    clear hb9 hg9 hz9 s7 x7 y7 v7
    go_wp2_with fail
    go_meet
    exact ⟨rfl, s9, x9, y9, v9⟩
  case rest =>
    obtain ⟨rfl, s1, f1, f2, f3⟩ := hcut
    have hlk := look_hitR _ _ _ _ _ c.op wc s1.map HP.out
    have d0 := s1.box
    have d1 := s1.res
    have u0 := d0.cellIs 0 (.int .i64 c.op) rfl
    have hr1 := hr.below s1.below
    have ho1 := ho.below s1.below
    go_wp2_with fail
    refine (field_RightIs hr1 hok hlc HR.out).mono ?_
    rintro e w1 ⟨rfl, hb1⟩
    have hB1 : Below w.heap.size w w1 := s1.below.trans (hb1.mono s1.below.size)
    have e0 := d0.below hb1
    have e1 := d1.below hb1
    have g1 := f1.below hb1
    have g2 := f2.below hb1
    have g3 := f3.below hb1
    have hr2 := hr1.below hb1
    have ho2 := ho1.below hb1
    clear d0 d1 u0 hr1 ho1 f1 f2 f3 s1 hb1 hr ho
    have hway : ∀ (v : Value) (W : World), OwnTab W w1.heap.size v (sameT l) → Below w1.heap.size w1 W → Calls Try.prog 51 #[v, .agg (chCells c B cp), .pointer (some ⟨w.heap.size + 4, 0, none⟩)] W (RetTE W w1.heap.size (rt, rc)) := by
      intro v W hv hW
      have hn0 : (sameT l).old.length = l.length := by rw [HS.out.1]
      have hn1 : (sameT l).new.length = l.length := by rw [HS.out.2.1]
      have hn2 : (sameT l).moves.length = l.length := HS.out.2.2
      have hs := hW.size
      rw [← HT.out]
      exact change_namedRename (sameT l) c v B cp w1.heap.size _ W hv hs (by omega) ((g2.below hW).cellIs 0 _ rfl) (fun k w' hk h1 h2 => change_renames (sameT l) c v B cp w1.heap.size k w' h1 h2 (by omega) (by omega))
    have HWAY := Lib.hid hway
    clear hway g1 g2 g3
    have v0 := e0.cellIs 0 (.int .i64 c.op) rfl
    have e9 : ∀ W', Below w1.heap.size w1 W' → Blk W' w.heap.size 52 (chCells c B cp) := fun W' h => e0.below h
    have y9 : ∀ W', Below w1.heap.size w1 W' → Blk W' (w.heap.size + 1) 28 #[.slice none 0 0, .slice none 0 0, .slice none 0 0] := fun W' h => e1.below h
    obtain ⟨v1, v2, v3, v4, v5, v6, v7, v8⟩ := ch_cells e0
    have hW1 : w.heap.size + 1 < w1.heap.size := e1.lt
    have hn1 : w.heap.size ≠ w1.heap.size := by omega
    have hn2 : ¬ w1.heap.size = w.heap.size := by omega
    have hlW : w.heap.size ≤ w1.heap.size := by omega
    go_upto_region 7 with fail
    go_cut [9, 10] (fun s9 s10 wx => MkMid w wx rt rc s9 s10)
    case first =>
      go_region_held3 (fun w' => w'.cell? ⟨w.heap.size, 0, none⟩ = some (.int .i64 c.op) ∧ w'.cell? ⟨w.heap.size, 1, none⟩ = some (.string c.name) ∧ w'.cell? ⟨w.heap.size, 2, none⟩ = some (.string c.dst.name) ∧ w'.cell? ⟨w.heap.size, 3, none⟩ = some (.int .i64 c.dst.kind) ∧ w'.cell? ⟨w.heap.size, 4, none⟩ = some (.int .i64 c.dst.long) ∧ w'.cell? ⟨w.heap.size, 5, none⟩ = some (.int .i64 c.dflt.kind) ∧ w'.cell? ⟨w.heap.size, 6, none⟩ = some (.int .u64 c.dflt.bits) ∧ w'.cell? ⟨w.heap.size, 7, none⟩ = some (.string c.dflt.text) ∧ w'.cell? ⟨w.heap.size, 8, none⟩ = some (.slice B c.order.length cp)) (go_keep)
        (first
          | (go_at_call 17; refine (same_at l A cl (by first | exact (Below.refl _ _).drew | exact ((Below.refl _ _).alloc (Nat.le_refl _) _).drew | exact ((Below.refl _ _).drew).alloc (Nat.le_refl _) _) hr2 hok hlc).mono ?_; rintro e w3 ⟨v3, rfl, ht3, hb39, hbW⟩; obtain ⟨m1, m2, m3, m4, m5, m6, m7, m8⟩ := ch_cells (e9 w3 hb39); have m0 := (e9 w3 hb39).cellIs 0 (.int .i64 c.op) rfl; have hn3 : w.heap.size ≠ w3.heap.size := (by have := hb39.size; omega); have hn4 : ¬ w3.heap.size = w.heap.size := (by have := hb39.size; omega); try have t9 : Blk w3 w1.heap.size 28 #[.slice none 0 0, .slice none 0 0, .slice none 0 0] := (by first | exact (Blk.new w1 _ _).below hbW | exact (Blk.drew (Blk.new w1 _ _)).below hbW | exact (Blk.new w1.drew _ _).below hbW))
          | (go_at_call 51; refine (HWAY.out v3 _ (by first | exact ht3 | exact ht3.below ((Below.refl _ _).alloc (Nat.le_refl _) _)) (by first | exact hb39 | exact hb39.alloc hb39.size _)).mono ?_; rintro e w4 ⟨v4, rfl, ht4, hb4, hf4⟩; have e4 : Blk w4 w.heap.size 52 (chCells c B cp) := (by first | exact hf4 _ _ _ (by decide) (by decide) (e9 w3 hb39) | exact hf4 _ _ _ (by decide) (by decide) ((e9 w3 hb39).alloc _)); have y4 : Blk w4 (w.heap.size + 1) 28 #[.slice none 0 0, .slice none 0 0, .slice none 0 0] := (by first | exact hf4 _ _ _ (by decide) (by decide) (y9 w3 hb39) | exact hf4 _ _ _ (by decide) (by decide) ((y9 w3 hb39).alloc _)); have hB4 : Below w.heap.size w w4 := (by first | exact hB1.trans ((hb39.trans hb4).mono hlW) | exact hB1.trans (((hb39.alloc hb39.size _).trans hb4).mono hlW)); have hF4 : Far w w4 := (by first | exact far_trans (far_below hB1) (far_trans (far_below hb39) hf4) | exact far_trans (far_below hB1) (far_trans (far_below (hb39.alloc hb39.size _)) hf4)); obtain ⟨n1, n2, n3, n4, n5, n6, n7, n8⟩ := ch_cells e4; have n0 := e4.cellIs 0 (.int .i64 c.op) rfl; have ht4' := ht4; obtain ⟨B0, k0, B1, k1, B2, k2, rfl, _, _, _, _⟩ := ht4'; (try (have t10 : Blk w4 w1.heap.size 28 #[.slice none 0 0, .slice none 0 0, .slice none 0 0] := hf4 _ _ _ (by decide) (by decide) t9; have t10a := t10.frozen 0; have t10b := t10.frozen 1; have t10c := t10.frozen 2; have t10d := t10.cellIs 0 _ rfl; have t10e := t10.cellIs 1 _ rfl; have t10f := t10.cellIs 2 _ rfl)); (try (have t11 : Blk w4 w3.heap.size 28 #[.slice none 0 0, .slice none 0 0, .slice none 0 0] := hf4 _ _ _ (by decide) (by decide) (Blk.new w3 _ _); have t11a := t11.frozen 0; have t11b := t11.frozen 1; have t11c := t11.frozen 2; have t11d := t11.cellIs 0 _ rfl; have t11e := t11.cellIs 1 _ rfl; have t11f := t11.cellIs 2 _ rfl)))
          | (fail))
      all_goals (go_wp2_with fail; go_meet)
      · exact mk_new hlW y4 ht4 hB4 hF4
      · exact mk_end hlW y4 t11 ht4 hB4 hF4 (by have := hb39.size; omega)
      · exact mk_end hlW y4 t10 ht4 hB4 hF4 (by omega)
    case rest =>
      obtain ⟨g, B0, B1, B2, k0, k1, k2, rfl, rfl, xg, xt, xr, xB, xF, xg2⟩ := hcut
      clear e0 e1 e9 y9 v0 v1 v2 v3 v4 v5 v6 v7 v8 hr2 ho2 hn1 hn2 HWAY hB1 hlk hlW hW1
      obtain ⟨p0, p1, p2⟩ : wc.cell? ⟨g, 0, none⟩ = some (.slice B0 rt.old.length k0) ∧ wc.cell? ⟨g, 1, none⟩ = some (.slice B1 rt.new.length k1) ∧ wc.cell? ⟨g, 2, none⟩ = some (.slice B2 rt.moves.length k2) := ⟨xg.cellIs 0 _ rfl, xg.cellIs 1 _ rfl, xg.cellIs 2 _ rfl⟩
      by_cases hrc : rc = 0
      · have hq0 := HQ.out hrc
        have HQ0 := Lib.hid hq0
        clear hq0 HQ
        subst hrc
        have hrd := xt.rd
        go_wp2_with fail
        refine (table_Right rt _ wc hrd HQ0.out).mono ?_
        rintro e w5 ⟨rfl, hb5⟩
        have xg5 := xg.below hb5
        have xt5 := xt.below hb5
        have xr5 := xr.below hb5
        have xB5 : Below w.heap.size w w5 := xB.trans (hb5.mono xB.size)
        have xF5 : Far w w5 := far_trans xF (far_below hb5)
        clear p0 p1 p2 xg xt xr xB xF hb5 hrd
        have p0 := xg5.cellIs 0 (.slice B0 rt.old.length k0) rfl
        have p1 := xg5.cellIs 1 (.slice B1 rt.new.length k1) rfl
        have p2 := xg5.cellIs 2 (.slice B2 rt.moves.length k2) rfl
        have y0 := xr5.cellIs 0 (.slice none 0 0) rfl
        have y1 := xr5.cellIs 1 (.slice none 0 0) rfl
        have y2 := xr5.cellIs 2 (.slice none 0 0) rfl
        have z0 := xr5.frozen 0
        have z1 := xr5.frozen 1
        have z2 := xr5.frozen 2
        cases hb : tabB rt with
        | false =>
          have HE : Hid (afterT (rt, 0) = (Tb.zero, 80)) := by unfold afterT; dsimp only; rw [hb]; rfl
          clear hb
          go_wp2_with fail
          refine bodyPost_ret (v := .tuple #[.agg #[.slice none 0 0, .slice none 0 0, .slice none 0 0], .int .i64 80]) (by simp [results, Try.results15, go_sem, y0, y1, y2]) rfl ⟨_, by rw [HE.out], ?_, ?_, ?_⟩
          · rw [HE.out]; exact OwnTab.zero _ _
          · exact below_set (below_set (below_set xB5 (by omega) _ _) (by omega) _ _) (by omega) _ _
          · exact far_set (far_set (far_set xF5 (by omega) _ _) (by omega) _ _) (by omega) _ _
        | true =>
          have HE : Hid (afterT (rt, 0) = (rt, 0)) := by unfold afterT; dsimp only; rw [hb]; rfl
          clear hb
          go_wp2_with fail
          refine bodyPost_ret (v := .tuple #[.agg #[.slice B0 rt.old.length k0, .slice B1 rt.new.length k1, .slice B2 rt.moves.length k2], .int .i64 0]) (by simp [results, Try.results15, go_sem, y0, y1, y2]) rfl ⟨_, by rw [HE.out], ?_, ?_, ?_⟩
          · rw [HE.out]; exact xt5.stored xr5 _ _ _ _ _ _
          · exact below_set (below_set (below_set xB5 (by omega) _ _) (by omega) _ _) (by omega) _ _
          · exact far_set (far_set (far_set xF5 (by omega) _ _) (by omega) _ _) (by omega) _ _
      · have hrc1 : (rc == 0) = false := beq_eq_false_iff_ne.2 hrc
        have hrc2 : (rc != 0) = true := by rw [bne_iff_ne]; exact hrc
        have HE : Hid (afterT (rt, rc) = (Tb.zero, rc)) := by unfold afterT; dsimp only; rw [if_neg hrc]; exact rfl
        have y0 := xr.cellIs 0 (.slice none 0 0) rfl
        have y1 := xr.cellIs 1 (.slice none 0 0) rfl
        have y2 := xr.cellIs 2 (.slice none 0 0) rfl
        have z0 := xr.frozen 0
        have z1 := xr.frozen 1
        have z2 := xr.frozen 2
        go_wp2_with fail
        refine bodyPost_ret (v := .tuple #[.agg #[.slice none 0 0, .slice none 0 0, .slice none 0 0], .int .i64 rc]) (by simp [results, Try.results15, go_sem, y0, y1, y2]) rfl ⟨_, by rw [HE.out], ?_, ?_, ?_⟩
        · rw [HE.out]; exact OwnTab.zero _ _
        · exact below_set (below_set (below_set xB (by omega) _ _) (by omega) _ _) (by omega) _ _
        · exact far_set (far_set (far_set xF (by omega) _ _) (by omega) _ _) (by omega) _ _
set_option maxHeartbeats 1000000 in
set_option maxRecDepth 100000 in
theorem change_MakeC (l : List Fld) (c : Ch) (A B : Option Addr) (cl cp : Nat) (w : World) (hr : RS FF w A l) (hok : FsOk l) (hlc : l.length ≤ cl) (ho : RS FI w B c.order) (hlo : c.order.length ≤ cp) (hc : ChOk c) (hlen : l.length ≤ 16) (ho5 : c.order.length ≤ 40000)
    (hR : rightL l = true) (hop : c.op = 4) (rt : Tb) (rc : Int) (hrt : namedT recastsT (sameT l) c = (rt, rc)) (hq : rc = 0 → TbOk rt) :
    Calls Try.prog 15 #[.slice A l.length cl, .agg (chCells c B cp)] w (RetTE w w.heap.size (afterT (rt, rc))) := by
  have HR := Lib.hid hR
  have hs2 : (sameT l).old = l ∧ (sameT l).new = l ∧ (sameT l).moves.length = l.length := by unfold sameT; rw [hR]; exact ⟨rfl, rfl, mvs_length _⟩
  have HS := Lib.hid hs2
  have HP := Lib.hid hop
  have HT := Lib.hid hrt
  have HQ := Lib.hid hq
  clear hR hs2 hop hrt hq
  have hmm := @run_makeMap Try.prog
  have s0 := MkSt.start w c B cp
  go_enter Try.func15, Try.ntmps15
  go_upto_region 1 with fail
  go_cut [6] (fun s wx => s = .map (some (w.heap.size + 1 + 1)) ∧ MkSt w wx c B cp 6 (waysOf (w.heap.size + 3) (w.heap.size + 4) (w.heap.size + 5)) 5 ∧ Blk wx (w.heap.size + 3) 70 #[.func (.func 28) #[] #[]] ∧ Blk wx (w.heap.size + 4) 70 #[.func (.func 29) #[] #[]] ∧ Blk wx (w.heap.size + 5) 70 #[.func (.func 30) #[] #[]])
  case first =>
    go_wp2_with (refine wp_insert (r := w.heap.size + 1 + 1) (n := 1) (val := .func (.func 26) #[] #[]) rfl rfl 3 68 Try.underlying71 Try.underlying3 rfl rfl rfl s0.map rfl ?_; refine Stopped.out ?_)
    constructor
    intro w1 hb1 hg1 hz1
    have s1 := s0.ins hb1 hg1 (by first | omega | (simp at hz1; omega))
    clear hb1 hg1 hz1 s0
    go_wp2_with fail
    refine (change_namedD _).mono ?_
    rintro e w2 ⟨rfl, rfl⟩
    have s2 := s1.more (Obj.cells #[.func (.func 28) #[] #[]] 70)
    have z1 := s1.size
    have x1 := Blk.newAt w1 (w.heap.size + 3) z1 70 #[.func (.func 28) #[] #[]]
    go_wp2_with (refine wp_insert (r := w.heap.size + 1 + 1) (n := 2) (val := wayOf (w.heap.size + 3)) rfl rfl 3 68 Try.underlying71 Try.underlying3 rfl rfl rfl s2.map rfl ?_; refine Stopped.out ?_)
    constructor
    intro w3 hb3 hg3 hz3
    have s3 := s2.ins hb3 hg3 (by first | omega | (simp at hz3; omega))
    have x3 := x1.insd hg3 (by omega)
    clear hb3 hg3 hz3 s2 s1 x1
    go_wp2_with fail
    refine (change_namedR _).mono ?_
    rintro e w4 ⟨rfl, rfl⟩
    have s4 := s3.more (Obj.cells #[.func (.func 29) #[] #[]] 70)
    have z3 := s3.size
    have y1 := Blk.newAt w3 (w.heap.size + 4) z3 70 #[.func (.func 29) #[] #[]]
    have x4 := x3.alloc (Obj.cells #[.func (.func 29) #[] #[]] 70)
    go_wp2_with (refine wp_insert (r := w.heap.size + 1 + 1) (n := 3) (val := wayOf (w.heap.size + 4)) rfl rfl 3 68 Try.underlying71 Try.underlying3 rfl rfl rfl s4.map rfl ?_; refine Stopped.out ?_)
    constructor
    intro w5 hb5 hg5 hz5
    have s5 := s4.ins hb5 hg5 (by first | omega | (simp at hz5; omega))
    have x5 := x4.insd hg5 (by omega)
    have y5 := y1.insd hg5 (by omega)
    clear hb5 hg5 hz5 s4 s3 x3 x4 y1
    go_wp2_with fail
    refine (change_namedC _).mono ?_
    rintro e w6 ⟨rfl, rfl⟩
    have s6 := s5.more (Obj.cells #[.func (.func 30) #[] #[]] 70)
    have z5 := s5.size
    have v1 := Blk.newAt w5 (w.heap.size + 5) z5 70 #[.func (.func 30) #[] #[]]
    have x6 := x5.alloc (Obj.cells #[.func (.func 30) #[] #[]] 70)
    have y6 := y5.alloc (Obj.cells #[.func (.func 30) #[] #[]] 70)
    go_wp2_with (refine wp_insert (r := w.heap.size + 1 + 1) (n := 4) (val := wayOf (w.heap.size + 5)) rfl rfl 3 68 Try.underlying71 Try.underlying3 rfl rfl rfl s6.map rfl ?_; refine Stopped.out ?_)
    constructor
    intro w7 hb7 hg7 hz7
    have s7 := s6.ins hb7 hg7 (by first | omega | (simp at hz7; omega))
    have z7 := s7.size
    have x7 := x6.insd hg7 (by omega)
    have y7 := y6.insd hg7 (by omega)
    have v7 := v1.insd hg7 (by omega)
    clear hb7 hg7 hz7 s6 s5 x6 x5 y6 y5 v1
    go_wp2_with (refine wp_insert (r := w.heap.size + 1 + 1) (n := 5) (val := .func (.func 31) #[] #[]) rfl rfl 3 68 Try.underlying71 Try.underlying3 rfl rfl rfl s7.map rfl ?_; refine Stopped.out ?_)
    constructor
    intro w9 hb9 hg9 hz9
    have s9 := s7.ins hb9 hg9 (by first | omega | (simp at hz9; omega))
    have x9 := x7.insd hg9 (by omega)
    have y9 := y7.insd hg9 (by omega)
    have v9 := v7.insd hg9 (by omega)
    clear hb9 hg9 hz9 s7 x7 y7 v7
    go_wp2_with fail
    go_meet
    exact ⟨rfl, s9, x9, y9, v9⟩
  case rest =>
    obtain ⟨rfl, s1, f1, f2, f3⟩ := hcut
    have hlk := look_hitC _ _ _ _ _ c.op wc s1.map HP.out
    have d0 := s1.box
    have d1 := s1.res
    have u0 := d0.cellIs 0 (.int .i64 c.op) rfl
    have hr1 := hr.below s1.below
    have ho1 := ho.below s1.below
    go_wp2_with fail
    refine (field_RightIs hr1 hok hlc HR.out).mono ?_
    rintro e w1 ⟨rfl, hb1⟩
    have hB1 : Below w.heap.size w w1 := s1.below.trans (hb1.mono s1.below.size)
    have e0 := d0.below hb1
    have e1 := d1.below hb1
    have g1 := f1.below hb1
    have g2 := f2.below hb1
    have g3 := f3.below hb1
    have hr2 := hr1.below hb1
    have ho2 := ho1.below hb1
    clear d0 d1 u0 hr1 ho1 f1 f2 f3 s1 hb1 hr ho
    have hway : ∀ (v : Value) (W : World), OwnTab W w1.heap.size v (sameT l) → Below w1.heap.size w1 W → Calls Try.prog 51 #[v, .agg (chCells c B cp), .pointer (some ⟨w.heap.size + 5, 0, none⟩)] W (RetTE W w1.heap.size (rt, rc)) := by
      intro v W hv hW
      have hn0 : (sameT l).old.length = l.length := by rw [HS.out.1]
      have hn1 : (sameT l).new.length = l.length := by rw [HS.out.2.1]
      have hn2 : (sameT l).moves.length = l.length := HS.out.2.2
      have hs := hW.size
      rw [← HT.out]
      exact change_namedRecast (sameT l) c v B cp w1.heap.size _ W hv hs (by omega) ((g3.below hW).cellIs 0 _ rfl) (fun k w' hk h1 h2 => change_recasts (sameT l) c v B cp w1.heap.size k w' h1 h2 (by omega) (by omega))
    have HWAY := Lib.hid hway
    clear hway g1 g2 g3
    have v0 := e0.cellIs 0 (.int .i64 c.op) rfl
    have e9 : ∀ W', Below w1.heap.size w1 W' → Blk W' w.heap.size 52 (chCells c B cp) := fun W' h => e0.below h
    have y9 : ∀ W', Below w1.heap.size w1 W' → Blk W' (w.heap.size + 1) 28 #[.slice none 0 0, .slice none 0 0, .slice none 0 0] := fun W' h => e1.below h
    obtain ⟨v1, v2, v3, v4, v5, v6, v7, v8⟩ := ch_cells e0
    have hW1 : w.heap.size + 1 < w1.heap.size := e1.lt
    have hn1 : w.heap.size ≠ w1.heap.size := by omega
    have hn2 : ¬ w1.heap.size = w.heap.size := by omega
    have hlW : w.heap.size ≤ w1.heap.size := by omega
    go_upto_region 7 with fail
    go_cut [9, 10] (fun s9 s10 wx => MkMid w wx rt rc s9 s10)
    case first =>
      go_region_held3 (fun w' => w'.cell? ⟨w.heap.size, 0, none⟩ = some (.int .i64 c.op) ∧ w'.cell? ⟨w.heap.size, 1, none⟩ = some (.string c.name) ∧ w'.cell? ⟨w.heap.size, 2, none⟩ = some (.string c.dst.name) ∧ w'.cell? ⟨w.heap.size, 3, none⟩ = some (.int .i64 c.dst.kind) ∧ w'.cell? ⟨w.heap.size, 4, none⟩ = some (.int .i64 c.dst.long) ∧ w'.cell? ⟨w.heap.size, 5, none⟩ = some (.int .i64 c.dflt.kind) ∧ w'.cell? ⟨w.heap.size, 6, none⟩ = some (.int .u64 c.dflt.bits) ∧ w'.cell? ⟨w.heap.size, 7, none⟩ = some (.string c.dflt.text) ∧ w'.cell? ⟨w.heap.size, 8, none⟩ = some (.slice B c.order.length cp)) (go_keep)
        (first
          | (go_at_call 17; refine (same_at l A cl (by first | exact (Below.refl _ _).drew | exact ((Below.refl _ _).alloc (Nat.le_refl _) _).drew | exact ((Below.refl _ _).drew).alloc (Nat.le_refl _) _) hr2 hok hlc).mono ?_; rintro e w3 ⟨v3, rfl, ht3, hb39, hbW⟩; obtain ⟨m1, m2, m3, m4, m5, m6, m7, m8⟩ := ch_cells (e9 w3 hb39); have m0 := (e9 w3 hb39).cellIs 0 (.int .i64 c.op) rfl; have hn3 : w.heap.size ≠ w3.heap.size := (by have := hb39.size; omega); have hn4 : ¬ w3.heap.size = w.heap.size := (by have := hb39.size; omega); try have t9 : Blk w3 w1.heap.size 28 #[.slice none 0 0, .slice none 0 0, .slice none 0 0] := (by first | exact (Blk.new w1 _ _).below hbW | exact (Blk.drew (Blk.new w1 _ _)).below hbW | exact (Blk.new w1.drew _ _).below hbW))
          | (go_at_call 51; refine (HWAY.out v3 _ (by first | exact ht3 | exact ht3.below ((Below.refl _ _).alloc (Nat.le_refl _) _)) (by first | exact hb39 | exact hb39.alloc hb39.size _)).mono ?_; rintro e w4 ⟨v4, rfl, ht4, hb4, hf4⟩; have e4 : Blk w4 w.heap.size 52 (chCells c B cp) := (by first | exact hf4 _ _ _ (by decide) (by decide) (e9 w3 hb39) | exact hf4 _ _ _ (by decide) (by decide) ((e9 w3 hb39).alloc _)); have y4 : Blk w4 (w.heap.size + 1) 28 #[.slice none 0 0, .slice none 0 0, .slice none 0 0] := (by first | exact hf4 _ _ _ (by decide) (by decide) (y9 w3 hb39) | exact hf4 _ _ _ (by decide) (by decide) ((y9 w3 hb39).alloc _)); have hB4 : Below w.heap.size w w4 := (by first | exact hB1.trans ((hb39.trans hb4).mono hlW) | exact hB1.trans (((hb39.alloc hb39.size _).trans hb4).mono hlW)); have hF4 : Far w w4 := (by first | exact far_trans (far_below hB1) (far_trans (far_below hb39) hf4) | exact far_trans (far_below hB1) (far_trans (far_below (hb39.alloc hb39.size _)) hf4)); obtain ⟨n1, n2, n3, n4, n5, n6, n7, n8⟩ := ch_cells e4; have n0 := e4.cellIs 0 (.int .i64 c.op) rfl; have ht4' := ht4; obtain ⟨B0, k0, B1, k1, B2, k2, rfl, _, _, _, _⟩ := ht4'; (try (have t10 : Blk w4 w1.heap.size 28 #[.slice none 0 0, .slice none 0 0, .slice none 0 0] := hf4 _ _ _ (by decide) (by decide) t9; have t10a := t10.frozen 0; have t10b := t10.frozen 1; have t10c := t10.frozen 2; have t10d := t10.cellIs 0 _ rfl; have t10e := t10.cellIs 1 _ rfl; have t10f := t10.cellIs 2 _ rfl)); (try (have t11 : Blk w4 w3.heap.size 28 #[.slice none 0 0, .slice none 0 0, .slice none 0 0] := hf4 _ _ _ (by decide) (by decide) (Blk.new w3 _ _); have t11a := t11.frozen 0; have t11b := t11.frozen 1; have t11c := t11.frozen 2; have t11d := t11.cellIs 0 _ rfl; have t11e := t11.cellIs 1 _ rfl; have t11f := t11.cellIs 2 _ rfl)))
          | (fail))
      all_goals (go_wp2_with fail; go_meet)
      · exact mk_new hlW y4 ht4 hB4 hF4
      · exact mk_end hlW y4 t11 ht4 hB4 hF4 (by have := hb39.size; omega)
      · exact mk_end hlW y4 t10 ht4 hB4 hF4 (by omega)
    case rest =>
      obtain ⟨g, B0, B1, B2, k0, k1, k2, rfl, rfl, xg, xt, xr, xB, xF, xg2⟩ := hcut
      clear e0 e1 e9 y9 v0 v1 v2 v3 v4 v5 v6 v7 v8 hr2 ho2 hn1 hn2 HWAY hB1 hlk hlW hW1
      obtain ⟨p0, p1, p2⟩ : wc.cell? ⟨g, 0, none⟩ = some (.slice B0 rt.old.length k0) ∧ wc.cell? ⟨g, 1, none⟩ = some (.slice B1 rt.new.length k1) ∧ wc.cell? ⟨g, 2, none⟩ = some (.slice B2 rt.moves.length k2) := ⟨xg.cellIs 0 _ rfl, xg.cellIs 1 _ rfl, xg.cellIs 2 _ rfl⟩
      by_cases hrc : rc = 0
      · have hq0 := HQ.out hrc
        have HQ0 := Lib.hid hq0
        clear hq0 HQ
        subst hrc
        have hrd := xt.rd
        go_wp2_with fail
        refine (table_Right rt _ wc hrd HQ0.out).mono ?_
        rintro e w5 ⟨rfl, hb5⟩
        have xg5 := xg.below hb5
        have xt5 := xt.below hb5
        have xr5 := xr.below hb5
        have xB5 : Below w.heap.size w w5 := xB.trans (hb5.mono xB.size)
        have xF5 : Far w w5 := far_trans xF (far_below hb5)
        clear p0 p1 p2 xg xt xr xB xF hb5 hrd
        have p0 := xg5.cellIs 0 (.slice B0 rt.old.length k0) rfl
        have p1 := xg5.cellIs 1 (.slice B1 rt.new.length k1) rfl
        have p2 := xg5.cellIs 2 (.slice B2 rt.moves.length k2) rfl
        have y0 := xr5.cellIs 0 (.slice none 0 0) rfl
        have y1 := xr5.cellIs 1 (.slice none 0 0) rfl
        have y2 := xr5.cellIs 2 (.slice none 0 0) rfl
        have z0 := xr5.frozen 0
        have z1 := xr5.frozen 1
        have z2 := xr5.frozen 2
        cases hb : tabB rt with
        | false =>
          have HE : Hid (afterT (rt, 0) = (Tb.zero, 80)) := by unfold afterT; dsimp only; rw [hb]; rfl
          clear hb
          go_wp2_with fail
          refine bodyPost_ret (v := .tuple #[.agg #[.slice none 0 0, .slice none 0 0, .slice none 0 0], .int .i64 80]) (by simp [results, Try.results15, go_sem, y0, y1, y2]) rfl ⟨_, by rw [HE.out], ?_, ?_, ?_⟩
          · rw [HE.out]; exact OwnTab.zero _ _
          · exact below_set (below_set (below_set xB5 (by omega) _ _) (by omega) _ _) (by omega) _ _
          · exact far_set (far_set (far_set xF5 (by omega) _ _) (by omega) _ _) (by omega) _ _
        | true =>
          have HE : Hid (afterT (rt, 0) = (rt, 0)) := by unfold afterT; dsimp only; rw [hb]; rfl
          clear hb
          go_wp2_with fail
          refine bodyPost_ret (v := .tuple #[.agg #[.slice B0 rt.old.length k0, .slice B1 rt.new.length k1, .slice B2 rt.moves.length k2], .int .i64 0]) (by simp [results, Try.results15, go_sem, y0, y1, y2]) rfl ⟨_, by rw [HE.out], ?_, ?_, ?_⟩
          · rw [HE.out]; exact xt5.stored xr5 _ _ _ _ _ _
          · exact below_set (below_set (below_set xB5 (by omega) _ _) (by omega) _ _) (by omega) _ _
          · exact far_set (far_set (far_set xF5 (by omega) _ _) (by omega) _ _) (by omega) _ _
      · have hrc1 : (rc == 0) = false := beq_eq_false_iff_ne.2 hrc
        have hrc2 : (rc != 0) = true := by rw [bne_iff_ne]; exact hrc
        have HE : Hid (afterT (rt, rc) = (Tb.zero, rc)) := by unfold afterT; dsimp only; rw [if_neg hrc]; exact rfl
        have y0 := xr.cellIs 0 (.slice none 0 0) rfl
        have y1 := xr.cellIs 1 (.slice none 0 0) rfl
        have y2 := xr.cellIs 2 (.slice none 0 0) rfl
        have z0 := xr.frozen 0
        have z1 := xr.frozen 1
        have z2 := xr.frozen 2
        go_wp2_with fail
        refine bodyPost_ret (v := .tuple #[.agg #[.slice none 0 0, .slice none 0 0, .slice none 0 0], .int .i64 rc]) (by simp [results, Try.results15, go_sem, y0, y1, y2]) rfl ⟨_, by rw [HE.out], ?_, ?_, ?_⟩
        · rw [HE.out]; exact OwnTab.zero _ _
        · exact below_set (below_set (below_set xB (by omega) _ _) (by omega) _ _) (by omega) _ _
        · exact far_set (far_set (far_set xF (by omega) _ _) (by omega) _ _) (by omega) _ _
set_option maxHeartbeats 1000000 in
set_option maxRecDepth 100000 in
theorem change_MakeO (l : List Fld) (c : Ch) (A B : Option Addr) (cl cp : Nat) (w : World) (hr : RS FF w A l) (hok : FsOk l) (hlc : l.length ≤ cl) (ho : RS FI w B c.order) (hlo : c.order.length ≤ cp) (hc : ChOk c) (hlen : l.length ≤ 16) (ho5 : c.order.length ≤ 40000)
    (hR : rightL l = true) (hop : c.op = 5) (rt : Tb) (rc : Int) (hrt : ordersT (sameT l) c = (rt, rc)) (hq : rc = 0 → TbOk rt) :
    Calls Try.prog 15 #[.slice A l.length cl, .agg (chCells c B cp)] w (RetTE w w.heap.size (afterT (rt, rc))) := by
  have HR := Lib.hid hR
  have hs2 : (sameT l).old = l ∧ (sameT l).new = l ∧ (sameT l).moves.length = l.length := by unfold sameT; rw [hR]; exact ⟨rfl, rfl, mvs_length _⟩
  have HS := Lib.hid hs2
  have HP := Lib.hid hop
  have HT := Lib.hid hrt
  have HQ := Lib.hid hq
  clear hR hs2 hop hrt hq
  have hmm := @run_makeMap Try.prog
  have s0 := MkSt.start w c B cp
  go_enter Try.func15, Try.ntmps15
  go_upto_region 1 with fail
  go_cut [6] (fun s wx => s = .map (some (w.heap.size + 1 + 1)) ∧ MkSt w wx c B cp 6 (waysOf (w.heap.size + 3) (w.heap.size + 4) (w.heap.size + 5)) 5 ∧ Blk wx (w.heap.size + 3) 70 #[.func (.func 28) #[] #[]] ∧ Blk wx (w.heap.size + 4) 70 #[.func (.func 29) #[] #[]] ∧ Blk wx (w.heap.size + 5) 70 #[.func (.func 30) #[] #[]])
  case first =>
    go_wp2_with (refine wp_insert (r := w.heap.size + 1 + 1) (n := 1) (val := .func (.func 26) #[] #[]) rfl rfl 3 68 Try.underlying71 Try.underlying3 rfl rfl rfl s0.map rfl ?_; refine Stopped.out ?_)
    constructor
    intro w1 hb1 hg1 hz1
    have s1 := s0.ins hb1 hg1 (by first | omega | (simp at hz1; omega))
    clear hb1 hg1 hz1 s0
    go_wp2_with fail
    refine (change_namedD _).mono ?_
    rintro e w2 ⟨rfl, rfl⟩
    have s2 := s1.more (Obj.cells #[.func (.func 28) #[] #[]] 70)
    have z1 := s1.size
    have x1 := Blk.newAt w1 (w.heap.size + 3) z1 70 #[.func (.func 28) #[] #[]]
    go_wp2_with (refine wp_insert (r := w.heap.size + 1 + 1) (n := 2) (val := wayOf (w.heap.size + 3)) rfl rfl 3 68 Try.underlying71 Try.underlying3 rfl rfl rfl s2.map rfl ?_; refine Stopped.out ?_)
    constructor
    intro w3 hb3 hg3 hz3
    have s3 := s2.ins hb3 hg3 (by first | omega | (simp at hz3; omega))
    have x3 := x1.insd hg3 (by omega)
    clear hb3 hg3 hz3 s2 s1 x1
    go_wp2_with fail
    refine (change_namedR _).mono ?_
    rintro e w4 ⟨rfl, rfl⟩
    have s4 := s3.more (Obj.cells #[.func (.func 29) #[] #[]] 70)
    have z3 := s3.size
    have y1 := Blk.newAt w3 (w.heap.size + 4) z3 70 #[.func (.func 29) #[] #[]]
    have x4 := x3.alloc (Obj.cells #[.func (.func 29) #[] #[]] 70)
    go_wp2_with (refine wp_insert (r := w.heap.size + 1 + 1) (n := 3) (val := wayOf (w.heap.size + 4)) rfl rfl 3 68 Try.underlying71 Try.underlying3 rfl rfl rfl s4.map rfl ?_; refine Stopped.out ?_)
    constructor
    intro w5 hb5 hg5 hz5
    have s5 := s4.ins hb5 hg5 (by first | omega | (simp at hz5; omega))
    have x5 := x4.insd hg5 (by omega)
    have y5 := y1.insd hg5 (by omega)
    clear hb5 hg5 hz5 s4 s3 x3 x4 y1
    go_wp2_with fail
    refine (change_namedC _).mono ?_
    rintro e w6 ⟨rfl, rfl⟩
    have s6 := s5.more (Obj.cells #[.func (.func 30) #[] #[]] 70)
    have z5 := s5.size
    have v1 := Blk.newAt w5 (w.heap.size + 5) z5 70 #[.func (.func 30) #[] #[]]
    have x6 := x5.alloc (Obj.cells #[.func (.func 30) #[] #[]] 70)
    have y6 := y5.alloc (Obj.cells #[.func (.func 30) #[] #[]] 70)
    go_wp2_with (refine wp_insert (r := w.heap.size + 1 + 1) (n := 4) (val := wayOf (w.heap.size + 5)) rfl rfl 3 68 Try.underlying71 Try.underlying3 rfl rfl rfl s6.map rfl ?_; refine Stopped.out ?_)
    constructor
    intro w7 hb7 hg7 hz7
    have s7 := s6.ins hb7 hg7 (by first | omega | (simp at hz7; omega))
    have z7 := s7.size
    have x7 := x6.insd hg7 (by omega)
    have y7 := y6.insd hg7 (by omega)
    have v7 := v1.insd hg7 (by omega)
    clear hb7 hg7 hz7 s6 s5 x6 x5 y6 y5 v1
    go_wp2_with (refine wp_insert (r := w.heap.size + 1 + 1) (n := 5) (val := .func (.func 31) #[] #[]) rfl rfl 3 68 Try.underlying71 Try.underlying3 rfl rfl rfl s7.map rfl ?_; refine Stopped.out ?_)
    constructor
    intro w9 hb9 hg9 hz9
    have s9 := s7.ins hb9 hg9 (by first | omega | (simp at hz9; omega))
    have x9 := x7.insd hg9 (by omega)
    have y9 := y7.insd hg9 (by omega)
    have v9 := v7.insd hg9 (by omega)
    clear hb9 hg9 hz9 s7 x7 y7 v7
    go_wp2_with fail
    go_meet
    exact ⟨rfl, s9, x9, y9, v9⟩
  case rest =>
    obtain ⟨rfl, s1, f1, f2, f3⟩ := hcut
    have hlk := look_hitO _ _ _ _ _ c.op wc s1.map HP.out
    have d0 := s1.box
    have d1 := s1.res
    have u0 := d0.cellIs 0 (.int .i64 c.op) rfl
    have hr1 := hr.below s1.below
    have ho1 := ho.below s1.below
    go_wp2_with fail
    refine (field_RightIs hr1 hok hlc HR.out).mono ?_
    rintro e w1 ⟨rfl, hb1⟩
    have hB1 : Below w.heap.size w w1 := s1.below.trans (hb1.mono s1.below.size)
    have e0 := d0.below hb1
    have e1 := d1.below hb1
    have g1 := f1.below hb1
    have g2 := f2.below hb1
    have g3 := f3.below hb1
    have hr2 := hr1.below hb1
    have ho2 := ho1.below hb1
    clear d0 d1 u0 hr1 ho1 f1 f2 f3 s1 hb1 hr ho
    have hway : ∀ (v : Value) (W : World), OwnTab W w1.heap.size v (sameT l) → Below w1.heap.size w1 W → Calls Try.prog 31 #[v, .agg (chCells c B cp)] W (RetTE W w1.heap.size (rt, rc)) := by
      intro v W hv hW
      have hn0 : (sameT l).old.length = l.length := by rw [HS.out.1]
      have hn1 : (sameT l).new.length = l.length := by rw [HS.out.2.1]
      have hn2 : (sameT l).moves.length = l.length := HS.out.2.2
      have hs := hW.size
      rw [← HT.out]
      exact change_orders (sameT l) c v B cp w1.heap.size W hv hs (ho2.below hW) hlo (by omega) (by omega)
    have HWAY := Lib.hid hway
    clear hway g1 g2 g3
    have v0 := e0.cellIs 0 (.int .i64 c.op) rfl
    have e9 : ∀ W', Below w1.heap.size w1 W' → Blk W' w.heap.size 52 (chCells c B cp) := fun W' h => e0.below h
    have y9 : ∀ W', Below w1.heap.size w1 W' → Blk W' (w.heap.size + 1) 28 #[.slice none 0 0, .slice none 0 0, .slice none 0 0] := fun W' h => e1.below h
    obtain ⟨v1, v2, v3, v4, v5, v6, v7, v8⟩ := ch_cells e0
    have hW1 : w.heap.size + 1 < w1.heap.size := e1.lt
    have hn1 : w.heap.size ≠ w1.heap.size := by omega
    have hn2 : ¬ w1.heap.size = w.heap.size := by omega
    have hlW : w.heap.size ≤ w1.heap.size := by omega
    go_upto_region 7 with fail
    go_cut [9, 10] (fun s9 s10 wx => MkMid w wx rt rc s9 s10)
    case first =>
      go_region_held3 (fun w' => w'.cell? ⟨w.heap.size, 0, none⟩ = some (.int .i64 c.op) ∧ w'.cell? ⟨w.heap.size, 1, none⟩ = some (.string c.name) ∧ w'.cell? ⟨w.heap.size, 2, none⟩ = some (.string c.dst.name) ∧ w'.cell? ⟨w.heap.size, 3, none⟩ = some (.int .i64 c.dst.kind) ∧ w'.cell? ⟨w.heap.size, 4, none⟩ = some (.int .i64 c.dst.long) ∧ w'.cell? ⟨w.heap.size, 5, none⟩ = some (.int .i64 c.dflt.kind) ∧ w'.cell? ⟨w.heap.size, 6, none⟩ = some (.int .u64 c.dflt.bits) ∧ w'.cell? ⟨w.heap.size, 7, none⟩ = some (.string c.dflt.text) ∧ w'.cell? ⟨w.heap.size, 8, none⟩ = some (.slice B c.order.length cp)) (go_keep)
        (first
          | (go_at_call 17; refine (same_at l A cl (by first | exact (Below.refl _ _).drew | exact ((Below.refl _ _).alloc (Nat.le_refl _) _).drew | exact ((Below.refl _ _).drew).alloc (Nat.le_refl _) _) hr2 hok hlc).mono ?_; rintro e w3 ⟨v3, rfl, ht3, hb39, hbW⟩; obtain ⟨m1, m2, m3, m4, m5, m6, m7, m8⟩ := ch_cells (e9 w3 hb39); have m0 := (e9 w3 hb39).cellIs 0 (.int .i64 c.op) rfl; have hn3 : w.heap.size ≠ w3.heap.size := (by have := hb39.size; omega); have hn4 : ¬ w3.heap.size = w.heap.size := (by have := hb39.size; omega); try have t9 : Blk w3 w1.heap.size 28 #[.slice none 0 0, .slice none 0 0, .slice none 0 0] := (by first | exact (Blk.new w1 _ _).below hbW | exact (Blk.drew (Blk.new w1 _ _)).below hbW | exact (Blk.new w1.drew _ _).below hbW))
          | (go_at_call 31; refine (HWAY.out v3 _ (by first | exact ht3 | exact ht3.below ((Below.refl _ _).alloc (Nat.le_refl _) _)) (by first | exact hb39 | exact hb39.alloc hb39.size _)).mono ?_; rintro e w4 ⟨v4, rfl, ht4, hb4, hf4⟩; have e4 : Blk w4 w.heap.size 52 (chCells c B cp) := (by first | exact hf4 _ _ _ (by decide) (by decide) (e9 w3 hb39) | exact hf4 _ _ _ (by decide) (by decide) ((e9 w3 hb39).alloc _)); have y4 : Blk w4 (w.heap.size + 1) 28 #[.slice none 0 0, .slice none 0 0, .slice none 0 0] := (by first | exact hf4 _ _ _ (by decide) (by decide) (y9 w3 hb39) | exact hf4 _ _ _ (by decide) (by decide) ((y9 w3 hb39).alloc _)); have hB4 : Below w.heap.size w w4 := (by first | exact hB1.trans ((hb39.trans hb4).mono hlW) | exact hB1.trans (((hb39.alloc hb39.size _).trans hb4).mono hlW)); have hF4 : Far w w4 := (by first | exact far_trans (far_below hB1) (far_trans (far_below hb39) hf4) | exact far_trans (far_below hB1) (far_trans (far_below (hb39.alloc hb39.size _)) hf4)); obtain ⟨n1, n2, n3, n4, n5, n6, n7, n8⟩ := ch_cells e4; have n0 := e4.cellIs 0 (.int .i64 c.op) rfl; have ht4' := ht4; obtain ⟨B0, k0, B1, k1, B2, k2, rfl, _, _, _, _⟩ := ht4'; (try (have t10 : Blk w4 w1.heap.size 28 #[.slice none 0 0, .slice none 0 0, .slice none 0 0] := hf4 _ _ _ (by decide) (by decide) t9; have t10a := t10.frozen 0; have t10b := t10.frozen 1; have t10c := t10.frozen 2; have t10d := t10.cellIs 0 _ rfl; have t10e := t10.cellIs 1 _ rfl; have t10f := t10.cellIs 2 _ rfl)); (try (have t11 : Blk w4 w3.heap.size 28 #[.slice none 0 0, .slice none 0 0, .slice none 0 0] := hf4 _ _ _ (by decide) (by decide) (Blk.new w3 _ _); have t11a := t11.frozen 0; have t11b := t11.frozen 1; have t11c := t11.frozen 2; have t11d := t11.cellIs 0 _ rfl; have t11e := t11.cellIs 1 _ rfl; have t11f := t11.cellIs 2 _ rfl)))
          | (fail))
      all_goals (go_wp2_with fail; go_meet)
      · exact mk_new hlW y4 ht4 hB4 hF4
      · exact mk_end hlW y4 t11 ht4 hB4 hF4 (by have := hb39.size; omega)
      · exact mk_end hlW y4 t10 ht4 hB4 hF4 (by omega)
    case rest =>
      obtain ⟨g, B0, B1, B2, k0, k1, k2, rfl, rfl, xg, xt, xr, xB, xF, xg2⟩ := hcut
      clear e0 e1 e9 y9 v0 v1 v2 v3 v4 v5 v6 v7 v8 hr2 ho2 hn1 hn2 HWAY hB1 hlk hlW hW1
      obtain ⟨p0, p1, p2⟩ : wc.cell? ⟨g, 0, none⟩ = some (.slice B0 rt.old.length k0) ∧ wc.cell? ⟨g, 1, none⟩ = some (.slice B1 rt.new.length k1) ∧ wc.cell? ⟨g, 2, none⟩ = some (.slice B2 rt.moves.length k2) := ⟨xg.cellIs 0 _ rfl, xg.cellIs 1 _ rfl, xg.cellIs 2 _ rfl⟩
      by_cases hrc : rc = 0
      · have hq0 := HQ.out hrc
        have HQ0 := Lib.hid hq0
        clear hq0 HQ
        subst hrc
        have hrd := xt.rd
        go_wp2_with fail
        refine (table_Right rt _ wc hrd HQ0.out).mono ?_
        rintro e w5 ⟨rfl, hb5⟩
        have xg5 := xg.below hb5
        have xt5 := xt.below hb5
        have xr5 := xr.below hb5
        have xB5 : Below w.heap.size w w5 := xB.trans (hb5.mono xB.size)
        have xF5 : Far w w5 := far_trans xF (far_below hb5)
        clear p0 p1 p2 xg xt xr xB xF hb5 hrd
        have p0 := xg5.cellIs 0 (.slice B0 rt.old.length k0) rfl
        have p1 := xg5.cellIs 1 (.slice B1 rt.new.length k1) rfl
        have p2 := xg5.cellIs 2 (.slice B2 rt.moves.length k2) rfl
        have y0 := xr5.cellIs 0 (.slice none 0 0) rfl
        have y1 := xr5.cellIs 1 (.slice none 0 0) rfl
        have y2 := xr5.cellIs 2 (.slice none 0 0) rfl
        have z0 := xr5.frozen 0
        have z1 := xr5.frozen 1
        have z2 := xr5.frozen 2
        cases hb : tabB rt with
        | false =>
          have HE : Hid (afterT (rt, 0) = (Tb.zero, 80)) := by unfold afterT; dsimp only; rw [hb]; rfl
          clear hb
          go_wp2_with fail
          refine bodyPost_ret (v := .tuple #[.agg #[.slice none 0 0, .slice none 0 0, .slice none 0 0], .int .i64 80]) (by simp [results, Try.results15, go_sem, y0, y1, y2]) rfl ⟨_, by rw [HE.out], ?_, ?_, ?_⟩
          · rw [HE.out]; exact OwnTab.zero _ _
          · exact below_set (below_set (below_set xB5 (by omega) _ _) (by omega) _ _) (by omega) _ _
          · exact far_set (far_set (far_set xF5 (by omega) _ _) (by omega) _ _) (by omega) _ _
        | true =>
          have HE : Hid (afterT (rt, 0) = (rt, 0)) := by unfold afterT; dsimp only; rw [hb]; rfl
          clear hb
          go_wp2_with fail
          refine bodyPost_ret (v := .tuple #[.agg #[.slice B0 rt.old.length k0, .slice B1 rt.new.length k1, .slice B2 rt.moves.length k2], .int .i64 0]) (by simp [results, Try.results15, go_sem, y0, y1, y2]) rfl ⟨_, by rw [HE.out], ?_, ?_, ?_⟩
          · rw [HE.out]; exact xt5.stored xr5 _ _ _ _ _ _
          · exact below_set (below_set (below_set xB5 (by omega) _ _) (by omega) _ _) (by omega) _ _
          · exact far_set (far_set (far_set xF5 (by omega) _ _) (by omega) _ _) (by omega) _ _
      · have hrc1 : (rc == 0) = false := beq_eq_false_iff_ne.2 hrc
        have hrc2 : (rc != 0) = true := by rw [bne_iff_ne]; exact hrc
        have HE : Hid (afterT (rt, rc) = (Tb.zero, rc)) := by unfold afterT; dsimp only; rw [if_neg hrc]; exact rfl
        have y0 := xr.cellIs 0 (.slice none 0 0) rfl
        have y1 := xr.cellIs 1 (.slice none 0 0) rfl
        have y2 := xr.cellIs 2 (.slice none 0 0) rfl
        have z0 := xr.frozen 0
        have z1 := xr.frozen 1
        have z2 := xr.frozen 2
        go_wp2_with fail
        refine bodyPost_ret (v := .tuple #[.agg #[.slice none 0 0, .slice none 0 0, .slice none 0 0], .int .i64 rc]) (by simp [results, Try.results15, go_sem, y0, y1, y2]) rfl ⟨_, by rw [HE.out], ?_, ?_, ?_⟩
        · rw [HE.out]; exact OwnTab.zero _ _
        · exact below_set (below_set (below_set xB (by omega) _ _) (by omega) _ _) (by omega) _ _
        · exact far_set (far_set (far_set xF (by omega) _ _) (by omega) _ _) (by omega) _ _
end Go.Proofs.Ytdggnnbgiadgaaa
