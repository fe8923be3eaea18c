/- ChangeTwo: the walk. -/
import Derived.Test.YtdggnnbgiadgaaaAl
import Derived.Test.YtdggnnbgiadgaaaPl1
set_option linter.unusedVariables false
namespace Go.Proofs.Ytdggnnbgiadgaaa
open Go.RowKit

theorem rc_blk {w W : World} {g : Nat} {t : TypeId} {xs : List (Ch × Option Addr × Nat)} {cs : Array Value} (h : Blk W g t cs) (hc : cs.toList = FC.cells xs) (hk : OrdOk w xs) (hb : Below w.heap.size w W) : RC W (some ⟨g, 0, none⟩) (xs.map (·.1)) :=
  rc_of (rs_blk h hc) hk hb

theorem same_is {l m : List Fld} {A B : Option Addr} {c d : Nat} {w : World} (hr : RS FF w A l) (hs : RS FF w B m) (hl : l.length ≤ 60000) (hm : m.length ≤ 60000) (hlc : l.length ≤ c) (hmd : m.length ≤ d) {b : Bool} (hb : decide (l = m) = b) :
    Calls Try.prog 14 #[.slice A l.length c, .slice B m.length d] w fun e w' => e = .returned (.bool b) ∧ Below w.heap.size w w' := by
  subst hb; exact ref06_Same l m A B c d w hr hs hl hm hlc hmd
/-- What the reading of the arguments gives. -/
structure TwoIn (w : World) (l : List Fld) (a b : Ch) (A B B' : Option Addr) (cl cp cp' : Nat) : Prop where
  rl : RS FF w A l
  hcl : l.length ≤ cl
  ra : RS FI w B a.order
  hcp : a.order.length ≤ cp
  rb : RS FI w B' b.order
  hcp' : b.order.length ≤ cp'
  sized : Sized l [a, b]
  fs : ∀ f ∈ l, FldOk f
  aok : a.order.length ≤ 50000 → ChOk a
  bok : b.order.length ≤ 50000 → ChOk b

set_option maxHeartbeats 4000000 in
set_option maxRecDepth 100000 in
theorem law_Two (l : List Fld) (a b : Ch) (A B B' : Option Addr) (cl cp cp' : Nat) (w : World) (hI : TwoIn w l a b A B B' cl cp cp') :
    Calls Try.prog 4 #[.slice A l.length cl, .agg (chCells a B cp), .agg (chCells b B' cp')] w fun e w' => e = .returned (.bool true) ∧ Below w.heap.size w w' := by
  obtain ⟨W, hW⟩ : ∃ W, W = ((w.alloc (Obj.cells (chCells a B cp) 49)).alloc (Obj.cells (chCells b B' cp') 49)) := ⟨_, rfl⟩
  have b0 : Blk W w.heap.size 49 (chCells a B cp) := hW ▸ (Blk.new _ _ _).alloc _
  have b1 : Blk W (w.heap.size + 1) 49 (chCells b B' cp') := hW ▸ Blk.newAt _ _ (by simp) _ _
  have hB0 : Below w.heap.size w W := hW ▸ below_two _ _ _
  go_enter Try.func4, Try.ntmps4
  go_upto_region 1 with fail
  rw [← hW]
  clear hW
  have p0 := b0.cellIs 0 (.int .i64 a.op) rfl
  have p1 := b0.cellIs 1 (.string a.name) rfl
  have p2 := b0.cellIs 2 (.string a.dst.name) rfl
  have p3 := b0.cellIs 3 (.int .i64 a.dst.kind) rfl
  have p4 := b0.cellIs 4 (.int .i64 a.dst.long) rfl
  have p5 := b0.cellIs 5 (.int .i64 a.dflt.kind) rfl
  have p6 := b0.cellIs 6 (.int .u64 a.dflt.bits) rfl
  have p7 := b0.cellIs 7 (.string a.dflt.text) rfl
  have p8 := b0.cellIs 8 (.slice B a.order.length cp) rfl
  have q0 := b1.cellIs 0 (.int .i64 b.op) rfl
  have q1 := b1.cellIs 1 (.string b.name) rfl
  have q2 := b1.cellIs 2 (.string b.dst.name) rfl
  have q3 := b1.cellIs 3 (.int .i64 b.dst.kind) rfl
  have q4 := b1.cellIs 4 (.int .i64 b.dst.long) rfl
  have q5 := b1.cellIs 5 (.int .i64 b.dflt.kind) rfl
  have q6 := b1.cellIs 6 (.int .u64 b.dflt.bits) rfl
  have q7 := b1.cellIs 7 (.string b.dflt.text) rfl
  have q8 := b1.cellIs 8 (.slice B' b.order.length cp') rfl
  obtain ⟨W3, hW3⟩ : ∃ W3, W3 = W.alloc (Obj.cells #[.int .i64 a.op, .string a.name, .string a.dst.name, .int .i64 a.dst.kind, .int .i64 a.dst.long, .int .i64 a.dflt.kind, .int .u64 a.dflt.bits, .string a.dflt.text, .slice B a.order.length cp, .int .i64 b.op, .string b.name, .string b.dst.name, .int .i64 b.dst.kind, .int .i64 b.dst.long, .int .i64 b.dflt.kind, .int .u64 b.dflt.bits, .string b.dflt.text, .slice B' b.order.length cp'] 49) := ⟨_, rfl⟩
  have hord : ∀ W', Below w.heap.size w W' → OrdOk W' [(a, B, cp), (b, B', cp')] := fun W' h x hx => by
    simp at hx
    rcases hx with rfl | rfl
    · exact ⟨hI.hcp, hI.ra.below h⟩
    · exact ⟨hI.hcp', hI.rb.below h⟩
  have hB3 : Below W.heap.size W W3 := hW3 ▸ (Below.refl _ _).alloc (Nat.le_refl _) _
  have hB03 : Below w.heap.size w W3 := hB0.trans (hB3.mono hB0.size)
  have hrc : RC W3 (some ⟨W.heap.size, 0, none⟩) [a, b] := rc_blk (w := W) (xs := [(a, B, cp), (b, B', cp')]) (hW3 ▸ Blk.new W 49 _) rfl (hord W hB0) hB3
  go_wp2_with fail
  rw [← hW3]
  clear hW3 p0 p1 p2 p3 p4 p5 p6 p7 p8 q0 q1 q2 q3 q4 q5 q6 q7 q8
  refine (law_few l [a, b] A (some ⟨W.heap.size, 0, none⟩) cl 2 W3 (hI.rl.below hB03) hI.hcl hrc (Nat.le_refl _) hI.sized).mono ?_
  rintro e w1 ⟨rfl, hb1⟩
  have hB1 : Below w.heap.size w w1 := hB03.trans (hb1.mono hB03.size)
  have b01 := (b0.below hB3).below hb1
  have b11 := (b1.below hB3).below hb1
  clear b0 b1 hrc hB3 hB03 hb1 hB0
  cases hfew : fewB l [a, b] with
  | false =>
    have HF := Lib.hid hfew
    clear hfew
    go_wp2_with fail
    refine (law_alive _).mono ?_
    rintro e w2 ⟨rfl, hb2⟩
    go_wp2_with fail
    go_ret
    exact ⟨rfl, hB1.trans (hb2.mono hB1.size)⟩
  | true =>
    obtain ⟨h40, -, hord2⟩ := few_spec hfew
    have ha2 := hord2 a (by simp)
    have hb2k := hord2 b (by simp)
    have haok := hI.aok (by omega)
    have hbok := hI.bok (by omega)
    have hfs : FsOk l := ⟨by omega, hI.fs⟩
    have HF := Lib.hid hfew
    clear hfew hord2
    obtain ⟨ma, ea, hma⟩ : ∃ ma ea, makeT l a = (ma, ea) := ⟨_, _, rfl⟩
    have hmaok := make_ok (c := a) hfs haok
    rw [hma] at hmaok
    have HMA := Lib.hid hma
    have p0 := b01.cellIs 0 (.int .i64 a.op) rfl
    have p1 := b01.cellIs 1 (.string a.name) rfl
    have p2 := b01.cellIs 2 (.string a.dst.name) rfl
    have p3 := b01.cellIs 3 (.int .i64 a.dst.kind) rfl
    have p4 := b01.cellIs 4 (.int .i64 a.dst.long) rfl
    have p5 := b01.cellIs 5 (.int .i64 a.dflt.kind) rfl
    have p6 := b01.cellIs 6 (.int .u64 a.dflt.bits) rfl
    have p7 := b01.cellIs 7 (.string a.dflt.text) rfl
    have p8 := b01.cellIs 8 (.slice B a.order.length cp) rfl
    go_wp2_with fail
    refine (change_Apply l a A B cl cp w1 (hI.rl.below hB1) hfs hI.hcl (hI.ra.below hB1) hI.hcp haok (by omega)).mono ?_
    rw [hma]
    clear hma
    dsimp only at hmaok ⊢
    rintro e w2 ⟨M, mc, rfl, hml, hmr, hb2⟩
    have hB2 := hB1.trans (hb2.mono hB1.size)
    have b02 := b01.below hb2
    have b12 := b11.below hb2
    clear p0 p1 p2 p3 p4 p5 p6 p7 p8 b01 b11 hb2
    by_cases hea : ea = 0
    · subst hea
      obtain ⟨mb, eb, hmb⟩ : ∃ mb eb, makeT ma.new b = (mb, eb) := ⟨_, _, rfl⟩
      have hmbok := make_ok (c := b) hmaok.new hbok
      rw [hmb] at hmbok
      have hlaw := two_law (b := b) HMA.out
      rw [hmb] at hlaw
      have HLAW := Lib.hid hlaw
      clear hlaw
      have q0 := b12.cellIs 0 (.int .i64 b.op) rfl
      have q1 := b12.cellIs 1 (.string b.name) rfl
      have q2 := b12.cellIs 2 (.string b.dst.name) rfl
      have q3 := b12.cellIs 3 (.int .i64 b.dst.kind) rfl
      have q4 := b12.cellIs 4 (.int .i64 b.dst.long) rfl
      have q5 := b12.cellIs 5 (.int .i64 b.dflt.kind) rfl
      have q6 := b12.cellIs 6 (.int .u64 b.dflt.bits) rfl
      have q7 := b12.cellIs 7 (.string b.dflt.text) rfl
      have q8 := b12.cellIs 8 (.slice B' b.order.length cp') rfl
      go_wp2_with fail
      refine (change_Apply ma.new b M B' mc cp' w2 hmr hmaok.new hml (hI.rb.below hB2) hI.hcp' hbok (by omega)).mono ?_
      rw [hmb]
      clear hmb
      dsimp only at hmbok ⊢
      rintro e w3 ⟨N, nc, rfl, hnl, hnr, hb3⟩
      have hB3 := hB2.trans (hb3.mono hB2.size)
      have b03 := b02.below hb3
      have b13 := b12.below hb3
      clear q0 q1 q2 q3 q4 q5 q6 q7 q8 b02 b12 hb3 hmr hml
      have p0 := b03.cellIs 0 (.int .i64 a.op) rfl
      have p1 := b03.cellIs 1 (.string a.name) rfl
      have p2 := b03.cellIs 2 (.string a.dst.name) rfl
      have p3 := b03.cellIs 3 (.int .i64 a.dst.kind) rfl
      have p4 := b03.cellIs 4 (.int .i64 a.dst.long) rfl
      have p5 := b03.cellIs 5 (.int .i64 a.dflt.kind) rfl
      have p6 := b03.cellIs 6 (.int .u64 a.dflt.bits) rfl
      have p7 := b03.cellIs 7 (.string a.dflt.text) rfl
      have p8 := b03.cellIs 8 (.slice B a.order.length cp) rfl
      have q0 := b13.cellIs 0 (.int .i64 b.op) rfl
      have q1 := b13.cellIs 1 (.string b.name) rfl
      have q2 := b13.cellIs 2 (.string b.dst.name) rfl
      have q3 := b13.cellIs 3 (.int .i64 b.dst.kind) rfl
      have q4 := b13.cellIs 4 (.int .i64 b.dst.long) rfl
      have q5 := b13.cellIs 5 (.int .i64 b.dflt.kind) rfl
      have q6 := b13.cellIs 6 (.int .u64 b.dflt.bits) rfl
      have q7 := b13.cellIs 7 (.string b.dflt.text) rfl
      have q8 := b13.cellIs 8 (.slice B' b.order.length cp') rfl
      obtain ⟨W4, hW4⟩ : ∃ W4, W4 = w3.alloc (Obj.cells #[.int .i64 a.op, .string a.name, .string a.dst.name, .int .i64 a.dst.kind, .int .i64 a.dst.long, .int .i64 a.dflt.kind, .int .u64 a.dflt.bits, .string a.dflt.text, .slice B a.order.length cp, .int .i64 b.op, .string b.name, .string b.dst.name, .int .i64 b.dst.kind, .int .i64 b.dst.long, .int .i64 b.dflt.kind, .int .u64 b.dflt.bits, .string b.dflt.text, .slice B' b.order.length cp'] 49) := ⟨_, rfl⟩
      have hb4 : Below w3.heap.size w3 W4 := hW4 ▸ (Below.refl _ _).alloc (Nat.le_refl _) _
      have hB4 := hB3.trans (hb4.mono hB3.size)
      have hrc : RC W4 (some ⟨w3.heap.size, 0, none⟩) [a, b] := rc_blk (w := w3) (xs := [(a, B, cp), (b, B', cp')]) (hW4 ▸ Blk.new w3 49 _) rfl (hord w3 hB3) hb4
      have hnr4 := hnr.below hb4
      go_wp2_with fail
      rw [← hW4]
      clear hW4 p0 p1 p2 p3 p4 p5 p6 p7 p8 q0 q1 q2 q3 q4 q5 q6 q7 q8 b03 b13 hnr hb4
      refine (law_own [a, b] (some ⟨w3.heap.size, 0, none⟩) 2 W4 hrc (Nat.le_refl _) (by simp)).mono ?_
      rintro e w5 ⟨C, cc, rfl, hcc, hrc5, hb5⟩
      have hB5 := hB4.trans (hb5.mono hB4.size)
      have hnr5 := hnr4.below hb5
      go_wp2_with fail
      refine (change_All l [a, b] A C cl cc w5 (hI.rl.below hB5) hfs hI.hcl hrc5 hcc (by simp) (fun c hc => by
        simp at hc
        rcases hc with rfl | rfl
        · exact ⟨haok, by omega⟩
        · exact ⟨hbok, by omega⟩)).mono ?_
      obtain ⟨rt, rg, hrt⟩ : ∃ rt rg, allT l [a, b] = (rt, rg) := ⟨_, _, rfl⟩
      have hl := HLAW.out
      rw [hrt] at hl ⊢
      dsimp only at hl
      rintro e w6 ⟨v6, rfl, ht6, hb6, -⟩
      have HL := Lib.hid hl
      clear hl hrt
      have hB6 := hB5.trans (hb6.mono hB5.size)
      have hnr6 := hnr5.below hb6
      obtain ⟨D0, d0, D1, d1, D2, d2, rfl, -, o1, -, -⟩ := ht6
      have hr1 := o1.at_.2
      have hl1 := o1.at_.1
      dsimp only at *
      obtain ⟨W7, hW7⟩ : ∃ W7, W7 = w6.alloc (Obj.cells #[.slice D0 rt.old.length d0, .slice D1 rt.new.length d1, .slice D2 rt.moves.length d2] 28) := ⟨_, rfl⟩
      have hb7 : Below w6.heap.size w6 W7 := hW7 ▸ (Below.refl _ _).alloc (Nat.le_refl _) _
      have t7 : Blk W7 w6.heap.size 28 #[.slice D0 rt.old.length d0, .slice D1 rt.new.length d1, .slice D2 rt.moves.length d2] := hW7 ▸ Blk.new _ _ _
      have hB7 := hB6.trans (hb7.mono hB6.size)
      have hr7 := hr1.below hb7
      have hnr7 := hnr6.below hb7
      go_upto_region 8 with fail
      rw [← hW7]
      clear hW7 o1 hr1 hb7 hb6 hb5
      by_cases heb : eb = 0
      · subst heb
        have h2 := HL.out.2 rfl
        rcases h2 with ⟨rfl, hnew⟩ | rfl
        · have HN := Lib.hid hnew
          clear hnew
          go_wp2_with fail
          refine (law_alive _).mono ?_
          rintro e w8 ⟨rfl, hb8⟩
          have t8 := t7.below hb8
          have u1 := t8.cellIs 1 (.slice D1 rt.new.length d1) rfl
          have hB8 := hB7.trans (hb8.mono hB7.size)
          go_wp2_with fail
          refine (same_is (hr7.below hb8) (hnr7.below hb8) (by rw [HN.out]; have := hmbok.new.len; omega) (by have := hmbok.new.len; omega) hl1 hnl (b := true) (by rw [HN.out]; exact decide_eq_true rfl)).mono ?_
          rintro e w9 ⟨rfl, hb9⟩
          go_wp2_with fail
          go_ret
          exact ⟨rfl, hB8.trans (hb9.mono hB8.size)⟩
        · go_wp2_with fail
          refine (law_alive _).mono ?_
          rintro e w8 ⟨rfl, hb8⟩
          have hB8 := hB7.trans (hb8.mono hB7.size)
          go_wp2_with fail
          go_ret
          exact ⟨rfl, hB8⟩
      · obtain rfl := HL.out.1 heb
        have heb2 : (rg != 0) = true := by rw [bne_iff_ne]; exact heb
        have heb3 : (rg == rg) = true := by simp
        go_wp2_with fail
        refine (law_alive _).mono ?_
        rintro e w8 ⟨rfl, hb8⟩
        have hB8 := hB7.trans (hb8.mono hB7.size)
        go_wp2_with fail
        go_ret
        exact ⟨rfl, hB8⟩
    · have hea2 : (ea != 0) = true := by rw [bne_iff_ne]; exact hea
      go_wp2_with fail
      refine (law_alive _).mono ?_
      rintro e w3 ⟨rfl, hb3⟩
      go_wp2_with fail
      go_ret
      exact ⟨rfl, hB2.trans (hb3.mono hB2.size)⟩
end Go.Proofs.Ytdggnnbgiadgaaa
