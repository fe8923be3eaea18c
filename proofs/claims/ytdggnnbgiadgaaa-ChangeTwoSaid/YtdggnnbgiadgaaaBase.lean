/- Common imports and small words for the walks of this seat. -/
import Derived.Test.YtdggnnbgiadgaaaProg
import Derived.Below
import Derived.Deep.Draws
import Derived.Deep.AppendLies
import Derived.Maps.AppendAt
import Derived.OwnWalk
import Derived.Laws.BytesArg
import Derived.Laws.MakeOwn
import Derived.Laws.OwnMore
import Derived.Deep.OwnRows
import Derived.Tactics
import Derived.Lib.ConvBytes
import Derived.Lib.Hide
import Derived.Laws.Slices
import Derived.WalkKit
import Derived.KernelRfl
import Derived.RowKit3
import Derived.Deep.LoopGhost
import Derived.Deep.QuietTactic
import Derived.BigQuiet
import Derived.WideLaws
import Derived.Deep.DeepCutAuto
import Derived.Deep.CutBlock
import Derived.Deep.RegionHeld3
import Derived.Deep.DeepMust
import Derived.Deep.DeepFit
import Derived.Outline
import Derived.Laws.Rows
import Derived.Lib.AppendStr
import Derived.ArgAppend
import Derived.Laws.IdiomCopy
import Derived.OrdersHeld
import Derived.Laws.BitsLemmas
import Derived.RowKit
import Derived.IntWalk
import Derived.WalkSpells
import Derived.WalkLawsBesides
namespace Go.Proofs.Ytdggnnbgiadgaaa
open Go.RowKit

theorem bcell {W w1 : World} (hb : Below W.heap.size W w1) : (∀ b o, b < W.heap.size → w1.cell? ⟨b, o, none⟩ = W.cell? ⟨b, o, none⟩) ∧ (∀ b o, b < W.heap.size → w1.frozen? ⟨b, o, none⟩ = W.frozen? ⟨b, o, none⟩) :=
  ⟨fun b o h => hb.cell (p := ⟨b, o, none⟩) h, fun b o h => hb.frozen (p := ⟨b, o, none⟩) h⟩

theorem below_drewN {B : Nat} {a w : World} (h : Below B a w) (n : Nat) : Below B a (w.drewN n) := ⟨h.os, h.tape, h.output, h.size, h.block⟩

/-! ### A region that draws its order, whose operations read and whose callees may lay blocks: walked once -/
structure BW (w : World) where
  val : World
  out : Below w.heap.size w val
instance (w : World) : Inhabited (BW w) := ⟨⟨w, Below.refl _ _⟩⟩
theorem wp_region_below {P : Program} {id : Nat} {Q : Exit → Act → World → Prop} {a : Act} {w : World} {l : List Oper} (hm : P.follows .mixedOrders = true) (hB : Region.lexB .any l.toArray = true)
    (h : wpQuiet P l.toArray (fun w' => ∃ p : BW w, w' = p.val) (fun a' => ∀ w', Below w.heap.size w w' → Q .normal a' w') l a) : (Code.region id l.toArray true).wp P Q a w := by
  have e : (fun a' => ∀ w', Below w.heap.size w w' → Q .normal a' w') = (fun a' => ∀ w', (∃ p : BW w, w' = p.val) → Q .normal a' w') :=
    funext fun a' => propext ⟨fun k w' ⟨p, hp⟩ => k w' (hp ▸ p.out), fun k w' hw => k w' ⟨⟨w', hw⟩, rfl⟩⟩
  rw [e] at h
  exact wp_region_quiet (C := fun w' => ∃ p : BW w, w' = p.val) hm hB ⟨⟨w.drew, (Below.refl _ _).drew⟩, rfl⟩ (by simpa using h)
theorem below_of {P : Program} {f : FuncId} {args : Array Value} {w : World} {p : BW w} {v : Value}
    (h : Calls P f args p.val fun e w' => e = .returned v ∧ Below p.val.heap.size p.val w') : Calls P f args p.val fun e w'' => e = .returned v ∧ ∃ q : BW w, w'' = q.val :=
  h.mono fun _ w' ⟨he, hb⟩ => ⟨he, ⟨w', p.out.trans (hb.mono p.out.size)⟩, rfl⟩
theorem below_of_same {P : Program} {f : FuncId} {args : Array Value} {w : World} {p : BW w} {v : Value}
    (h : Calls P f args p.val fun e w' => e = .returned v ∧ p.val = w') : Calls P f args p.val fun e w'' => e = .returned v ∧ ∃ q : BW w, w'' = q.val :=
  h.mono fun _ _ ⟨he, hb⟩ => ⟨he, p, hb.symm⟩
theorem BW.cell {w : World} (p : BW w) {a : Addr} {v : Value} (h : w.cell? a = some v) : p.val.cell? a = some v := (p.out.cell (World.block_lt_of_cell? w _ h)).trans h

end Go.Proofs.Ytdggnnbgiadgaaa
