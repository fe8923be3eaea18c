/- kind.Cast, joined. -/
import Derived.Test.YtdggnnbgiadgaaaCa
set_option linter.unusedVariables false
namespace Go.Proofs.Ytdggnnbgiadgaaa
open Go.RowKit

theorem casts_may {x k y l : Int} (h : castsB x k y l = true) : mayB y l = true := by
  have : longI y l ≠ 0 := by
    intro e
    unfold castsB at h
    simp [e] at h
  unfold longI at this
  by_cases hm : mayB y l = true
  · exact hm
  · rw [if_neg hm] at this
    exact absurd rfl this
theorem floatOfInt_lt (n : Int) : floatOfInt .f64 n ≤ 18446744073709551615 := by
  have h := Ieee.Format.write_lt dbl (.number (n < 0) n.natAbs 0)
  have e : floatOfInt .f64 n = dbl.write (.number (n < 0) n.natAbs 0) := rfl
  have : (2 : Nat) ^ dbl.width = 18446744073709551616 := by decide
  omega
theorem u64_wrap_range (n : Int) : 0 ≤ IntKind.u64.wrap n ∧ IntKind.u64.wrap n ≤ 18446744073709551615 := by
  rw [IntKind.wrap_u64]
  omega
theorem castBits_range (v : Vl) (f g : Fld) (h0 : 0 ≤ v.bits) (h1 : v.bits ≤ 18446744073709551615) : 0 ≤ castBits v f g ∧ castBits v f g ≤ 18446744073709551615 := by
  unfold castBits
  have hf := fun n => floatOfInt_lt n
  split
  · split
    · have := hf v.bits; omega
    · split
      · have := hf (wrap64 v.bits); omega
      · omega
  · split
    · split
      · exact u64_wrap_range _
      · omega
    · omega
theorem castV_ok {v : Vl} {f g : Fld} (hv : VlOk v) (hg : FldOk g) : VlOk (castV v f g).1 := by
  unfold castV
  split
  · split
    · split
      · rename_i h2 h3
        refine ⟨hv.bits, ?_, ⟨by dsimp only; omega, by dsimp only; omega⟩⟩
        dsimp only
        rw [padT_size]
        have := casts_may h2
        unfold mayB at this
        rw [if_pos h3] at this
        simp at this
        omega
      · exact ⟨castBits_range v f g hv.bits.1 hv.bits.2, by show (0 : Nat) ≤ _; omega, hg.kind⟩
    · exact vlOk_zero
  · exact vlOk_zero
theorem kind_Cast (v : Vl) (f g : Fld) (w : World) (hv : VlOk v) :
    Calls Try.prog 37 #[.agg #[.int .i64 v.kind, .int .u64 v.bits, .string v.text], .agg #[.string f.name, .int .i64 f.kind, .int .i64 f.long], .agg #[.string g.name, .int .i64 g.kind, .int .i64 g.long]] w (RetVE w (castV v f g)) := by
  obtain ⟨h0, h1⟩ := hv.bits
  have bf : ∀ {a b : Int}, ¬ a = b → (a == b) = false := fun h => beq_eq_false_iff_ne.2 h
  have bt : ∀ {a b : Int}, a = b → (a == b) = true := fun h => beq_iff_eq.2 h
  unfold castV
  cases hv : valB v f with
  | false => rw [if_neg (by decide)]; exact kind_Cast0 v f g w h0 h1 hv
  | true =>
    rw [if_pos rfl]
    cases hc : castsB f.kind f.long g.kind g.long with
    | false => rw [if_neg (by decide)]; exact kind_Cast1 v f g w h0 h1 hv hc
    | true =>
      rw [if_pos rfl]
      by_cases g12 : g.kind = 12
      · rw [if_pos g12]
        have hm := casts_may hc
        unfold mayB at hm
        rw [if_pos g12] at hm
        simp at hm
        have := kind_CastC v f g w h0 h1 hv hc (bt g12) (bf (by omega)) (bf (by omega)) g.long.toNat (by omega) (by omega)
        rw [g12] at this ⊢
        exact this
      · rw [if_neg g12]
        unfold castBits
        by_cases g10 : g.kind = 10
        · rw [if_pos g10]
          cases hp : plainB f.kind with
          | true => rw [if_pos rfl]; exact kind_CastD v f g w h0 h1 hv hc (bf g12) (bt g10) (bf (by omega)) hp
          | false =>
            rw [if_neg (by decide)]
            cases hs : signedB f.kind with
            | true => rw [if_pos rfl]; exact kind_CastE v f g w h0 h1 hv hc (bf g12) (bt g10) (bf (by omega)) hp hs
            | false => rw [if_neg (by decide)]; exact kind_CastN v f g w h0 h1 hv hc (bf g12) (bt g10) (bf (by omega)) hp hs
        · rw [if_neg g10]
          by_cases g8 : g.kind = 8
          · rw [if_pos g8]
            by_cases f10 : f.kind = 10
            · rw [if_pos f10]; exact kind_CastF0 v f g w h0 h1 hv hc (bf g12) (bf g10) (bt g8) (bt f10)
            · rw [if_neg f10]; exact kind_CastF1 v f g w h0 h1 hv hc (bf g12) (bf g10) (bt g8) (bf f10)
          · rw [if_neg g8]; exact kind_CastG v f g w h0 h1 hv hc (bf g12) (bf g10) (bf g8)
end Go.Proofs.Ytdggnnbgiadgaaa
