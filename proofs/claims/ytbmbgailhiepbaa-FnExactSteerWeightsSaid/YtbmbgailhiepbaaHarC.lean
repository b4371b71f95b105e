/- sameComplex's contract; a complex number widened. -/
import Derived.Test.YtbmbgailhiepbaaRows
import Derived.Test.YtbmbgailhiepbaaHarS
import Derived.BigQuiet
namespace Go.Proofs.Ytbmbgailhiepbaa
open Go.RowKit

set_option maxHeartbeats 400000 in
theorem sameComplex_any (a b c d : Nat) (w : World) (h : cf .f64 a = cf .f64 c) (h2 : cf .f64 b = cf .f64 d) :
    Calls Try.prog 10 #[.complex .f64 a b, .complex .f64 c d] w fun e w' => e = .returned (.bool true) ∧ w = w' := by
  go_enter Try.func10, Try.ntmps10
  go_wp2_with (go_at_call 42; refine (sameFloat_any _ _ _ (by with_reducible assumption)).mono ?_; rintro e w' ⟨rfl, rfl⟩)
  all_goals go_ret
  all_goals exact ⟨rfl, rfl⟩

theorem floatToFloat_widen {P : Program} (b : Nat) (w : World) : (Conv.floatToFloat .f32 b .f64).run P w = .ok (.float .f64 (wb b w)) (w.drewN (wn b)) := by
  unfold wb wn floatToFloatBits
  rw [if_neg (by decide)]
  cases hd' : FloatKind.f32.decode b with
  | nan s t =>
    simp [Conv.floatToFloat, hd', choose, Sem.run, Question.forced, World.drewN, Result.andThen]
  | infinity s =>
    simp [Conv.floatToFloat, hd', World.drewN_zero]
  | number s m p =>
    obtain ⟨h1, h2, h3⟩ := read_single hd'
    have hf := widen_finite (s := s) h1 h2 h3
    simp [Conv.floatToFloat, hd', hf, World.drewN_zero]

theorem run_cwiden {P : Program} (src dst : TypeId) (hs : (P.underlying src).isSome = true) (hd : P.underlying dst = some (.complex .f64)) (a b : Nat) (w : World) :
    (convert src dst (.complex .f32 a b)).run P w = .ok (.complex .f64 (wb a w) (wb b (w.drewN (wn a)))) (w.drewN (wn a + wn b)) := by
  obtain ⟨u, hs'⟩ := Option.isSome_iff_exists.1 hs
  cases u <;> simp [convert, run_underlying hs', run_underlying hd, Conv.complexToComplex, floatToFloat_widen, World.drewN_drewN]
end Go.Proofs.Ytbmbgailhiepbaa
