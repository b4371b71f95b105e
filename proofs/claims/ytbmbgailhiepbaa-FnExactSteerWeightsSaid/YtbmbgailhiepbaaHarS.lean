/- sameFloat's contract. -/
import Derived.Test.YtbmbgailhiepbaaRows
import Derived.Test.YtbmbgailhiepbaaMem
import Derived.Test.YtbmbgailhiepbaaFlc
import Derived.BigQuiet
namespace Go.Proofs.Ytbmbgailhiepbaa
open Go.RowKit

set_option maxHeartbeats 400000 in
theorem sameFloat_any (x y : Nat) (w : World) (h : cf .f64 x = cf .f64 y) :
    Calls Try.prog 42 #[.float .f64 x, .float .f64 y] w fun e w' => e = .returned (.bool true) ∧ w = w' := by
  rcases cf_cases h with ⟨hx, hy⟩ | ⟨hx, hy⟩
  · have e1 : FloatKind.f64.format.order x x = none := order_nan_left hx
    have e2 : FloatKind.f64.format.order y y = none := order_nan_left hy
    clear h hx hy
    go_enter Try.func42, Try.ntmps42
    go_wp2
    all_goals go_ret
    all_goals exact ⟨rfl, rfl⟩
  · have e1 : FloatKind.f64.format.order x x = some .eq := order_self hx
    have hd : FloatKind.f64.format.read y = FloatKind.f64.format.read x := hy
    have e2 : FloatKind.f64.format.order y y = some .eq := by unfold Ieee.Format.order; rw [hd]; exact e1
    have e3 : FloatKind.f64.format.order x y = some .eq := by unfold Ieee.Format.order; rw [hd]; exact e1
    have e4 : FloatKind.f64.format.order y 0 = FloatKind.f64.format.order x 0 := by unfold Ieee.Format.order; rw [hd]
    by_cases hz : FloatKind.f64.format.order x 0 = some .eq
    · rw [hz] at e4
      obtain ⟨t, e, hx0⟩ := order_zero (a := FloatKind.f64.decode x) (s := false) (p := -1074) (by rw [← zero_f64]; exact hz)
      obtain ⟨r, hr, -⟩ := one_over_zero hx0
      have hr2 : floatBits .quo .f64 4607182418800017408 y = some r := by
        rw [← hr]; unfold floatBits Ieee.Format.div; simp only [hd]
      have q1 : ∀ t w, (binOp .quo t (.float .f64 4607182418800017408) (.float .f64 x)).run Try.prog w = .ok (.float .f64 r) w := fun t w => run_float_arith w .quo t .f64 _ _ r hr
      have q2 : ∀ t w, (binOp .quo t (.float .f64 4607182418800017408) (.float .f64 y)).run Try.prog w = .ok (.float .f64 r) w := fun t w => run_float_arith w .quo t .f64 _ _ r hr2
      clear hr hr2 hx0 hd h hx hy
      go_enter Try.func42, Try.ntmps42
      go_wp2
      all_goals go_ret
      all_goals exact ⟨by simp, rfl⟩
    · have hz2 : (FloatKind.f64.format.order x 0 == some .eq) = false := beq_false_of_ne hz
      have hz3 : (FloatKind.f64.format.order y 0 == some .eq) = false := by rw [e4]; exact hz2
      clear hd h hx hy hz e4
      go_enter Try.func42, Try.ntmps42
      go_wp2
      all_goals go_ret
      all_goals exact ⟨by simp, rfl⟩
end Go.Proofs.Ytbmbgailhiepbaa
