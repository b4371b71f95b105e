/- ScaleComplex, both, by contracts. -/
import Derived.Test.YtbmbgailhiepbaaRows
import Derived.Test.YtbmbgailhiepbaaNan
import Derived.Test.YtbmbgailhiepbaaMem
import Derived.BigQuiet
import Derived.Deep.RegionWith
namespace Go.Proofs.Ytbmbgailhiepbaa
open Go.RowKit

set_option maxHeartbeats 400000 in
theorem scaleS (a b l : Nat) (w : World) :
    Calls Try.prog 60 #[.complex .f32 a b, .float .f32 l] w fun e w' => ∃ r i m, e = .returned (.complex .f32 r i) ∧ w' = w.drewN m ∧ cf .f32 r = mcf .mul .f32 a l ∧ cf .f32 i = mcf .mul .f32 b l := by
  have q1 := fun u : World => run_arith_any (P := Try.prog) .mul (by simp) 22 .f32 a l u
  have q2 := fun u : World => run_arith_any (P := Try.prog) .mul (by simp) 22 .f32 b l u
  go_enter Try.func60, Try.ntmps60
  go_wp2_with fail
  all_goals go_ret
  all_goals exact ⟨_, _, _, rfl, rfl, mb_mcf _ _ _ _ _, mb_mcf _ _ _ _ _⟩

set_option maxHeartbeats 400000 in
theorem scaleI (a b l : Nat) (w : World) :
    Calls Try.prog 65 #[.complex .f32 a b, .float .f32 l] w fun e w' => ∃ r i m, e = .returned (.complex .f32 r i) ∧ w' = w.drewN m ∧ cf .f32 r = mcf .mul .f32 a l ∧ cf .f32 i = mcf .mul .f32 b l := by
  have q1 := fun u : World => run_arith_any (P := Try.prog) .mul (by simp) 22 .f32 a l u
  have q2 := fun u : World => run_arith_any (P := Try.prog) .mul (by simp) 22 .f32 b l u
  go_enter Try.func65, Try.ntmps65
  go_wp2_with fail
  all_goals go_ret
  all_goals exact ⟨_, _, _, rfl, rfl, mb_mcf _ _ _ _ _, mb_mcf _ _ _ _ _⟩
end Go.Proofs.Ytbmbgailhiepbaa
