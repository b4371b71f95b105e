/- waysOf, taperAt, by contracts. -/
import Derived.Test.YtbmbgailhiepbaaTapP
import Derived.Test.YtbmbgailhiepbaaPhI
import Derived.BigQuiet
import Derived.Deep.RegionWith
import Derived.Laws.Cover3
namespace Go.Proofs.Ytbmbgailhiepbaa
open Go.RowKit Ieee

set_option maxHeartbeats 1000000 in
theorem waysI (n : Nat) (hn : n < 17) (h1 : 1 ≤ n) (j : Nat) (hj : j < n) (w : World) :
    Calls Try.prog 74 #[.int .i64 ((n : Int) - 1), .int .i64 j] w fun e w' => e = .returned (.int .i64 (ch n j)) ∧ w = w' := by
  have HC := Lib.hid (ch_all n hn h1).2
  go_enter Try.func74, Try.ntmps74
  go_wp2
  go_loopw [5, 8] (fun c i wr => ∃ k : Nat, k ≤ j ∧ i = .int .i64 k ∧ c = .int .i64 (ch n k) ∧ wr = w) (fun _ i _ => j - (intOf i).toNat)
  case atStart => exact ⟨0, Nat.zero_le _, rfl, rfl, rfl⟩
  case round =>
    obtain ⟨k, hk, rfl, rfl, rfl⟩ := hrel
    by_cases hlt : k < j
    · obtain ⟨c1, c2, c3, c4, _⟩ := HC.out k (by omega)
      have hstep : ch n (k + 1) = ch n k * ((n : Int) - 1 - (k : Int)) / ((k : Int) + 1) := rfl
      generalize hX : ch n (k + 1) = X at hstep
      have HX := Lib.hid hX
      clear hX
      generalize ch n k = Y at *
      generalize hZ : Y * ((n : Int) - 1 - (k : Int)) = Z at *
      go_wp2
      all_goals go_roundw
      case rel => exact ⟨k + 1, by omega, by go_num, by rw [HX.out, hstep], by first | rfl | trivial⟩
      case measure => simp [intOf]; omega
    · have : k = j := by omega
      subst this
      go_wp2
      go_ret
      exact ⟨rfl, rfl⟩

set_option maxRecDepth 100000 in
set_option maxHeartbeats 1000000 in
theorem taperAt0 (n j : Nat) (w : World) :
    Calls Try.prog 49 #[.int .i64 0, .int .i64 n, .int .i64 j] w fun e w' => e = .returned (.float .f32 1065353216) ∧ w = w' := by
  go_enter Try.func49, Try.ntmps49
  go_wp2
  all_goals go_ret
  all_goals exact ⟨rfl, rfl⟩

set_option maxRecDepth 100000 in
set_option maxHeartbeats 1000000 in
theorem taperAt1 (n j : Nat) (hn : n < 17) (h1 : 1 ≤ n) (hj : j < n) (w : World) :
    Calls Try.prog 49 #[.int .i64 1, .int .i64 n, .int .i64 j] w fun e w' => e = .returned (.float .f32 (e1 n j)) ∧ w = w' := by
  obtain ⟨q1, q2, _⟩ := e1_all n hn h1 j hj
  have r1 := fun u : World => run_float_arith (P := Try.prog) u .mul 22 .f32 _ _ _ q1
  have r2 := fun u : World => run_float_arith (P := Try.prog) u .quo 22 .f32 _ _ _ q2
  clear q1 q2
  generalize e1 n j = E at *
  generalize gB .mul 1073741824 (floatOfInt .f32 (min ((j : Int) + 1) ((n : Int) - (j : Int)))) = M at *
  by_cases hm : (n : Int) - (j : Int) < (j : Int) + 1
  · rw [show min ((j : Int) + 1) ((n : Int) - (j : Int)) = (n : Int) - (j : Int) by omega] at r1
    go_enter Try.func49, Try.ntmps49
    go_wp2
    all_goals go_ret
    all_goals exact ⟨rfl, rfl⟩
  · rw [show min ((j : Int) + 1) ((n : Int) - (j : Int)) = (j : Int) + 1 by omega] at r1
    go_enter Try.func49, Try.ntmps49
    go_wp2
    all_goals go_ret
    all_goals exact ⟨rfl, rfl⟩

set_option maxRecDepth 100000 in
set_option maxHeartbeats 1000000 in
theorem taperAt2 (n j : Nat) (hn : n < 17) (h1 : 1 ≤ n) (hj : j < n) (w : World) :
    Calls Try.prog 49 #[.int .i64 2, .int .i64 n, .int .i64 j] w fun e w' => e = .returned (.float .f32 (e2 n j)) ∧ w = w' := by
  obtain ⟨q1, _, q3, _⟩ := e2_all n j hn hj
  obtain ⟨t1, t2⟩ := tB_all n j hn hj
  have r1 := fun u : World => run_float_arith (P := Try.prog) u .quo 22 .f32 _ _ _ q1
  have r2 := fun u : World => run_float_arith (P := Try.prog) u .sub 22 .f32 _ _ _ q3
  have r3 := run_fB (P := Try.prog) t1 63
  have cP := fun u => phasorI _ t2 u
  clear q1 q3 t1 t2
  generalize e2 n j = E at *
  generalize gB .mul 1056964608 (phR (tB n j)) = M at *
  generalize phR (tB n j) = R at *
  generalize phI (tB n j) = I at *
  generalize tB n j = T at *
  go_enter Try.func49, Try.ntmps49
  go_wp2_with (go_at_call 54; refine (cP _).mono ?_; rintro e w' ⟨rfl, rfl⟩)
  all_goals go_ret
  all_goals exact ⟨rfl, rfl⟩

set_option maxRecDepth 100000 in
set_option maxHeartbeats 1000000 in
theorem taperAt3 (n j : Nat) (hn : n < 17) (h1 : 1 ≤ n) (hj : j < n) (w : World) :
    Calls Try.prog 49 #[.int .i64 3, .int .i64 n, .int .i64 j] w fun e w' => e = .returned (.float .f32 (e3 n j)) ∧ w = w' := by
  obtain ⟨q1, _⟩ := e3_all n hn h1 j hj
  rw [(ch_all n hn h1).1] at q1
  have r1 := fun u : World => run_float_arith (P := Try.prog) u .quo 22 .f32 _ _ _ q1
  have c1 := fun u => waysI n hn h1 j hj u
  have c2 : ∀ u, Calls Try.prog 74 #[.int .i64 ((n : Int) - 1), .int .i64 (((n : Int) - 1) / 2)] u fun e w' => e = .returned (.int .i64 (ch n ((n - 1) / 2))) ∧ u = w' := fun u => by
    rw [show ((n : Int) - 1) / 2 = (((n - 1) / 2 : Nat) : Int) by omega]
    exact waysI n hn h1 ((n - 1) / 2) (by omega) u
  clear q1
  generalize e3 n j = E at *
  generalize ch n j = C1 at *
  generalize ch n ((n - 1) / 2) = C2 at *
  go_enter Try.func49, Try.ntmps49
  go_wp2_with (go_at_call 74; with_reducible (first | (refine (c1 _).mono ?_; rintro e w' ⟨rfl, rfl⟩) | (refine (c2 _).mono ?_; rintro e w' ⟨rfl, rfl⟩)))
  all_goals go_ret
  all_goals exact ⟨rfl, rfl⟩

/-- taperAt. -/
theorem taperAtI (k : Int) (hk0 : 0 ≤ k) (hk3 : k ≤ 3) (n j : Nat) (hn : n < 17) (h1 : 1 ≤ n) (hj : j < n) (w : World) :
    Calls Try.prog 49 #[.int .i64 k, .int .i64 n, .int .i64 j] w fun e w' => e = .returned (.float .f32 (el k n j)) ∧ w = w' := by
  rcases (by omega : k = 0 ∨ k = 1 ∨ k = 2 ∨ k = 3) with rfl | rfl | rfl | rfl
  · exact taperAt0 n j w
  · exact taperAt1 n j hn h1 hj w
  · exact taperAt2 n j hn h1 hj w
  · exact taperAt3 n j hn h1 hj w
end Go.Proofs.Ytbmbgailhiepbaa
