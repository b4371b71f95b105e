/- noise, both, by contracts. -/
import Derived.Test.YtbmbgailhiepbaaScale
import Derived.Test.YtbmbgailhiepbaaDraw
import Derived.Test.YtbmbgailhiepbaaSh
import Derived.Laws.ByValue
namespace Go.Proofs.Ytbmbgailhiepbaa
open Go.RowKit Ieee

/-- A part of the noise. -/
def pn (d : Int) : Nat := (floatBits .quo .f32 (floatOfInt .f32 (d - 16384)) 1182793728).getD 0

theorem p24 : (2 : Nat) ^ (FloatKind.f32.format.fractionBits + 1) = 16777216 := by decide
theorem k16384 : floatOfInt .f32 16384 = 1182793728 := by decide +kernel
theorem d16384 : FloatKind.f32.format.read 1182793728 = .number false 8388608 (-9) := by decide +kernel

theorem fOfInt (n : Int) : floatOfInt .f32 n = FloatKind.f32.format.nearest (decide (n < 0)) n.natAbs 0 := rfl

theorem sub_noise (d : Int) (h0 : 0 ≤ d) (h1 : d ≤ 32767) : floatBits .sub .f32 (floatOfInt .f32 d) 1182793728 = some (floatOfInt .f32 (d - 16384)) := by
  obtain ⟨n, rfl⟩ := Int.eq_ofNat_of_zero_le h0
  rw [← k16384]
  have h := sub_exact FloatKind.f32.format (by decide) 149 (by decide) (by decide) n 16384 (by rw [p24]; omega) (by decide)
  have e1 : floatOfInt .f32 (n : Int) = FloatKind.f32.format.nearest false n 0 := by
    rw [fOfInt]
    have : decide ((n : Int) < 0) = false := decide_eq_false (by omega)
    rw [this]
    rfl
  have e2 : floatOfInt .f32 16384 = FloatKind.f32.format.nearest false 16384 0 := rfl
  rw [e1, e2]
  exact h

theorem pn_eq (d : Int) (h0 : 0 ≤ d) (h1 : d ≤ 32767) : floatBits .quo .f32 (floatOfInt .f32 (d - 16384)) 1182793728 = some (pn d) := by
  obtain ⟨m, p, h, -, -⟩ := exact_int FloatKind.f32.format (by decide) 149 (by decide) (by decide) (decide (d - 16384 < 0)) (d - 16384).natAbs (by rw [p24]; omega)
  have hs : ∃ r, floatBits .quo .f32 (floatOfInt .f32 (d - 16384)) 1182793728 = some r := by
    unfold floatBits Format.div
    simp only
    rw [fOfInt, h, d16384]
    simp [Datum.quotient]
  obtain ⟨r, hr⟩ := hs
  unfold pn
  rw [hr]
  rfl

def nd (s i c : Int) (o : Int) : Int := dr s (2 * (16 * i + c + 1000000) + o)

set_option maxHeartbeats 400000 in
theorem noiseS (s i c : Int) (l : Nat) (h0 : 0 ≤ s) (h1 : s ≤ 2147483647) (h2 : 0 ≤ i) (h3 : i ≤ 1000000) (h4 : 0 ≤ c) (h5 : c ≤ 15) (w : World) :
    Calls Try.prog 37 #[.int .i64 s, .int .i64 i, .int .i64 c, .float .f32 l] w fun e w' => ∃ r im m, e = .returned (.complex .f32 r im) ∧ w' = w.drewN m ∧
      cf .f32 r = mcf .mul .f32 (pn (dr s (2 * (16 * i + c + 1000000)))) l ∧ cf .f32 im = mcf .mul .f32 (pn (dr s (2 * (16 * i + c + 1000000) + 1))) l := by
  have d1 := dr_in s (2 * (16 * i + c + 1000000))
  have d2 := dr_in s (2 * (16 * i + c + 1000000) + 1)
  have q1 := fun u : World => run_float_arith (P := Try.prog) u .quo 22 .f32 _ _ _ (pn_eq _ d1.1 d1.2)
  have q2 := fun u : World => run_float_arith (P := Try.prog) u .quo 22 .f32 _ _ _ (pn_eq _ d2.1 d2.2)
  go_enter Try.func37, Try.ntmps37
  go_wp2_with (first | (go_at_call 67; refine (drawS _ _ (by omega) (by omega) (by omega) (by omega) _).mono ?_; rintro e w' ⟨rfl, rfl⟩) | (go_at_call 60; refine (scaleS _ _ _ _).mono ?_; rintro e w' ⟨r, im, m, rfl, rfl, hR, hI⟩))
  all_goals go_ret
  all_goals exact ⟨_, _, _, rfl, rfl, hR, hI⟩

set_option maxHeartbeats 400000 in
theorem noise1 (s i : Int) (g : Nat) (h0 : 0 ≤ s) (h1 : s ≤ 2147483647) (h2 : 0 ≤ i) (h3 : i ≤ 1000000000) (w : World) (hg : w.cell? ⟨g, 0, none⟩ = some (.int .i64 s)) :
    Calls Try.prog 68 #[.int .i64 i, .pointer (some ⟨g, 0, none⟩)] w fun e w' => e = .returned (.float .f32 (pn (dr s i))) ∧ w = w' := by
  have d1 := dr_in s i
  have q1 := fun u : World => run_float_arith (P := Try.prog) u .quo 22 .f32 _ _ _ (pn_eq _ d1.1 d1.2)
  have q2 := fun u : World => run_float_arith (P := Try.prog) u .sub 22 .f32 _ _ _ (sub_noise _ d1.1 d1.2)
  go_enter Try.func68, Try.ntmps68
  go_wp2_with (first | (go_at_call 69; refine (drawI _ _ (by omega) (by omega) (by omega) (by omega) _).mono ?_; rintro e w' ⟨rfl, rfl⟩))
  all_goals go_ret
  all_goals exact ⟨rfl, rfl⟩

set_option maxHeartbeats 400000 in
theorem noiseI (s i c : Int) (l : Nat) (h0 : 0 ≤ s) (h1 : s ≤ 2147483647) (h2 : 0 ≤ i) (h3 : i ≤ 1000000) (h4 : 0 ≤ c) (h5 : c ≤ 15) (w : World) :
    Calls Try.prog 41 #[.int .i64 s, .int .i64 i, .int .i64 c, .float .f32 l] w fun e w' => ∃ r im, e = .returned (.complex .f32 r im) ∧ Grown w w' ∧
      cf .f32 r = mcf .mul .f32 (pn (dr s (2 * (16 * i + c + 1000000)))) l ∧ cf .f32 im = mcf .mul .f32 (pn (dr s (2 * (16 * i + c + 1000000) + 1))) l := by
  have HB : (w.alloc (.cells #[.int .i64 s] 2)).cell? ⟨w.heap.size, 0, none⟩ = some (.int .i64 s) := by
    rw [cell_of_row _ _ 0 #[.int .i64 s] 2 (0, 0) (heap_alloc_new w _)]; rfl
  go_enter Try.func41, Try.ntmps41
  go_wp2_with (first | (go_at_call 68; refine (noise1 s _ _ h0 h1 (by omega) (by omega) _ HB).mono ?_; rintro e w' ⟨rfl, rfl⟩) | (go_at_call 65; refine (scaleI _ _ _ _).mono ?_; rintro e w' ⟨r, im, m, rfl, rfl, hR, hI⟩))
  all_goals go_ret
  all_goals exact ⟨_, _, rfl, by repeat (first | exact Grown.refl _ | apply Grown.drew | apply Grown.drewN | apply Grown.alloc), hR, hI⟩

end Go.Proofs.Ytbmbgailhiepbaa
