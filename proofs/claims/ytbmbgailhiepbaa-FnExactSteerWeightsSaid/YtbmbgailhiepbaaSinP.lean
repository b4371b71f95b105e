/- The sine of turns, on bits. -/
import Derived.Test.YtbmbgailhiepbaaBit
namespace Go.Proofs.Ytbmbgailhiepbaa
open Ieee

theorem Lb_int (n : Nat) (h1 : 1 ≤ n) (h2 : n ≤ 1048576) : Lb (cf .f64 (floatOfInt .f64 n)) := by
  obtain ⟨c, j, r1, r2, r3⟩ := exact_int Ieee.double (by decide) eL (by decide) (by decide) false n (by rw [p53]; omega)
  have hE := eL_eq
  refine ⟨false, c, j, ?_, by omega, ?_⟩
  · have : floatOfInt .f64 (n : Int) = Ieee.double.nearest false n 0 := by
      show Ieee.double.nearest (decide ((n : Int) < 0)) n 0 = _
      rw [decide_eq_false (by omega)]
    rw [this]
    show canon (Ieee.double.read (Ieee.double.nearest false n 0)) = _
    rw [r1]; rfl
  · rw [r3]
    exact Nat.le_mul_of_pos_left _ h1

theorem bp_one : Bp (cf .f64 4607182418800017408) 0 := by
  refine ⟨false, 4503599627370496, -52, by decide +kernel, by omega, ?_⟩
  have hE := eL_eq
  rw [show (4503599627370496 : Nat) = 2 ^ 52 from rfl, ← Nat.pow_add]
  exact Nat.pow_le_pow_right (by omega) (by omega)
theorem bp_half : Bp (cf .f64 4602678819172646912) 0 := by
  refine ⟨false, 4503599627370496, -53, by decide +kernel, by omega, ?_⟩
  have hE := eL_eq
  rw [show (4503599627370496 : Nat) = 2 ^ 52 from rfl, ← Nat.pow_add]
  exact Nat.pow_le_pow_right (by omega) (by omega)
theorem bp_quarter : Bp (cf .f64 4598175219545276416) 0 := by
  refine ⟨false, 4503599627370496, -54, by decide +kernel, by omega, ?_⟩
  have hE := eL_eq
  rw [show (4503599627370496 : Nat) = 2 ^ 52 from rfl, ← Nat.pow_add]
  exact Nat.pow_le_pow_right (by omega) (by omega)
theorem bp_zero : Bp (cf .f64 0) 0 := ⟨false, 0, -1074, by decide +kernel, by omega, by simp⟩
theorem bp_turn : Bp (cf .f64 4618760256179416344) 3 := by
  refine ⟨false, 7074237752028440, -50, by decide +kernel, by omega, ?_⟩
  have hE := eL_eq
  refine Nat.le_trans (Nat.mul_le_mul_right _ (show 7074237752028440 ≤ 2 ^ 53 by decide)) ?_
  rw [← Nat.pow_add]
  exact Nat.pow_le_pow_right (by omega) (by omega)

/-- The fraction, from 0 to 1. -/
def frB (t : Nat) : Nat := if (FloatKind.f64.format.order (fB .sub t (floatOfInt .f64 (iB t))) 0 == some .lt) = true then fB .add (fB .sub t (floatOfInt .f64 (iB t))) 4607182418800017408 else fB .sub t (floatOfInt .f64 (iB t))
theorem frB_bp {t : Nat} (h : Bp (cf .f64 t) 51) : Bp (cf .f64 (frB t)) 1 := by
  obtain ⟨_, _, h3⟩ := iB_frac h
  unfold frB
  split
  · exact (B_add h3 bp_one (by omega)).2.1
  · exact h3.mono (by omega)

def bigB (f : Nat) : Bool := FloatKind.f64.format.order f 4602678819172646912 == some .gt || FloatKind.f64.format.order f 4602678819172646912 == some .eq
def s1B (f : Nat) : Nat := if bigB f then fB .sub f 4602678819172646912 else f
def s2B (f : Nat) : Nat := if (FloatKind.f64.format.order f 4598175219545276416 == some .gt) = true then fB .sub 4602678819172646912 f else f
theorem s1B_bp {f : Nat} (h : Bp (cf .f64 f) 1) : Bp (cf .f64 (s1B f)) 2 := by
  unfold s1B
  split
  · exact (B_sub h (bp_half.mono (by omega)) (by omega)).2.1
  · exact h.mono (by omega)
theorem s2B_bp {f : Nat} (h : Bp (cf .f64 f) 2) : Bp (cf .f64 (s2B f)) 3 := by
  unfold s2B
  split
  · exact (B_sub (bp_half.mono (by omega)) h (by omega)).2.1
  · exact h.mono (by omega)

def dkB (k : Int) : Nat := floatOfInt .f64 (2 * k * (2 * k + 1))
/-- The polynomial, from within, after j rounds. -/
def pB (z : Nat) : Nat → Nat
  | 0 => 4607182418800017408
  | j + 1 => fB .sub 4607182418800017408 (fB .quo (fB .mul z (pB z j)) (dkB (8 - (j : Int))))

theorem dkB_lb (j : Nat) (h : j < 8) : Lb (cf .f64 (dkB (8 - (j : Int)))) := by
  have : ∃ n : Nat, 2 * (8 - (j : Int)) * (2 * (8 - (j : Int)) + 1) = n ∧ 1 ≤ n ∧ n ≤ 1048576 := by
    rcases (by omega : j = 0 ∨ j = 1 ∨ j = 2 ∨ j = 3 ∨ j = 4 ∨ j = 5 ∨ j = 6 ∨ j = 7) with rfl | rfl | rfl | rfl | rfl | rfl | rfl | rfl
    · exact ⟨272, by decide⟩
    · exact ⟨210, by decide⟩
    · exact ⟨156, by decide⟩
    · exact ⟨110, by decide⟩
    · exact ⟨72, by decide⟩
    · exact ⟨42, by decide⟩
    · exact ⟨20, by decide⟩
    · exact ⟨6, by decide⟩
  obtain ⟨n, h1, h2, h3⟩ := this
  unfold dkB
  rw [h1]
  exact Lb_int n h2 h3

theorem pB_bp {z : Nat} (hz : Bp (cf .f64 z) 12) (j : Nat) (hj : j ≤ 8) : Bp (cf .f64 (pB z j)) (14 * j) := by
  induction j with
  | zero => exact bp_one
  | succ j ih =>
    have h1 := (B_mul hz (ih (by omega)) (by omega)).2
    have h2 := (B_div h1 (dkB_lb j (by omega)) (by omega)).2
    have h3 := (B_sub (bp_one.mono (by omega)) h2 (by omega)).2.1
    exact h3.mono (by omega)

/-- One round, its operations. -/
theorem pB_round {z : Nat} (hz : Bp (cf .f64 z) 12) (j : Nat) (hj : j < 8) :
    floatBits .mul .f64 z (pB z j) = some (fB .mul z (pB z j)) ∧ floatBits .quo .f64 (fB .mul z (pB z j)) (dkB (8 - (j : Int))) = some (fB .quo (fB .mul z (pB z j)) (dkB (8 - (j : Int)))) ∧
    floatBits .sub .f64 4607182418800017408 (fB .quo (fB .mul z (pB z j)) (dkB (8 - (j : Int)))) = some (pB z (j + 1)) := by
  have h1 := B_mul hz (pB_bp hz j (by omega)) (by omega)
  have h2 := B_div h1.2 (dkB_lb j (by omega)) (by omega)
  have h3 := B_sub (bp_one.mono (by omega)) h2.2 (by omega)
  exact ⟨h1.1, h2.1, h3.1⟩

def xB (t : Nat) : Nat := fB .mul (s2B (s1B (frB t))) 4618760256179416344
def zB (t : Nat) : Nat := fB .mul (xB t) (xB t)
def rB (t : Nat) : Nat := fB .mul (xB t) (pB (zB t) 8)
def sinB (t : Nat) : Nat := if bigB (frB t) then Op.negFloat .f64 (rB t) else rB t

theorem xB_all {t : Nat} (h : Bp (cf .f64 t) 51) : floatBits .mul .f64 (s2B (s1B (frB t))) 4618760256179416344 = some (xB t) ∧ floatBits .mul .f64 (xB t) (xB t) = some (zB t) ∧ Bp (cf .f64 (zB t)) 12 ∧
    floatBits .mul .f64 (xB t) (pB (zB t) 8) = some (rB t) ∧ Bp (cf .f64 (rB t)) 118 := by
  have h1 := B_mul (s2B_bp (s1B_bp (frB_bp h))) bp_turn (by omega)
  have h2 := B_mul h1.2 h1.2 (by omega)
  have h3 := B_mul h1.2 (pB_bp h2.2 8 (by omega)) (by omega)
  exact ⟨h1.1, h2.1, h2.2, h3.1, h3.2⟩

theorem sinB_bp {t : Nat} (h : Bp (cf .f64 t) 51) : Bp (cf .f64 (sinB t)) 118 := by
  unfold sinB
  split
  · exact neg_bp (xB_all h).2.2.2.2
  · exact (xB_all h).2.2.2.2

/-- The rounds' counter, in floats. -/
theorem counter (k : Nat) (h : k < 9) (h1 : 1 ≤ k) : floatBits .mul .f64 4611686018427387904 (floatOfInt .f64 k) = some (floatOfInt .f64 (2 * (k : Int))) ∧ floatBits .add .f64 (floatOfInt .f64 (2 * (k : Int))) 4607182418800017408 = some (floatOfInt .f64 (2 * (k : Int) + 1)) ∧
    floatBits .mul .f64 (floatOfInt .f64 (2 * (k : Int))) (floatOfInt .f64 (2 * (k : Int) + 1)) = some (dkB k) ∧ floatBits .sub .f64 (floatOfInt .f64 k) 4607182418800017408 = some (floatOfInt .f64 ((k : Int) - 1)) ∧
    (FloatKind.f64.format.order (floatOfInt .f64 k) 4607182418800017408 == some .gt || FloatKind.f64.format.order (floatOfInt .f64 k) 4607182418800017408 == some .eq) = true := by
  rcases (by omega : k = 1 ∨ k = 2 ∨ k = 3 ∨ k = 4 ∨ k = 5 ∨ k = 6 ∨ k = 7 ∨ k = 8) with rfl | rfl | rfl | rfl | rfl | rfl | rfl | rfl <;> decide +kernel
theorem counter0 : (FloatKind.f64.format.order (floatOfInt .f64 0) 4607182418800017408 == some .gt || FloatKind.f64.format.order (floatOfInt .f64 0) 4607182418800017408 == some .eq) = false := by decide +kernel
theorem counter8 : floatOfInt .f64 8 = 4620693217682128896 := by decide +kernel
end Go.Proofs.Ytbmbgailhiepbaa
