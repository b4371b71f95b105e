/- The fraction of a number, and quarters taken off it. -/
import Derived.Test.YtbmbgailhiepbaaFrac
namespace Go.Proofs.Ytbmbgailhiepbaa
open Ieee

theorem cut_zero (neg : Bool) (n drop : Nat) : Toward.zero.cut neg n drop = n / 2 ^ drop := by
  unfold Toward.cut
  simp only [Bool.toNat_false, Nat.add_zero, Nat.shiftLeft_eq, Nat.one_mul]
  by_cases h : drop ≤ n.log2 + 2
  · rw [Nat.min_eq_left h]
  · have h1 : n < 2 ^ (n.log2 + 1) := Nat.lt_log2_self
    rw [Nat.min_eq_right (by omega), Nat.div_eq_of_lt (Nat.lt_of_lt_of_le h1 (Nat.pow_le_pow_right (by omega) (by omega))), Nat.div_eq_of_lt (Nat.lt_of_lt_of_le h1 (Nat.pow_le_pow_right (by omega) (by omega)))]

/-- The whole part. -/
def whole (m : Nat) (p : Int) : Nat := m <<< p.toNat / 2 ^ (-p).toNat

theorem toInt_zero (s : Bool) (m : Nat) (p : Int) : (Datum.number s m p).toInt .zero = some (signed s (whole m p) 0) := by
  unfold Datum.toInt Datum.integral whole
  simp only
  rw [cut_zero]

theorem whole_bounds (m : Nat) (p : Int) (h : -1074 ≤ p) : whole m p * 2 ^ eL ≤ m * 2 ^ (p + eL).toNat ∧ m * 2 ^ (p + eL).toNat < (whole m p + 1) * 2 ^ eL := by
  have hE := eL_eq
  unfold whole
  rw [Nat.shiftLeft_eq]
  by_cases hp : 0 ≤ p
  · rw [show (-p).toNat = 0 by omega, Nat.pow_zero, Nat.div_one, show (p + eL).toNat = p.toNat + eL by omega, Nat.pow_add, ← Nat.mul_assoc]
    have := Nat.two_pow_pos eL
    rw [Nat.add_mul]
    omega
  · rw [show p.toNat = 0 by omega, Nat.pow_zero, Nat.mul_one]
    have e : 2 ^ eL = 2 ^ (-p).toNat * 2 ^ (p + eL).toNat := by rw [← Nat.pow_add, show (-p).toNat + (p + eL).toNat = eL by omega]
    rw [e, ← Nat.mul_assoc, ← Nat.mul_assoc]
    have hk := Nat.two_pow_pos (-p).toNat
    generalize 2 ^ (-p).toNat = k at hk
    have h1 : m / k * k ≤ m := Nat.div_mul_le_self m k
    have h2 : m < (m / k + 1) * k := by
      have := Nat.lt_mul_div_succ m hk
      rw [Nat.mul_comm] at this
      exact this
    exact ⟨Nat.mul_le_mul_right _ h1, Nat.mul_lt_mul_of_pos_right h2 (Nat.two_pow_pos _)⟩

theorem signed_scale (u : Bool) (k : Nat) (r base : Int) (h1 : -1074 ≤ base) (h2 : base ≤ r) : signed u k (r - base).toNat * 2 ^ (base + eL).toNat = signed u (k * 2 ^ (r + eL).toNat) 0 := by
  have hE := eL_eq
  have e1 : k * 2 ^ (r + eL).toNat = k * 2 ^ (r - base).toNat * 2 ^ (base + eL).toNat := by
    rw [Nat.mul_assoc, ← Nat.pow_add, show (r - base).toNat + (base + eL).toNat = (r + eL).toNat by omega]
  unfold signed
  rw [Nat.shiftLeft_eq, Nat.shiftLeft_eq, e1]
  cases u
  · simp
  · simp [Int.neg_mul]

theorem sum_mag (s t : Bool) (m n : Nat) (i j : Int) (hi : -1074 ≤ i) (hj : -1074 ≤ j) :
    (signed s m (i - min i j).toNat + signed t n (j - min i j).toNat).natAbs * 2 ^ (min i j + eL).toNat = (signed s (m * 2 ^ (i + eL).toNat) 0 + signed t (n * 2 ^ (j + eL).toNat) 0).natAbs := by
  rw [← signed_scale s m i (min i j) (by omega) (by omega), ← signed_scale t n j (min i j) (by omega) (by omega), ← Int.add_mul, Int.natAbs_mul, Int.natAbs_pow]
  rfl

/-- A difference of numbers, bounded by what a bound on the exact difference says. -/
theorem sub_numbers (s t : Bool) (m n : Nat) (i j : Int) (hi : -1074 ≤ i) (hj : -1074 ≤ j) (e : Nat) (he : e ≤ 1000) (h : (signed s (m * 2 ^ (i + eL).toNat) 0 - signed t (n * 2 ^ (j + eL).toNat) 0).natAbs ≤ 2 ^ (e + eL)) :
    ∃ u k p, dsub (.number s m i) (.number t n j) = .number u k p ∧ -1074 ≤ p ∧ k * 2 ^ (p + eL).toNat ≤ 2 ^ (e + eL) ∧
      (∀ K J, K < 2 ^ 53 → (signed s (m * 2 ^ (i + eL).toNat) 0 - signed t (n * 2 ^ (j + eL).toNat) 0).natAbs ≤ K * 2 ^ J → k * 2 ^ (p + eL).toNat ≤ K * 2 ^ J) := by
  have hE := eL_eq
  have hneg : signed (!t) (n * 2 ^ (j + eL).toNat) 0 = - signed t (n * 2 ^ (j + eL).toNat) 0 := by unfold signed; cases t <;> simp
  have hm := sum_mag s (!t) m n i j hi hj
  rw [hneg, ← Int.sub_eq_add_neg] at hm
  have hsum : dsub (.number s m i) (.number t n j) = rnd (some (.number (if signed s m (i - min i j).toNat + signed (!t) n (j - min i j).toNat = 0 then s && !t else decide (signed s m (i - min i j).toNat + signed (!t) n (j - min i j).toNat < 0)) (signed s m (i - min i j).toNat + signed (!t) n (j - min i j).toNat).natAbs (min i j))) := rfl
  rw [hsum]
  generalize (if signed s m (i - min i j).toNat + signed (!t) n (j - min i j).toNat = 0 then s && !t else decide (signed s m (i - min i j).toNat + signed (!t) n (j - min i j).toNat < 0)) = u
  generalize (signed s m (i - min i j).toNat + signed (!t) n (j - min i j).toNat).natAbs = mag at hm
  have ez : (min i j + eL + ((0 : Nat) : Int)).toNat = (min i j + eL).toNat := by omega
  obtain ⟨k, p, h1, h2, h3, h4, -⟩ := nearest_bp u mag (min i j) 0 e (by omega) he (by rw [ez, hm]; simpa using h)
  refine ⟨u, k, p, h1, h2, h3, fun K J hK hb => h4 K J hK ?_⟩
  rw [ez, hm]
  simpa using hb

/-- A number less its whole part. -/
theorem frac_bp {s : Bool} {m : Nat} {p : Int} (h1 : -1074 ≤ p) (h2 : m * 2 ^ (p + eL).toNat < 2 ^ (52 + eL)) :
    whole m p < 4503599627370496 ∧ Bp (dsub (.number s m p) (cf .f64 (floatOfInt .f64 (signed s (whole m p) 0)))) 0 := by
  obtain ⟨b1, b2⟩ := whole_bounds m p h1
  have hE := eL_eq
  have hN : whole m p < 4503599627370496 := by
    refine Nat.lt_of_mul_lt_mul_right (a := 2 ^ eL) ?_
    refine Nat.lt_of_le_of_lt b1 ?_
    rw [show (4503599627370496 : Nat) = 2 ^ 52 from rfl, ← Nat.pow_add]
    exact h2
  refine ⟨hN, ?_⟩
  generalize hNN : whole m p = N at hN b1 b2
  have hab : (signed s N 0).natAbs = N := by unfold signed; cases s <;> simp
  obtain ⟨c, j, r1, r2, r3⟩ := exact_int Ieee.double (by decide) eL (by decide) (by decide) (decide (signed s N 0 < 0)) N (by rw [p53]; omega)
  have e : cf .f64 (floatOfInt .f64 (signed s N 0)) = .number (decide (signed s N 0 < 0)) c j := by
    show canon (Ieee.double.read (Ieee.double.nearest (decide (signed s N 0 < 0)) (signed s N 0).natAbs 0)) = _
    rw [hab, r1]; rfl
  rw [e]
  obtain ⟨u, k, q, g1, g2, g3, -⟩ := sub_numbers s (decide (signed s N 0 < 0)) m c p j h1 (by omega) 0 (by omega) (by
    rw [r3]
    have hp := Nat.two_pow_pos eL
    rw [Nat.zero_add]
    rw [Nat.add_mul, Nat.one_mul] at b2
    generalize hA : m * 2 ^ (p + eL).toNat = A at b1 b2
    by_cases hN0 : N = 0
    · subst hN0
      simp only [Nat.zero_mul, Nat.zero_add] at b2 ⊢
      unfold signed
      generalize 2 ^ eL = P at hp b2
      cases s <;> simp <;> omega
    · have hs : decide (signed s N 0 < 0) = s := by
        unfold signed
        cases s
        · simp
        · simp; omega
      rw [hs]
      unfold signed
      generalize N * 2 ^ eL = B at b1 b2
      generalize 2 ^ eL = P at hp b2
      cases s <;> simp <;> omega)
  exact ⟨u, k, q, g1, g2, g3⟩
end Go.Proofs.Ytbmbgailhiepbaa
