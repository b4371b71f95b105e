/- A number's fraction, comparisons, and the quarter turns. -/
import Derived.Test.YtbmbgailhiepbaaDat
namespace Go.Proofs.Ytbmbgailhiepbaa
open Ieee

theorem quarter_f64 : cf .f64 4598175219545276416 = .number false 4503599627370496 (-54) := by decide +kernel
theorem big_f64 : cf .f64 4841369599423283200 = .number false 4503599627370496 0 := by decide +kernel
theorem nbig_f64 : cf .f64 14064741636278059008 = .number true 4503599627370496 0 := by decide +kernel
theorem czero_f64 : cf .f64 0 = .number false 0 (-1074) := by decide +kernel

/-- Two numbers, compared at a common place. -/
theorem order_numbers (s t : Bool) (m n : Nat) (p q : Int) (hp : -1074 ≤ p) (hq : -1074 ≤ q) :
    (Datum.number s m p).order (.number t n q) = some (compare (signed s (m * 2 ^ (p + eL).toNat) 0) (signed t (n * 2 ^ (q + eL).toNat) 0)) := by
  have hE := eL_eq
  simp only [Datum.order]
  congr 1
  have key : ∀ (u : Bool) (k : Nat) (r : Int), -1074 ≤ r → (min p q) ≤ r → signed u (k * 2 ^ (r + eL).toNat) 0 = signed u k (r - min p q).toNat * 2 ^ (min p q + eL).toNat := by
    intro u k r hr hmin
    have e1 : k * 2 ^ (r + eL).toNat = k * 2 ^ (r - min p q).toNat * 2 ^ (min p q + eL).toNat := by
      rw [Nat.mul_assoc, ← Nat.pow_add, show (r - min p q).toNat + (min p q + eL).toNat = (r + eL).toNat by omega]
    unfold signed
    rw [Nat.shiftLeft_eq, Nat.shiftLeft_eq, e1]
    cases u
    · simp
    · simp [Int.neg_mul]
  rw [key s m p hp (by omega), key t n q hq (by omega)]
  have hP : (0 : Int) < 2 ^ (min p q + eL).toNat := by exact_mod_cast Nat.two_pow_pos _
  generalize signed s m (p - min p q).toNat = a
  generalize signed t n (q - min p q).toNat = b
  generalize (2 : Int) ^ (min p q + eL).toNat = P at hP
  rcases Int.lt_trichotomy a b with h | h | h
  · rw [Int.compare_eq_lt.2 h, Int.compare_eq_lt.2 (Int.mul_lt_mul_of_pos_right h hP)]
  · rw [h]
    rw [Int.compare_eq_eq.2 rfl, Int.compare_eq_eq.2 rfl]
  · rw [Int.compare_eq_gt.2 h, Int.compare_eq_gt.2 (Int.mul_lt_mul_of_pos_right h hP)]

theorem big_lt {d : Datum} (h : Bp d 51) : d.order (cf .f64 4841369599423283200) = some .lt ∧ d.order (cf .f64 14064741636278059008) = some .gt := by
  obtain ⟨s, m, p, rfl, h1, h2⟩ := h
  have hE := eL_eq
  rw [big_f64, nbig_f64, order_numbers _ _ _ _ _ _ h1 (by omega), order_numbers _ _ _ _ _ _ h1 (by omega)]
  have hlt : m * 2 ^ (p + eL).toNat < 4503599627370496 * 2 ^ ((0 : Int) + eL).toNat := by
    refine Nat.lt_of_le_of_lt h2 ?_
    rw [show (4503599627370496 : Nat) = 2 ^ 52 from rfl, ← Nat.pow_add]
    exact Nat.pow_lt_pow_right (by omega) (by omega)
  generalize m * 2 ^ (p + eL).toNat = a at hlt
  generalize 4503599627370496 * 2 ^ ((0 : Int) + eL).toNat = b at hlt
  unfold signed
  simp only [Nat.shiftLeft_zero]
  constructor
  · congr 1
    rw [Int.compare_eq_lt]
    cases s <;> simp <;> omega
  · congr 1
    rw [Int.compare_eq_gt]
    cases s <;> simp <;> omega

/-- A number less itself. -/
theorem sub_self_zero {d : Datum} {e : Nat} (h : Bp d e) : (dsub d d).order (cf .f64 0) = some .eq := by
  obtain ⟨s, m, p, rfl, h1, h2⟩ := h
  have e0 : dsub (.number s m p) (.number s m p) = rnd (some (.number (s && !s) 0 p)) := by
    unfold dsub Datum.sum Datum.opposite
    simp only [Int.min_self, Int.sub_self, Int.toNat_zero]
    have : signed s m 0 + signed (!s) m 0 = 0 := by unfold signed; cases s <;> simp <;> omega
    rw [this]
    simp
  have hE := eL_eq
  obtain ⟨m', p', h3, h4, h5, -⟩ := nearest_bp (s && !s) 0 p 0 0 (by omega) (by omega) (by simp)
  have hz : m' = 0 := by
    obtain ⟨m2, p2, g1, g2, g3, g4, g5⟩ := nearest_bp (s && !s) 0 p 0 0 (by omega) (by omega) (by simp)
    have := g4 0 0 (by decide) (by simp)
    rw [h3] at g1
    simp only [Datum.number.injEq] at g1
    obtain ⟨_, rfl, rfl⟩ := g1
    have hp2 := Nat.two_pow_pos (p' + eL).toNat
    simp only [Nat.zero_mul, Nat.le_zero] at this
    rcases Nat.mul_eq_zero.1 this with h | h
    · exact h
    · omega
  rw [e0, h3, czero_f64, order_numbers _ _ _ _ _ _ h4 (by omega), hz]
  simp [signed]
end Go.Proofs.Ytbmbgailhiepbaa
