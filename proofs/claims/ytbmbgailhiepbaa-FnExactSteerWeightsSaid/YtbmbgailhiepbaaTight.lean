/- Tight bounds: the fraction lies from 0 to 1, the sine's argument from 0 to a quarter, the parts are at most 4. -/
import Derived.Test.YtbmbgailhiepbaaPhP
namespace Go.Proofs.Ytbmbgailhiepbaa
open Ieee

/-- A number from 0 to K quarters. -/
def Iv (d : Datum) (K : Nat) : Prop := ∃ s m p, d = .number s m p ∧ -1074 ≤ p ∧ (s = true → m = 0) ∧ m * 2 ^ (p + eL).toNat ≤ K * 2 ^ (eL - 2)

theorem Iv.mono {d : Datum} {K L : Nat} (h : Iv d K) (hl : K ≤ L) : Iv d L := by
  obtain ⟨s, m, p, h1, h2, h3, h4⟩ := h
  exact ⟨s, m, p, h1, h2, h3, Nat.le_trans h4 (Nat.mul_le_mul_right _ hl)⟩

/-- A difference of numbers with its sign: where the exact difference is not negative, the result is not. -/
theorem sub_signed (s t : Bool) (m n : Nat) (i j : Int) (hi : -1074 ≤ i) (hj : -1074 ≤ j) (K : Nat) (hK : K ≤ 16)
    (h0 : 0 ≤ signed s (m * 2 ^ (i + eL).toNat) 0 - signed t (n * 2 ^ (j + eL).toNat) 0)
    (h : (signed s (m * 2 ^ (i + eL).toNat) 0 - signed t (n * 2 ^ (j + eL).toNat) 0).natAbs ≤ K * 2 ^ (eL - 2)) :
    Iv (dsub (.number s m i) (.number t n j)) K := by
  have hE := eL_eq
  have hneg : signed (!t) (n * 2 ^ (j + eL).toNat) 0 = - signed t (n * 2 ^ (j + eL).toNat) 0 := by unfold signed; cases t <;> simp
  have hm := sum_mag s (!t) m n i j hi hj
  have hsc : (signed s m (i - min i j).toNat + signed (!t) n (j - min i j).toNat) * 2 ^ (min i j + eL).toNat = signed s (m * 2 ^ (i + eL).toNat) 0 - signed t (n * 2 ^ (j + eL).toNat) 0 := by
    rw [Int.add_mul, signed_scale s m i (min i j) (by omega) (by omega), signed_scale (!t) n j (min i j) (by omega) (by omega), hneg, Int.sub_eq_add_neg]
  rw [hneg, ← Int.sub_eq_add_neg] at hm
  have hsum : dsub (.number s m i) (.number t n j) = rnd (some (.number (if signed s m (i - min i j).toNat + signed (!t) n (j - min i j).toNat = 0 then s && !t else decide (signed s m (i - min i j).toNat + signed (!t) n (j - min i j).toNat < 0)) (signed s m (i - min i j).toNat + signed (!t) n (j - min i j).toNat).natAbs (min i j))) := rfl
  rw [hsum]
  generalize signed s (m * 2 ^ (i + eL).toNat) 0 - signed t (n * 2 ^ (j + eL).toNat) 0 = D at *
  generalize hX : signed s m (i - min i j).toNat + signed (!t) n (j - min i j).toNat = X at *
  have hP : (0 : Int) < 2 ^ (min i j + eL).toNat := by exact_mod_cast Nat.two_pow_pos _
  have hX0 : 0 ≤ X := by
    by_cases hh : 0 ≤ X
    · exact hh
    · have := Int.mul_neg_of_neg_of_pos (show X < 0 by omega) hP
      omega
  have ez : (min i j + eL + ((0 : Nat) : Int)).toNat = (min i j + eL).toNat := by omega
  have hK2 : K * 2 ^ (eL - 2) ≤ 2 ^ (2 + eL) := by
    refine Nat.le_trans (Nat.mul_le_mul_right _ (show K ≤ 2 ^ 4 by omega)) ?_
    rw [← Nat.pow_add]
    exact Nat.pow_le_pow_right (by omega) (by omega)
  obtain ⟨k, p, h1, h2, h3, h4, -⟩ := nearest_bp (if X = 0 then s && !t else decide (X < 0)) X.natAbs (min i j) 0 2 (by omega) (by omega) (by rw [ez, hm, Nat.pow_zero, Nat.mul_one]; exact Nat.le_trans h hK2)
  refine ⟨_, k, p, h1, h2, fun hu => ?_, h4 K (eL - 2) (by omega) (by rw [ez, hm, Nat.pow_zero, Nat.mul_one]; exact h)⟩
  by_cases hx : X = 0
  · have := h4 0 0 (by decide) (by rw [hx]; simp)
    simp only [Nat.zero_mul, Nat.le_zero] at this
    rcases Nat.mul_eq_zero.1 this with h | h
    · exact h
    · have := Nat.two_pow_pos (p + eL).toNat; omega
  · rw [if_neg hx] at hu
    have := of_decide_eq_true hu
    omega

theorem half_f64 : cf .f64 4602678819172646912 = .number false 4503599627370496 (-53) := by decide +kernel
theorem one_f64' : cf .f64 4607182418800017408 = .number false 4503599627370496 (-52) := by decide +kernel
theorem half_unit : 4503599627370496 * 2 ^ ((-53 : Int) + eL).toNat = 2 * 2 ^ (eL - 2) := by
  have hE := eL_eq
  rw [show (4503599627370496 : Nat) = 2 ^ 52 from rfl, ← Nat.pow_add, Nat.mul_comm 2, ← Nat.pow_succ, show 52 + ((-53 : Int) + eL).toNat = (eL - 2).succ by omega]
theorem one_unit : 4503599627370496 * 2 ^ ((-52 : Int) + eL).toNat = 4 * 2 ^ (eL - 2) := by
  have hE := eL_eq
  rw [show (4503599627370496 : Nat) = 2 ^ 52 from rfl, ← Nat.pow_add, show (4 : Nat) = 2 ^ 2 from rfl, ← Nat.pow_add, show 52 + ((-52 : Int) + eL).toNat = 2 + (eL - 2) by omega]

theorem sum_comm (s t : Bool) (m n : Nat) (i j : Int) : (Datum.number s m i).sum (.number t n j) = (Datum.number t n j).sum (.number s m i) := by
  simp only [Datum.sum]
  rw [Int.min_comm i j, Int.add_comm, Bool.and_comm]

/-- Order against 0, quarter, half of an interval's number. -/
theorem order_iv {s : Bool} {m : Nat} {p : Int} (hp : -1074 ≤ p) (hs : s = true → m = 0) (n : Nat) (q : Int) (hq : -1074 ≤ q) :
    (Datum.number s m p).order (.number false n q) = some (compare ((m * 2 ^ (p + eL).toNat : Nat) : Int) ((n * 2 ^ (q + eL).toNat : Nat) : Int)) := by
  rw [order_numbers _ _ _ _ _ _ hp hq]
  unfold signed
  cases s with
  | false => simp
  | true => rw [hs rfl]; simp

theorem frB_iv {t : Nat} (h : Bp (cf .f64 t) 51) : Iv (cf .f64 (frB t)) 4 := by
  obtain ⟨i1, i2, i3⟩ := iB_frac h
  obtain ⟨s, m, p, h1, h2, h3⟩ := h
  have hE := eL_eq
  have hlt : m * 2 ^ (p + eL).toNat < 2 ^ (52 + eL) := Nat.lt_of_le_of_lt h3 (Nat.pow_lt_pow_right (by omega) (by omega))
  obtain ⟨b1, b2⟩ := whole_bounds m p h2
  have hN := (frac_bp (s := s) h2 hlt).1
  have hi : iB t = signed s (whole m p) 0 := by unfold iB; rw [h1, toInt_zero]; rfl
  have hf0 : cf .f64 (fB .sub t (floatOfInt .f64 (iB t))) = dsub (cf .f64 t) (cf .f64 (floatOfInt .f64 (iB t))) := by
    rw [← mcf_sub]
    unfold mcf
    rw [i2]
  rw [h1, hi] at hf0
  rw [hi] at i3
  unfold frB
  rw [hi]
  generalize whole m p = N at *
  have hab : (signed s N 0).natAbs = N := by unfold signed; cases s <;> simp
  obtain ⟨c, j, r1, r2, r3⟩ := exact_int Ieee.double (by decide) eL (by decide) (by decide) (decide (signed s N 0 < 0)) N (by rw [p53]; omega)
  have e : cf .f64 (floatOfInt .f64 (signed s N 0)) = .number (decide (signed s N 0 < 0)) c j := by
    show canon (Ieee.double.read (Ieee.double.nearest (decide (signed s N 0 < 0)) (signed s N 0).natAbs 0)) = _
    rw [hab, r1]; rfl
  rw [e] at hf0
  have hu : 2 ^ eL = 4 * 2 ^ (eL - 2) := by rw [show (4 : Nat) = 2 ^ 2 from rfl, ← Nat.pow_add, show 2 + (eL - 2) = eL by omega]
  rw [Nat.add_mul, Nat.one_mul] at b2
  generalize fB .sub t (floatOfInt .f64 (signed s N 0)) = f0 at *
  cases s with
  | false =>
    have hs' : decide (signed false N 0 < 0) = false := by unfold signed; simp
    rw [hs'] at hf0
    have hiv : Iv (cf .f64 f0) 4 := by
      rw [hf0]
      refine sub_signed false false m c p j h2 (by omega) 4 (by omega) ?_ ?_
      · rw [r3]
        generalize m * 2 ^ (p + eL).toNat = A at b1 b2 ⊢
        generalize N * 2 ^ eL = B at b1 b2 ⊢
        unfold signed; simp; omega
      · rw [r3]
        generalize m * 2 ^ (p + eL).toNat = A at b1 b2 ⊢
        generalize N * 2 ^ eL = B at b1 b2 ⊢
        unfold signed; simp; omega
    have hno : ¬ (FloatKind.f64.format.order f0 0 == some .lt) = true := by
      obtain ⟨u, k, q, g1, g2, g3, g4⟩ := hiv
      rw [order_cf, g1, czero_f64, order_iv g2 g3 _ _ (by omega), Nat.zero_mul]
      generalize k * 2 ^ (q + eL).toNat = A
      intro hc
      have hc2 : compare (A : Int) ((0 : Nat) : Int) = .lt := by simpa using hc
      rw [Int.compare_eq_lt] at hc2
      omega
    rw [if_neg hno]
    exact hiv
  | true =>
    obtain ⟨u, k, q, g1, g2, g3⟩ := i3
    have hord : FloatKind.f64.format.order f0 0 = some (compare (signed u (k * 2 ^ (q + eL).toNat) 0) 0) := by
      rw [order_cf, g1, czero_f64, order_numbers _ _ _ _ _ _ g2 (by omega)]
      simp [signed]
    rw [Nat.zero_add, hu] at g3
    split
    · rename_i hl
      rw [hord] at hl
      have hneg : signed u (k * 2 ^ (q + eL).toNat) 0 < 0 := by
        rw [← Int.compare_eq_lt]; simpa using hl
      have hut : u = true := by
        cases u with
        | true => rfl
        | false =>
          generalize k * 2 ^ (q + eL).toNat = A at hneg
          unfold signed at hneg; simp at hneg; omega
      subst hut
      have hadd : cf .f64 (fB .add f0 4607182418800017408) = dsub (.number false 4503599627370496 (-52)) (.number false k q) := by
        have hx : Bp (cf .f64 f0) 1 := ⟨true, k, q, g1, g2, by
          refine Nat.le_trans g3 ?_
          rw [← hu]
          exact Nat.pow_le_pow_right (by omega) (by omega)⟩
        rw [(B_add hx (bp_one.mono (by omega)) (by omega)).2.2, g1, one_f64']
        unfold dadd' dsub Datum.opposite
        rw [sum_comm]
        rfl
      rw [hadd]
      refine sub_signed false false _ _ _ _ (by omega) g2 4 (by omega) ?_ ?_
      · rw [one_unit]
        generalize k * 2 ^ (q + eL).toNat = A at g3 ⊢
        generalize 4 * 2 ^ (eL - 2) = B at g3 ⊢
        unfold signed; simp; omega
      · rw [one_unit]
        generalize k * 2 ^ (q + eL).toNat = A at g3 ⊢
        generalize 4 * 2 ^ (eL - 2) = B at g3 ⊢
        unfold signed; simp; omega
    · rename_i hl
      rw [hord] at hl
      have hnn : ¬ signed u (k * 2 ^ (q + eL).toNat) 0 < 0 := by
        intro hh
        rw [← Int.compare_eq_lt] at hh
        rw [hh] at hl
        simp at hl
      refine ⟨u, k, q, g1, g2, fun hut => ?_, g3⟩
      subst hut
      have hk0 : k * 2 ^ (q + eL).toNat = 0 := by
        generalize k * 2 ^ (q + eL).toNat = A at hnn ⊢
        unfold signed at hnn
        simp at hnn
        omega
      rcases Nat.mul_eq_zero.1 hk0 with hk | hk
      · exact hk
      · have := Nat.two_pow_pos (q + eL).toNat
        omega
end Go.Proofs.Ytbmbgailhiepbaa
