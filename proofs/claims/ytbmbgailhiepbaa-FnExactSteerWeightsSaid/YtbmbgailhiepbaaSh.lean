/- Rounding depends on the value alone; whole numbers are exact. -/
import Derived.Test.YtbmbgailhiepbaaFlc
namespace Go.Proofs.Ytbmbgailhiepbaa
open Ieee

theorem log2_double {m : Nat} (hm : m ≠ 0) : (2 * m).log2 = m.log2 + 1 := by
  rw [Nat.log2_eq_iff (by omega)]
  have h1 : 2 ^ m.log2 ≤ m := Nat.log2_self_le hm
  have h2 : m < 2 ^ (m.log2 + 1) := Nat.lt_log2_self
  rw [Nat.pow_succ] at h2 ⊢
  constructor
  · omega
  · rw [Nat.pow_succ, Nat.pow_succ]; omega

theorem cut_shift (neg : Bool) {m : Nat} (hm : m ≠ 0) (drop : Nat) : Toward.even.cut neg (2 * m) (drop + 1) = Toward.even.cut neg m drop := by
  unfold Toward.cut
  rw [log2_double hm]
  have hg : (1 : Nat) <<< min (drop + 1) (m.log2 + 1 + 2) = 2 * 1 <<< min drop (m.log2 + 2) := by
    rw [show min (drop + 1) (m.log2 + 1 + 2) = min drop (m.log2 + 2) + 1 by omega, Nat.shiftLeft_eq, Nat.shiftLeft_eq, Nat.pow_succ]
    omega
  rw [hg]
  have hp : 0 < (1 : Nat) <<< min drop (m.log2 + 2) := by rw [Nat.shiftLeft_eq]; have := Nat.two_pow_pos (min drop (m.log2 + 2)); omega
  generalize (1 : Nat) <<< min drop (m.log2 + 2) = g at hp
  have e1 : 2 * m / (2 * g) = m / g := Nat.mul_div_mul_left _ _ (by omega)
  have e2 : 2 * m % (2 * g) = 2 * (m % g) := Nat.mul_mod_mul_left _ _ _
  simp only [e1, e2]
  have e3 : decide (2 * g < 2 * (2 * (m % g))) = decide (g < 2 * (m % g)) := by
    congr 1; apply propext; omega
  have e4 : (2 * g == 2 * (2 * (m % g))) = (g == 2 * (m % g)) := by
    rw [Bool.eq_iff_iff]; simp only [beq_iff_eq]; omega
  rw [e3, e4]

theorem nearest_double (f : Format) (neg : Bool) (m : Nat) (p : Int) : f.nearest neg (2 * m) (p - 1) = f.nearest neg m p := by
  by_cases hm : m = 0
  · subst hm; simp [Format.nearest]
  · unfold Format.nearest
    rw [if_neg (by omega), if_neg hm, log2_double hm]
    have hl : max (p - 1 + ((m.log2 + 1 : Nat) : Int) - f.fractionBits) f.leastPlace = max (p + (m.log2 : Int) - f.fractionBits) f.leastPlace := by omega
    rw [hl]
    simp only
    generalize max (p + (m.log2 : Int) - f.fractionBits) f.leastPlace = last
    have hc : Toward.even.cut neg ((2 * m) <<< (p - 1 - last).toNat) (last - (p - 1)).toNat = Toward.even.cut neg (m <<< (p - last).toNat) (last - p).toNat := by
      by_cases h : last + 1 ≤ p
      · rw [show (last - (p - 1)).toNat = 0 by omega, show (last - p).toNat = 0 by omega]
        congr 1
        rw [Nat.shiftLeft_eq, Nat.shiftLeft_eq, show (p - last).toNat = (p - 1 - last).toNat + 1 by omega, Nat.pow_succ]
        rw [Nat.mul_comm 2 m, Nat.mul_assoc, Nat.mul_comm 2]
      · rw [show (p - 1 - last).toNat = 0 by omega, show (p - last).toNat = 0 by omega, show (last - (p - 1)).toNat = (last - p).toNat + 1 by omega]
        simp only [Nat.shiftLeft_zero]
        exact cut_shift neg hm _
    rw [hc]

theorem nearest_shift (f : Format) (neg : Bool) (m k : Nat) (p : Int) : f.nearest neg (m * 2 ^ k) (p - k) = f.nearest neg m p := by
  induction k generalizing m p with
  | zero => simp
  | succ k ih =>
    rw [show m * 2 ^ (k + 1) = 2 * (m * 2 ^ k) by rw [Nat.pow_succ, Nat.mul_comm 2, Nat.mul_assoc], show p - ((k + 1 : Nat) : Int) = p - k - 1 by omega, nearest_double, ih]

/-- Two ways to write one value. -/
theorem nearest_value (f : Format) (neg : Bool) (m n : Nat) (p q S : Int) (hp : 0 ≤ p + S) (hq : 0 ≤ q + S) (h : m * 2 ^ (p + S).toNat = n * 2 ^ (q + S).toNat) : f.nearest neg m p = f.nearest neg n q := by
  rw [← nearest_shift f neg m (p + S).toNat p, ← nearest_shift f neg n (q + S).toNat q, h]
  congr 1
  omega

/-- A whole number that the format holds, read. -/
theorem exact_int (f : Format) (he : 4 ≤ 2 ^ f.exponentBits) (L : Nat) (hL : f.leastPlace = -(L : Int)) (hLt : f.fractionBits + 1 + L ≤ f.fractionBits + 2 ^ f.exponentBits - 2) (neg : Bool) (n : Nat) (hn : n < 2 ^ (f.fractionBits + 1)) :
    ∃ m p, f.read (f.nearest neg n 0) = .number neg m p ∧ -(L : Int) ≤ p ∧ m * 2 ^ (p + L).toNat = n * 2 ^ L := by
  have hfin : n * 2 ^ L < 2 ^ (f.fractionBits + 2 ^ f.exponentBits - 2) := by
    refine Nat.lt_of_lt_of_le (Nat.mul_lt_mul_of_pos_right hn (Nat.two_pow_pos _)) ?_
    rw [← Nat.pow_add]
    exact Nat.pow_le_pow_right (by omega) hLt
  obtain ⟨m, p, h1, h2, h3, h4⟩ := nearest_read f he neg n 0 L (by omega) (by omega) n L hn (by rw [hL, show (-(L : Int) + L).toNat = 0 by omega]; simp) hfin
  refine ⟨m, p, h1, by omega, ?_⟩
  have a := h3 n L hn (by rw [hL, show (-(L : Int) + L).toNat = 0 by omega]; simp)
  have b := h4 n L hn (by rw [hL, show (-(L : Int) + L).toNat = 0 by omega]; simp)
  rw [hL] at a b
  have e : (p - -(L : Int)).toNat = (p + L).toNat := by omega
  rw [e] at a b
  omega

theorem sub_exact (f : Format) (he : 4 ≤ 2 ^ f.exponentBits) (L : Nat) (hL : f.leastPlace = -(L : Int)) (hLt : f.fractionBits + 1 + L ≤ f.fractionBits + 2 ^ f.exponentBits - 2) (a b : Nat) (ha : a < 2 ^ (f.fractionBits + 1)) (hb : b < 2 ^ (f.fractionBits + 1)) :
    f.sub (f.nearest false a 0) (f.nearest false b 0) = some (f.nearest (decide ((a : Int) - b < 0)) ((a : Int) - b).natAbs 0) := by
  obtain ⟨m, i, h1, h2, h3⟩ := exact_int f he L hL hLt false a ha
  obtain ⟨n, j, h4, h5, h6⟩ := exact_int f he L hL hLt false b hb
  unfold Format.sub
  rw [h1, h4]
  simp only [Datum.opposite, Datum.sum, Option.map_some, Format.write, signed, Bool.not_false, Bool.false_and, if_true]
  congr 1
  have hs1 : ((m <<< (i - min i j).toNat : Nat) : Int) * 2 ^ (min i j + L).toNat = (a : Int) * 2 ^ L := by
    rw [Nat.shiftLeft_eq]
    have : m * 2 ^ (i - min i j).toNat * 2 ^ (min i j + L).toNat = a * 2 ^ L := by
      rw [Nat.mul_assoc, ← Nat.pow_add, ← h3]; congr 2; omega
    exact_mod_cast this
  have hs2 : ((n <<< (j - min i j).toNat : Nat) : Int) * 2 ^ (min i j + L).toNat = (b : Int) * 2 ^ L := by
    rw [Nat.shiftLeft_eq]
    have : n * 2 ^ (j - min i j).toNat * 2 ^ (min i j + L).toNat = b * 2 ^ L := by
      rw [Nat.mul_assoc, ← Nat.pow_add, ← h6]; congr 2; omega
    exact_mod_cast this
  generalize hx : ((m <<< (i - min i j).toNat : Nat) : Int) = x at hs1
  generalize hy : ((n <<< (j - min i j).toNat : Nat) : Int) = y at hs2
  have hd : (x + -y) * 2 ^ (min i j + L).toNat = ((a : Int) - b) * 2 ^ L := by
    rw [Int.add_mul, Int.neg_mul, hs1, hs2, Int.sub_mul]; omega
  have hP : (0 : Int) < 2 ^ (min i j + L).toNat := by exact_mod_cast Nat.two_pow_pos _
  have hQ : (0 : Int) < 2 ^ L := by exact_mod_cast Nat.two_pow_pos _
  simp only [Bool.false_eq_true, if_false]
  have hab : (x + -y).natAbs * 2 ^ (min i j + L).toNat = ((a : Int) - b).natAbs * 2 ^ L := by
    have := congrArg Int.natAbs hd
    rw [Int.natAbs_mul, Int.natAbs_mul] at this
    rw [Int.natAbs_pow, Int.natAbs_pow] at this
    exact this
  have hv := nearest_value f (decide ((a : Int) - b < 0)) (x + -y).natAbs ((a : Int) - b).natAbs (min i j) 0 L (by omega) (by omega) (by simpa using hab)
  rw [← hv]
  congr 1
  by_cases h0 : x + -y = 0
  · rw [if_pos h0]
    rw [h0] at hd
    have : (a : Int) - b = 0 := by
      rcases Int.mul_eq_zero.1 (show ((a : Int) - b) * 2 ^ L = 0 by rw [← hd]; simp) with h | h
      · exact h
      · omega
    rw [this]; rfl
  · rw [if_neg h0]
    congr 1
    apply propext
    constructor
    · intro hneg
      have := Int.mul_neg_of_neg_of_pos hneg hP
      rw [hd] at this
      by_cases hh : (a : Int) - b < 0
      · exact hh
      · have := Int.mul_nonneg (show 0 ≤ (a : Int) - b by omega) (Int.le_of_lt hQ)
        omega
    · intro hneg
      have := Int.mul_neg_of_neg_of_pos hneg hQ
      rw [← hd] at this
      by_cases hh : x + -y < 0
      · exact hh
      · have := Int.mul_nonneg (show 0 ≤ x + -y by omega) (Int.le_of_lt hP)
        omega
end Go.Proofs.Ytbmbgailhiepbaa
