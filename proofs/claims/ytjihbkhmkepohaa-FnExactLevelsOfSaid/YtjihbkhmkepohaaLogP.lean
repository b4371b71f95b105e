/- The logarithm of a positive number, on bits. -/
import Derived.Test.YtjihbkhmkepohaaSinP
namespace Go.Proofs.Ytjihbkhmkepohaa
open Ieee

/-- A positive number from 2 ^ a to 2 ^ b, in units of the least one. -/
def Pw (d : Datum) (a b : Nat) : Prop := ∃ m p, d = .number false m p ∧ -1074 ≤ p ∧ 2 ^ a ≤ m * 2 ^ (p + eL).toNat ∧ m * 2 ^ (p + eL).toNat ≤ 2 ^ b

theorem two_cf : cf .f64 4611686018427387904 = .number false 4503599627370496 (-51) := by decide +kernel
theorem one_cf : cf .f64 4607182418800017408 = .number false 4503599627370496 (-52) := by decide +kernel
theorem c15_cf : cf .f64 4609434218613702656 = .number false 6755399441055744 (-52) := by decide +kernel
theorem c75_cf : cf .f64 4604930618986332160 = .number false 6755399441055744 (-53) := by decide +kernel
theorem one_units : 4503599627370496 * 2 ^ ((-52 : Int) + eL).toNat = 2 ^ eL := by
  have hE := eL_eq
  rw [show (4503599627370496 : Nat) = 2 ^ 52 from rfl, ← Nat.pow_add, show 52 + ((-52 : Int) + eL).toNat = eL by omega]
theorem c15_units : 6755399441055744 * 2 ^ ((-52 : Int) + eL).toNat = 3 * 2 ^ (eL - 1) := by
  have hE := eL_eq
  rw [show (6755399441055744 : Nat) = 3 * 2 ^ 51 from rfl, Nat.mul_assoc, ← Nat.pow_add, show 51 + ((-52 : Int) + eL).toNat = eL - 1 by omega]
theorem c75_units : 6755399441055744 * 2 ^ ((-53 : Int) + eL).toNat = 3 * 2 ^ (eL - 2) := by
  have hE := eL_eq
  rw [show (6755399441055744 : Nat) = 3 * 2 ^ 51 from rfl, Nat.mul_assoc, ← Nat.pow_add, show 51 + ((-53 : Int) + eL).toNat = eL - 2 by omega]

theorem cf_double {x : Nat} {s : Bool} {m : Nat} {p : Int} (h : cf .f64 x = .number s m p) : m < 2 ^ 53 ∧ -1074 ≤ p := by
  have hd : Ieee.double.read x = .number s m p := canon_number h
  exact ⟨(read_double hd).1, (read_double hd).2.1⟩

/-- Halved. -/
theorem half_pw {x a b : Nat} (h : Pw (cf .f64 x) (a + 1) (b + 1)) (hb : b ≤ 1500) : floatBits .quo .f64 x 4611686018427387904 = some (fB .quo x 4611686018427387904) ∧ Pw (cf .f64 (fB .quo x 4611686018427387904)) a b := by
  obtain ⟨m, p, h1, h2, h3, h4⟩ := h
  have hE := eL_eq
  have hm53 := (cf_double h1).1
  have hq : ddiv (cf .f64 x) (cf .f64 4611686018427387904) = rnd (some (.number (false ^^ false) (2 * (m <<< (54 + Nat.log2 4503599627370496 - m.log2) / 4503599627370496) + (m <<< (54 + Nat.log2 4503599627370496 - m.log2) % 4503599627370496 != 0).toNat) (p - -51 - (54 + Nat.log2 4503599627370496 - m.log2 : Nat) - 1))) := by
    rw [h1, two_cf]; rfl
  have hl : Nat.log2 4503599627370496 = 52 := by decide
  have hlm : m.log2 ≤ 52 := by
    by_cases h0 : m = 0
    · subst h0; decide
    · have := (Nat.log2_lt h0).2 hm53; omega
  rw [hl] at hq
  generalize hM : 54 + 52 - m.log2 = more at hq
  have hdv : m <<< more = m * 2 ^ (more - 52) * 4503599627370496 := by
    rw [Nat.shiftLeft_eq, show (4503599627370496 : Nat) = 2 ^ 52 from rfl, Nat.mul_assoc, ← Nat.pow_add, show more - 52 + 52 = more by omega]
  rw [hdv, Nat.mul_div_cancel _ (by decide), Nat.mul_mod_left] at hq
  have hz : ((0 : Nat) != 0).toNat = 0 := rfl
  rw [hz, Nat.add_zero] at hq
  have key : 2 * (m * 2 ^ (more - 52)) * 2 ^ (p - -51 - more - 1 + eL + ((more + 60 : Nat) : Int)).toNat = m * 2 ^ (p + eL).toNat * 2 ^ (more + 59) := by
    rw [Nat.mul_comm 2, Nat.mul_assoc m, ← Nat.pow_succ, Nat.mul_assoc m, ← Nat.pow_add, Nat.mul_assoc m, ← Nat.pow_add]
    congr 2
    omega
  have hT : 2 ^ (more + 60) = 2 * 2 ^ (more + 59) := by rw [show more + 60 = (more + 59) + 1 by omega, Nat.pow_succ, Nat.mul_comm]
  rw [Nat.pow_succ] at h3 h4
  have hup : m * 2 ^ (p + eL).toNat * 2 ^ (more + 59) ≤ 2 ^ b * 2 ^ (more + 60) := by
    rw [hT, ← Nat.mul_assoc]
    exact Nat.mul_le_mul_right _ h4
  have hlo : 2 ^ a * 2 ^ (more + 60) ≤ m * 2 ^ (p + eL).toNat * 2 ^ (more + 59) := by
    rw [hT, ← Nat.mul_assoc]
    exact Nat.mul_le_mul_right _ h3
  obtain ⟨m', p', k1, k2, k3, k4, k5⟩ := nearest_bp (false ^^ false) (2 * (m * 2 ^ (more - 52))) (p - -51 - more - 1) (more + 60) 500 (by omega) (by omega) (by
    rw [key]
    refine Nat.le_trans hup (Nat.mul_le_mul_right _ (Nat.pow_le_pow_right (by omega) (by omega))))
  rw [key] at k4 k5
  have hbp : Bp (ddiv (cf .f64 x) (cf .f64 4611686018427387904)) 500 := by rw [hq]; exact ⟨_, m', p', k1, k2, k3⟩
  have hf : floatBits .quo .f64 x 4611686018427387904 = ((cf .f64 x).quotient 54 (cf .f64 4611686018427387904)).map FloatKind.f64.format.write := by unfold cf; rw [quo_canon]; rfl
  obtain ⟨g1, g2⟩ := fB_of hf hbp
  refine ⟨g1, ?_⟩
  have g3 : cf .f64 (fB .quo x 4611686018427387904) = .number (false ^^ false) m' p' := by
    rw [g2]
    show ddiv (cf .f64 x) (cf .f64 4611686018427387904) = _
    rw [hq, k1]
  rw [g3]
  refine ⟨m', p', rfl, k2, ?_, ?_⟩
  · have := k5 1 a (by decide) (by rw [Nat.one_mul]; exact hlo)
    rwa [Nat.one_mul] at this
  · have := k4 1 b (by decide) (by rw [Nat.one_mul]; exact hup)
    rwa [Nat.one_mul] at this

/-- Doubled. -/
theorem double_pw {x a b : Nat} (h : Pw (cf .f64 x) a b) (hb : b ≤ 1500) : floatBits .mul .f64 x 4611686018427387904 = some (fB .mul x 4611686018427387904) ∧ Pw (cf .f64 (fB .mul x 4611686018427387904)) (a + 1) (b + 1) := by
  obtain ⟨m, p, h1, h2, h3, h4⟩ := h
  have hE := eL_eq
  have hq : dmul (cf .f64 x) (cf .f64 4611686018427387904) = rnd (some (.number (false ^^ false) (m * 4503599627370496) (p + -51))) := by
    rw [h1, two_cf]; rfl
  have key : m * 4503599627370496 * 2 ^ (p + -51 + eL + ((51 : Nat) : Int)).toNat = m * 2 ^ (p + eL).toNat * 2 ^ 52 := by
    rw [show (4503599627370496 : Nat) = 2 ^ 52 from rfl, Nat.mul_assoc, Nat.mul_assoc, Nat.mul_comm (2 ^ 52)]
    congr 3
    omega
  have hT : (2 : Nat) ^ 52 = 2 * 2 ^ 51 := by decide
  have hup : m * 2 ^ (p + eL).toNat * 2 ^ 52 ≤ 2 ^ (b + 1) * 2 ^ 51 := by
    rw [hT, ← Nat.mul_assoc, Nat.pow_succ]
    exact Nat.mul_le_mul_right _ (Nat.mul_le_mul_right _ h4)
  have hlo : 2 ^ (a + 1) * 2 ^ 51 ≤ m * 2 ^ (p + eL).toNat * 2 ^ 52 := by
    rw [hT, ← Nat.mul_assoc, Nat.pow_succ]
    exact Nat.mul_le_mul_right _ (Nat.mul_le_mul_right _ h3)
  obtain ⟨m', p', k1, k2, k3, k4, k5⟩ := nearest_bp (false ^^ false) (m * 4503599627370496) (p + -51) 51 500 (by omega) (by omega) (by
    rw [key]
    refine Nat.le_trans hup (Nat.mul_le_mul_right _ (Nat.pow_le_pow_right (by omega) (by omega))))
  rw [key] at k4 k5
  have hbp : Bp (dmul (cf .f64 x) (cf .f64 4611686018427387904)) 500 := by rw [hq]; exact ⟨_, m', p', k1, k2, k3⟩
  have hf : floatBits .mul .f64 x 4611686018427387904 = ((cf .f64 x).product (cf .f64 4611686018427387904)).map FloatKind.f64.format.write := by unfold cf; rw [mul_canon]; rfl
  obtain ⟨g1, g2⟩ := fB_of hf hbp
  refine ⟨g1, ?_⟩
  have g3 : cf .f64 (fB .mul x 4611686018427387904) = .number (false ^^ false) m' p' := by
    rw [g2]
    show dmul (cf .f64 x) (cf .f64 4611686018427387904) = _
    rw [hq, k1]
  rw [g3]
  refine ⟨m', p', rfl, k2, ?_, ?_⟩
  · have := k5 1 (a + 1) (by decide) (by rw [Nat.one_mul]; exact hlo)
    rwa [Nat.one_mul] at this
  · have := k4 1 (b + 1) (by decide) (by rw [Nat.one_mul]; exact hup)
    rwa [Nat.one_mul] at this

def ge15 (x : Nat) : Bool := FloatKind.f64.format.order x 4609434218613702656 == some .gt || FloatKind.f64.format.order x 4609434218613702656 == some .eq
def lt75 (x : Nat) : Bool := FloatKind.f64.format.order x 4604930618986332160 == some .lt

theorem order_pos (m n : Nat) (p q : Int) (hp : -1074 ≤ p) (hq : -1074 ≤ q) :
    (Datum.number false m p).order (.number false n q) = some (compare ((m * 2 ^ (p + eL).toNat : Nat) : Int) ((n * 2 ^ (q + eL).toNat : Nat) : Int)) := by
  rw [order_numbers _ _ _ _ _ _ hp hq]
  simp [signed]

theorem cmp_gt {a b : Nat} (h : b < a) : compare (a : Int) (b : Int) = .gt := by rw [Int.compare_eq_gt]; omega
theorem cmp_lt {a b : Nat} (h : a < b) : compare (a : Int) (b : Int) = .lt := by rw [Int.compare_eq_lt]; omega
theorem cmp_eq {a b : Nat} (h : a = b) : compare (a : Int) (b : Int) = .eq := by rw [Int.compare_eq_eq]; omega

theorem ge15_iff {x m : Nat} {p : Int} (h : cf .f64 x = .number false m p) (hp : -1074 ≤ p) : ge15 x = true ↔ 3 * 2 ^ (eL - 1) ≤ m * 2 ^ (p + eL).toNat := by
  unfold ge15
  rw [order_cf, h, c15_cf, order_pos _ _ _ _ hp (by omega), c15_units]
  generalize 3 * 2 ^ (eL - 1) = Q
  generalize m * 2 ^ (p + eL).toNat = A
  rcases Nat.lt_trichotomy A Q with h | h | h
  · rw [cmp_lt h]; simp; omega
  · rw [cmp_eq h]; simp; omega
  · rw [cmp_gt h]; simp; omega
theorem lt75_iff {x m : Nat} {p : Int} (h : cf .f64 x = .number false m p) (hp : -1074 ≤ p) : lt75 x = true ↔ m * 2 ^ (p + eL).toNat < 3 * 2 ^ (eL - 2) := by
  unfold lt75
  rw [order_cf, h, c75_cf, order_pos _ _ _ _ hp (by omega), c75_units]
  generalize 3 * 2 ^ (eL - 2) = Q
  generalize m * 2 ^ (p + eL).toNat = A
  rcases Nat.lt_trichotomy A Q with h | h | h
  · rw [cmp_lt h]; simp; omega
  · rw [cmp_eq h]; simp; omega
  · rw [cmp_gt h]; simp; omega

theorem pw_lt_of {a b : Nat} (h : 2 ^ a < 2 ^ b) : a < b := (Nat.pow_lt_pow_iff_right (by omega)).1 h
theorem u1 : 2 ^ eL = 2 * 2 ^ (eL - 1) := by
  have hE := eL_eq
  rw [Nat.mul_comm, ← Nat.pow_succ, show (eL - 1).succ = eL by omega]
theorem u2 : 2 ^ eL = 4 * 2 ^ (eL - 2) := by
  have hE := eL_eq
  rw [show (4 : Nat) = 2 ^ 2 from rfl, ← Nat.pow_add, show 2 + (eL - 2) = eL by omega]

/-- A round of the first loop. -/
theorem dn_round {x a b : Nat} (h : Pw (cf .f64 x) (a + 1) b) (hb : b ≤ 1500) (hg : ge15 x = true) : eL < b ∧ floatBits .quo .f64 x 4611686018427387904 = some (fB .quo x 4611686018427387904) ∧ Pw (cf .f64 (fB .quo x 4611686018427387904)) a (b - 1) := by
  have hlt : eL < b := by
    obtain ⟨m, p, h1, h2, h3, h4⟩ := h
    have h5 := (ge15_iff h1 h2).1 hg
    refine pw_lt_of (Nat.lt_of_lt_of_le ?_ (Nat.le_trans h5 h4))
    have := u1
    have := Nat.two_pow_pos (eL - 1)
    omega
  have hE := eL_eq
  exact ⟨hlt, half_pw (b := b - 1) (by rw [show b - 1 + 1 = b by omega]; exact h) (by omega)⟩
theorem dn_end {x a b : Nat} (h : Pw (cf .f64 x) a b) (hg : ge15 x = false) : Pw (cf .f64 x) a (eL + 1) := by
  obtain ⟨m, p, h1, h2, h3, h4⟩ := h
  refine ⟨m, p, h1, h2, h3, ?_⟩
  have h5 : ¬ 3 * 2 ^ (eL - 1) ≤ m * 2 ^ (p + eL).toNat := fun hh => by rw [(ge15_iff h1 h2).2 hh] at hg; cases hg
  have := u1
  rw [Nat.pow_succ]
  omega
/-- A round of the second loop. -/
theorem up_round {x a : Nat} (h : Pw (cf .f64 x) a (eL + 1)) (hg : lt75 x = true) : a < eL ∧ floatBits .mul .f64 x 4611686018427387904 = some (fB .mul x 4611686018427387904) ∧ Pw (cf .f64 (fB .mul x 4611686018427387904)) (a + 1) (eL + 1) := by
  obtain ⟨m, p, h1, h2, h3, h4⟩ := h
  have h5 := (lt75_iff h1 h2).1 hg
  have hu := u2
  have hE := eL_eq
  have hlt : m * 2 ^ (p + eL).toNat < 2 ^ eL := by omega
  refine ⟨pw_lt_of (Nat.lt_of_le_of_lt h3 hlt), double_pw (b := eL) ⟨m, p, h1, h2, h3, Nat.le_of_lt hlt⟩ (by omega)⟩

def dnF : Nat → Nat → Nat
  | 0, x => x
  | k + 1, x => if ge15 x then dnF k (fB .quo x 4611686018427387904) else x
def dnN : Nat → Nat → Nat
  | 0, _ => 0
  | k + 1, x => if ge15 x then 1 + dnN k (fB .quo x 4611686018427387904) else 0
def upF : Nat → Nat → Nat
  | 0, x => x
  | k + 1, x => if lt75 x then upF k (fB .mul x 4611686018427387904) else x
def upN : Nat → Nat → Nat
  | 0, _ => 0
  | k + 1, x => if lt75 x then 1 + upN k (fB .mul x 4611686018427387904) else 0

/-- What is left behind both loops, and the exponent. -/
def lnX (x : Nat) : Nat := upF 400 (dnF 200 x)
def lnE (x : Nat) : Int := (dnN 200 x : Int) - (upN 400 (dnF 200 x) : Int)

theorem dn_all {k x a b : Nat} (h : Pw (cf .f64 x) (a + k) b) (hb : b ≤ eL + k) (hk : k ≤ 200) : Pw (cf .f64 (dnF k x)) a (eL + 1) ∧ dnN k x ≤ k := by
  have hE := eL_eq
  induction k generalizing x b with
  | zero =>
    obtain ⟨m, p, h1, h2, h3, h4⟩ := h
    exact ⟨⟨m, p, h1, h2, h3, Nat.le_trans h4 (Nat.pow_le_pow_right (by omega) (by omega))⟩, by simp [dnN]⟩
  | succ k ih =>
    unfold dnF dnN
    cases hg : ge15 x with
    | true =>
      obtain ⟨r1, r2, r3⟩ := dn_round (a := a + k) (by rw [show a + k + 1 = a + (k + 1) by omega]; exact h) (by omega) hg
      have := ih r3 (by omega) (by omega)
      simp only [if_true]
      exact ⟨this.1, by omega⟩
    | false =>
      obtain ⟨m, p, h1, h2, h3, h4⟩ := dn_end h hg
      simp only [Bool.false_eq_true, if_false]
      exact ⟨⟨m, p, h1, h2, Nat.le_trans (Nat.pow_le_pow_right (by omega) (by omega)) h3, h4⟩, by omega⟩
theorem up_all {k x a : Nat} (h : Pw (cf .f64 x) a (eL + 1)) : Pw (cf .f64 (upF k x)) a (eL + 1) ∧ upN k x ≤ k := by
  induction k generalizing x with
  | zero => exact ⟨h, by simp [upN]⟩
  | succ k ih =>
    unfold upF upN
    cases hg : lt75 x with
    | true =>
      obtain ⟨r1, r2, m, p, h1, h2, h3, h4⟩ := up_round h hg
      have := @ih (fB .mul x 4611686018427387904) ⟨m, p, h1, h2, Nat.le_trans (Nat.pow_le_pow_right (by omega) (by omega)) h3, h4⟩
      simp only [if_true]
      exact ⟨this.1, by omega⟩
    | false =>
      simp only [Bool.false_eq_true, if_false]
      exact ⟨h, by omega⟩
end Go.Proofs.Ytjihbkhmkepohaa
