/- Sums and quotients in 64 bits, up to not-a-numbers, and their bounds; the mean's narrowing never overflows. -/
import Derived.Test.YtbmbgailhiepbaaNan
import Derived.Test.YtbmbgailhiepbaaSh
namespace Go.Proofs.Ytbmbgailhiepbaa
open Ieee

def eL : Nat := 1074
theorem eL_eq : eL = 1074 := rfl
def eJ : Nat := 1178
theorem eJ_eq : eJ = 1178 := rfl

def dadd (a b : Datum) : Datum := match a.sum b with | some d => canon (FloatKind.f64.decode (FloatKind.f64.encode d)) | none => nanD
def dquo (a b : Datum) : Datum := match a.quotient 54 b with | some d => canon (FloatKind.f64.decode (FloatKind.f64.encode d)) | none => nanD

theorem sum_nan_left {a b : Datum} (h : a.isNaN = true) : a.sum b = none := by cases a <;> simp_all [Datum.isNaN, Datum.sum]
theorem sum_nan_right {a b : Datum} (h : b.isNaN = true) : a.sum b = none := by cases b <;> simp_all [Datum.isNaN]; cases a <;> rfl
theorem quo_nan_left {a b : Datum} (n : Nat) (h : a.isNaN = true) : a.quotient n b = none := by cases a <;> simp_all [Datum.isNaN, Datum.quotient]
theorem quo_nan_right {a b : Datum} (n : Nat) (h : b.isNaN = true) : a.quotient n b = none := by cases b <;> simp_all [Datum.isNaN]; cases a <;> rfl

theorem canon_canon (d : Datum) : canon (canon d) = canon d := by cases d <;> rfl
theorem sum_canon (a b : Datum) : (canon a).sum (canon b) = a.sum b := by
  cases ha : a.isNaN with
  | true => rw [sum_nan_left ha, sum_nan_left (by rw [isNaN_canon, ha])]
  | false =>
    rw [canon_num ha]
    cases hb : b.isNaN with
    | true => rw [sum_nan_right hb, sum_nan_right (by rw [isNaN_canon, hb])]
    | false => rw [canon_num hb]
theorem quo_canon (n : Nat) (a b : Datum) : (canon a).quotient n (canon b) = a.quotient n b := by
  cases ha : a.isNaN with
  | true => rw [quo_nan_left n ha, quo_nan_left n (by rw [isNaN_canon, ha])]
  | false =>
    rw [canon_num ha]
    cases hb : b.isNaN with
    | true => rw [quo_nan_right n hb, quo_nan_right n (by rw [isNaN_canon, hb])]
    | false => rw [canon_num hb]

theorem mcf_add (x y : Nat) : mcf .add .f64 x y = dadd (cf .f64 x) (cf .f64 y) := by
  unfold mcf dadd cf floatBits Format.add
  rw [sum_canon]
  simp only
  show (match Option.map FloatKind.f64.format.write ((FloatKind.f64.format.read x).sum (FloatKind.f64.format.read y)) with | some r => canon (FloatKind.f64.decode r) | none => nanD) = _
  show _ = (match (FloatKind.f64.format.read x).sum (FloatKind.f64.format.read y) with | some d => canon (FloatKind.f64.decode (FloatKind.f64.encode d)) | none => nanD)
  cases (FloatKind.f64.format.read x).sum (FloatKind.f64.format.read y) <;> rfl

theorem mcf_quo (x y : Nat) : mcf .quo .f64 x y = dquo (cf .f64 x) (cf .f64 y) := by
  unfold mcf dquo cf floatBits Format.div
  rw [quo_canon]
  simp only
  show (match Option.map FloatKind.f64.format.write ((FloatKind.f64.format.read x).quotient 54 (FloatKind.f64.format.read y)) with | some r => canon (FloatKind.f64.decode r) | none => nanD) = _
  show _ = (match (FloatKind.f64.format.read x).quotient 54 (FloatKind.f64.format.read y) with | some d => canon (FloatKind.f64.decode (FloatKind.f64.encode d)) | none => nanD)
  cases (FloatKind.f64.format.read x).quotient 54 (FloatKind.f64.format.read y) <;> rfl

/-- The partial sums. -/
def Sm (f : Nat → Nat) : Nat → Datum
  | 0 => cf .f64 0
  | k + 1 => dadd (Sm f k) (wid (cf .f32 (f k)))

/-- Where it is a number: it is at most K * 2 ^ 104. -/
def Bd (d : Datum) (K : Nat) : Prop := ∀ s m p, d = .number s m p → -1074 ≤ p ∧ m * 2 ^ (p + 1074).toNat ≤ K * 2 ^ eJ

theorem canon_number {d : Datum} {s : Bool} {m : Nat} {p : Int} (h : canon d = .number s m p) : d = .number s m p := by
  cases d <;> simp_all [canon, nanD]

theorem inf_read (t : Bool) : FloatKind.f64.decode (FloatKind.f64.encode (.infinity t)) = .infinity t := by cases t <;> decide +kernel

theorem nearest_bd (s : Bool) (mag : Nat) (place S : Int) (hS : 0 ≤ place + S) (hS2 : 1074 ≤ S) (K : Nat) (hK : K < 2 ^ 53) (h : mag * 2 ^ (place + S).toNat ≤ K * 2 ^ eJ * 2 ^ (S - 1074).toNat) :
    Bd (FloatKind.f64.decode (FloatKind.f64.encode (.number s mag place))) K := by
  have hr := nearest_read Ieee.double (by decide) s mag place S hS (by rw [double_lp]; omega) K eJ hK
    (by rw [double_lp, show (-1074 + S).toNat = (S - 1074).toNat by omega]; exact h) (by
      refine Nat.lt_of_lt_of_le (Nat.mul_lt_mul_of_pos_right hK (Nat.two_pow_pos _)) ?_
      rw [← Nat.pow_add]
      exact Nat.pow_le_pow_right (by omega) (by rw [double_top, eJ_eq]; omega))
  obtain ⟨m, p, h1, h2, h3, -⟩ := hr
  have h3' := h3 K eJ hK (by rw [double_lp, show (-1074 + S).toNat = (S - 1074).toNat by omega]; exact h)
  intro s' m' p' he
  have he2 : Ieee.double.read (Ieee.double.nearest s mag place) = .number s' m' p' := he
  rw [h1] at he2
  simp only [Datum.number.injEq] at he2
  obtain ⟨_, rfl, rfl⟩ := he2
  rw [double_lp] at h2 h3'
  refine ⟨h2, ?_⟩
  rw [show (p + 1074).toNat = (p - -1074).toNat by omega]
  exact h3'

theorem wid_bd (b : Nat) : Bd (wid (cf .f32 b)) 16777215 := by
  intro s m p h
  unfold cf at h
  rw [wid_canon] at h
  cases hd : FloatKind.f32.decode b with
  | nan s t => rw [hd] at h; simp [wid, nanD] at h
  | infinity t =>
    rw [hd] at h
    have h' := canon_number (show canon (FloatKind.f64.decode (FloatKind.f64.encode (.infinity t))) = .number s m p from h)
    rw [inf_read] at h'
    cases h'
  | number t n q =>
    rw [hd] at h
    have h' := canon_number (show canon (FloatKind.f64.decode (FloatKind.f64.encode (.number t n q))) = .number s m p from h)
    obtain ⟨h1, h2, h3⟩ := read_single hd
    refine nearest_bd t n q 1074 (by omega) (by omega) 16777215 (by decide) ?_ s m p h'
    have a : n ≤ 16777215 := by omega
    have b : (2 : Nat) ^ (q + 1074).toNat ≤ 2 ^ eJ := Nat.pow_le_pow_right (by omega) (by rw [eJ_eq]; omega)
    simpa using Nat.mul_le_mul a b

theorem dadd_bd {a b : Datum} {K : Nat} (ha : Bd a K) (hb : Bd b 16777215) (hK : K + 16777215 < 2 ^ 53) : Bd (dadd a b) (K + 16777215) := by
  intro s m p h
  unfold dadd at h
  cases hs : a.sum b with
  | none => rw [hs] at h; simp [nanD] at h
  | some d =>
    rw [hs] at h
    have h' := canon_number h
    cases a with
    | nan => simp [Datum.sum] at hs
    | infinity u =>
      have : ∃ t, d = .infinity t := by
        cases b with
        | nan => simp [Datum.sum] at hs
        | infinity v => simp only [Datum.sum] at hs; split at hs <;> simp at hs; exact ⟨_, hs.symm⟩
        | number v n j => simp only [Datum.sum, Option.some.injEq] at hs; exact ⟨_, hs.symm⟩
      obtain ⟨t, rfl⟩ := this
      rw [inf_read] at h'; cases h'
    | number u x i =>
      cases b with
      | nan => simp [Datum.sum] at hs
      | infinity v =>
        simp only [Datum.sum, Option.some.injEq] at hs
        subst hs
        rw [inf_read] at h'; cases h'
      | number v y j =>
        obtain ⟨a1, a2⟩ := ha u x i rfl
        obtain ⟨b1, b2⟩ := hb v y j rfl
        simp only [Datum.sum, Option.some.injEq] at hs
        subst hs
        refine nearest_bd _ _ (min i j) 1074 (by omega) (by omega) (K + 16777215) hK ?_ s m p h'
        simp only [Int.sub_self, Int.toNat_zero, Nat.pow_zero, Nat.mul_one]
        have hN : (signed u x (i - min i j).toNat + signed v y (j - min i j).toNat).natAbs ≤ x * 2 ^ (i - min i j).toNat + y * 2 ^ (j - min i j).toNat := by
          unfold signed
          rw [Nat.shiftLeft_eq, Nat.shiftLeft_eq]
          split <;> split <;> omega
        refine Nat.le_trans (Nat.mul_le_mul_right _ hN) ?_
        rw [Nat.add_mul, Nat.mul_assoc, Nat.mul_assoc, ← Nat.pow_add, ← Nat.pow_add, Nat.add_mul]
        rw [show (i - min i j).toNat + (min i j + 1074).toNat = (i + 1074).toNat by omega, show (j - min i j).toNat + (min i j + 1074).toNat = (j + 1074).toNat by omega]
        exact Nat.add_le_add a2 b2

theorem Sm_bd (f : Nat → Nat) (k : Nat) (hk : k ≤ 1048576) : Bd (Sm f k) (k * 16777215) := by
  induction k with
  | zero =>
    intro s m p h
    have h0 : cf .f64 0 = .number false 0 (-1074) := by unfold cf; rw [zero_f64]; rfl
    have h' : cf .f64 0 = .number s m p := h
    rw [h0] at h'
    simp only [Datum.number.injEq] at h'
    obtain ⟨_, rfl, rfl⟩ := h'
    exact ⟨by omega, by simp⟩
  | succ k ih =>
    have := dadd_bd (ih (by omega)) (wid_bd (f k)) (by omega)
    rw [Nat.succ_mul]
    exact this

theorem read_double2 {b : Nat} {s : Bool} {m : Nat} {p : Int} (h : Ieee.double.read b = .number s m p) : 4503599627370496 ≤ m ∨ p = -1074 := by
  have hb : Ieee.double.binade = 4503599627370496 := by decide
  have hi : Ieee.double.infRung = 9218868437227405312 := by decide
  have hl : Ieee.double.leastPlace = -1074 := by decide
  unfold Format.read at h
  simp only [hb, hi, hl] at h
  generalize b % Ieee.double.signWeight = rung at h
  split at h
  · simp only [Datum.number.injEq] at h
    obtain ⟨_, _, rfl⟩ := h
    exact .inr rfl
  · split at h
    · simp only [Datum.number.injEq] at h
      obtain ⟨_, rfl, _⟩ := h
      left; omega
    · split at h <;> simp at h

/-- The least power above a bound. -/
theorem log2_bound {c e n L : Nat} (hn : 1 ≤ n) (h : c * 2 ^ e = n * 2 ^ L) : L ≤ c.log2 + e := by
  have h1 : c < 2 ^ (c.log2 + 1) := Nat.lt_log2_self
  have h2 : 2 ^ L < 2 ^ (c.log2 + 1 + e) := by
    rw [Nat.pow_add]
    refine Nat.lt_of_le_of_lt ?_ (Nat.mul_lt_mul_of_pos_right h1 (Nat.two_pow_pos e))
    rw [h]
    exact Nat.le_mul_of_pos_left _ hn
  have := (Nat.pow_lt_pow_iff_right (by omega : 1 < 2)).1 h2
  omega

theorem p53 : (2 : Nat) ^ (Ieee.double.fractionBits + 1) = 9007199254740992 := by decide

theorem quo_small (x n : Nat) (h1 : 1 ≤ n) (h2 : n ≤ 1048576) (hb : Bd (cf .f64 x) (n * 16777215)) : Bd (dquo (cf .f64 x) (cf .f64 (floatOfInt .f64 n))) 16777215 := by
  obtain ⟨c, j, r1, r2, r3⟩ := exact_int Ieee.double (by decide) eL (by decide) (by decide) false n (by rw [p53]; omega)
  have rn : FloatKind.f64.decode (floatOfInt .f64 n) = .number false c j := by
    have : floatOfInt .f64 (n : Int) = Ieee.double.nearest false n 0 := by
      show Ieee.double.nearest (decide ((n : Int) < 0)) n 0 = _
      rw [decide_eq_false (by omega)]
    rw [this]; exact r1
  intro s m p h
  unfold dquo cf at h
  rw [quo_canon, rn] at h
  cases hd : FloatKind.f64.decode x with
  | nan => rw [hd] at h; simp [Datum.quotient, nanD] at h
  | infinity t =>
    rw [hd] at h
    simp only [Datum.quotient] at h
    have h' := canon_number h
    rw [inf_read] at h'; cases h'
  | number t y i =>
    rw [hd] at h
    obtain ⟨b1, b2⟩ := hb t y i (by unfold cf; rw [hd]; rfl)
    have hc : c ≠ 0 := by
      rintro rfl
      have h3 : 0 < n * 2 ^ eL := Nat.mul_pos h1 (Nat.two_pow_pos _)
      omega
    simp only [Datum.quotient, if_neg hc] at h
    have h' := canon_number h
    clear h
    obtain ⟨y1, y2, y3⟩ := read_double hd
    have y4 := read_double2 hd
    have hl := log2_bound h1 r3
    have hly : y.log2 ≤ 52 := by
      by_cases h0 : y = 0
      · subst h0; decide
      · have := (Nat.log2_lt h0).2 y1; omega
    have hE := eL_eq
    have hJ := eJ_eq
    have hnK : n * 16777215 < 2 ^ 44 := by omega
    have hi : i = -1074 ∨ i ≤ 96 := by
      rcases y4 with y4 | y4
      · right
        have a : 2 ^ 52 * 2 ^ (i + 1074).toNat < 2 ^ 44 * 2 ^ eJ := by
          refine Nat.lt_of_le_of_lt ?_ (Nat.mul_lt_mul_of_pos_right hnK (Nat.two_pow_pos eJ))
          exact Nat.le_trans (Nat.mul_le_mul_right _ y4) b2
        rw [← Nat.pow_add, ← Nat.pow_add] at a
        have := (Nat.pow_lt_pow_iff_right (by omega : 1 < 2)).1 a
        omega
      · exact .inl y4
    clear y4 hb hd rn r1 y1
    generalize hM : 54 + c.log2 - y.log2 = more at h'
    have hmore : c.log2 + 2 ≤ more := by omega
    have hpos : 0 ≤ 104 + j - i + more := by omega
    have hD : y <<< more ≤ c * (16777215 * 2 ^ (104 + j - i + more).toNat) := by
      rw [Nat.shiftLeft_eq]
      refine Nat.le_of_mul_le_mul_right ?_ (Nat.two_pow_pos (i + 1074).toNat)
      have e1 : y * 2 ^ more * 2 ^ (i + 1074).toNat = y * 2 ^ (i + 1074).toNat * 2 ^ more := by rw [Nat.mul_right_comm]
      rw [e1]
      refine Nat.le_trans (Nat.mul_le_mul_right _ b2) (Nat.le_of_eq ?_)
      have e2 : n * 16777215 * 2 ^ eJ = c * (16777215 * 2 ^ (104 + (j + eL).toNat)) := by
        have e3 : 2 ^ eJ = 2 ^ 104 * 2 ^ eL := by rw [← Nat.pow_add]; congr 1
        rw [e3, Nat.pow_add]
        have e4 : n * 16777215 * (2 ^ 104 * 2 ^ eL) = 16777215 * 2 ^ 104 * (n * 2 ^ eL) := by
          generalize 2 ^ eL = u
          generalize 2 ^ 104 = v
          rw [Nat.mul_comm n, Nat.mul_assoc, Nat.mul_assoc, Nat.mul_left_comm n]
        rw [e4, ← r3]
        generalize 2 ^ (j + eL).toNat = u
        generalize 2 ^ 104 = v
        rw [Nat.mul_assoc, Nat.mul_left_comm v, Nat.mul_left_comm 16777215]
      have e5 : 104 + (j + eL).toNat + more = (104 + j - i + more).toNat + (i + 1074).toNat := by omega
      rw [e2, Nat.mul_assoc, Nat.mul_assoc, ← Nat.pow_add, e5, Nat.pow_add, Nat.mul_assoc, Nat.mul_assoc]
    have hmag : 2 * (y <<< more / c) + (y <<< more % c != 0).toNat ≤ 2 * (16777215 * 2 ^ (104 + j - i + more).toNat) := by
      generalize y <<< more = D at hD
      generalize 16777215 * 2 ^ (104 + j - i + more).toNat = E at hD
      have q1 : D / c ≤ E := Nat.div_le_of_le_mul hD
      by_cases q2 : D % c = 0
      · rw [q2]; simp; omega
      · have q3 : D / c ≠ E := by
          intro q4
          have := Nat.div_add_mod D c
          rw [q4] at this
          omega
        have q5 : (D % c != 0).toNat ≤ 1 := by cases (D % c != 0) <;> decide
        omega
    refine nearest_bd _ _ _ (1074 + j.natAbs + more + 1) (by omega) (by omega) 16777215 (by decide) ?_ s m p h'
    refine Nat.le_trans (Nat.mul_le_mul_right _ hmag) (Nat.le_of_eq ?_)
    rw [show 2 * (16777215 * 2 ^ (104 + j - i + more).toNat) = 16777215 * 2 ^ ((104 + j - i + more).toNat + 1) by rw [Nat.pow_succ]; omega, Nat.mul_assoc, Nat.mul_assoc, ← Nat.pow_add, ← Nat.pow_add]
    congr 2
    omega
end Go.Proofs.Ytbmbgailhiepbaa
