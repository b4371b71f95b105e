/- Operations in 64 bits on what the bits stand for, and bounds by powers of two. -/
import Derived.Test.YtbmbgailhiepbaaMeanP
namespace Go.Proofs.Ytbmbgailhiepbaa
open Ieee

def rnd (d : Option Datum) : Datum := match d with | some d => canon (FloatKind.f64.decode (FloatKind.f64.encode d)) | none => nanD
def dadd' (a b : Datum) : Datum := rnd (a.sum b)
def dsub (a b : Datum) : Datum := rnd (a.sum b.opposite)
def dmul (a b : Datum) : Datum := rnd (a.product b)
def ddiv (a b : Datum) : Datum := rnd (a.quotient 54 b)

theorem mul_nan_left {a b : Datum} (h : a.isNaN = true) : a.product b = none := by cases a <;> simp_all [Datum.isNaN, Datum.product]
theorem mul_nan_right {a b : Datum} (h : b.isNaN = true) : a.product b = none := by cases b <;> simp_all [Datum.isNaN]; cases a <;> rfl
theorem mul_canon (a b : Datum) : (canon a).product (canon b) = a.product b := by
  cases ha : a.isNaN with
  | true => rw [mul_nan_left ha, mul_nan_left (by rw [isNaN_canon, ha])]
  | false =>
    rw [canon_num ha]
    cases hb : b.isNaN with
    | true => rw [mul_nan_right hb, mul_nan_right (by rw [isNaN_canon, hb])]
    | false => rw [canon_num hb]
theorem sub_canon (a b : Datum) : (canon a).sum (canon b).opposite = a.sum b.opposite := by
  cases hb : b.isNaN with
  | true => rw [sum_nan_right (by cases b <;> simp_all [Datum.isNaN, canon, nanD, Datum.opposite]), sum_nan_right (by cases b <;> simp_all [Datum.isNaN, Datum.opposite])]
  | false =>
    rw [canon_num hb]
    cases ha : a.isNaN with
    | true => rw [sum_nan_left (by rw [isNaN_canon, ha]), sum_nan_left ha]
    | false => rw [canon_num ha]

theorem mcf_rnd (op : BinOp) (x y : Nat) (o : Option Datum) (h : floatBits op .f64 x y = o.map FloatKind.f64.format.write) : mcf op .f64 x y = rnd o := by
  unfold mcf rnd
  rw [h]
  cases o <;> rfl
theorem mcf_add' (x y : Nat) : mcf .add .f64 x y = dadd' (cf .f64 x) (cf .f64 y) := by
  unfold dadd' cf
  rw [sum_canon]
  exact mcf_rnd .add x y _ rfl
theorem mcf_sub (x y : Nat) : mcf .sub .f64 x y = dsub (cf .f64 x) (cf .f64 y) := by
  unfold dsub cf
  rw [sub_canon]
  exact mcf_rnd .sub x y _ rfl
theorem mcf_mul (x y : Nat) : mcf .mul .f64 x y = dmul (cf .f64 x) (cf .f64 y) := by
  unfold dmul cf
  rw [mul_canon]
  exact mcf_rnd .mul x y _ rfl
theorem mcf_div (x y : Nat) : mcf .quo .f64 x y = ddiv (cf .f64 x) (cf .f64 y) := by
  unfold ddiv cf
  rw [quo_canon]
  exact mcf_rnd .quo x y _ rfl

theorem order_cf (k : FloatKind) (x y : Nat) : k.format.order x y = (cf k x).order (cf k y) := by
  show (k.decode x).order (k.decode y) = (canon (k.decode x)).order (canon (k.decode y))
  cases ha : (k.decode x).isNaN with
  | true => rw [order_nan_left ha, order_nan_left (by rw [isNaN_canon, ha])]
  | false =>
    rw [canon_num ha]
    cases hb : (k.decode y).isNaN with
    | true => rw [order_nan_right hb, order_nan_right (by rw [isNaN_canon, hb])]
    | false => rw [canon_num hb]

/-- A number of at most 2 ^ e. -/
def Bp (d : Datum) (e : Nat) : Prop := ∃ s m p, d = .number s m p ∧ -1074 ≤ p ∧ m * 2 ^ (p + eL).toNat ≤ 2 ^ (e + eL)

theorem Bp.mono {d : Datum} {e e' : Nat} (h : Bp d e) (he : e ≤ e') : Bp d e' := by
  obtain ⟨s, m, p, h1, h2, h3⟩ := h
  exact ⟨s, m, p, h1, h2, Nat.le_trans h3 (Nat.pow_le_pow_right (by omega) (by omega))⟩

theorem nearest_bp (s : Bool) (mag : Nat) (place : Int) (T e : Nat) (hS : 0 ≤ place + eL + T) (he : e ≤ 1000) (h : mag * 2 ^ (place + eL + T).toNat ≤ 2 ^ (e + eL) * 2 ^ T) :
    ∃ m p, rnd (some (.number s mag place)) = .number s m p ∧ -1074 ≤ p ∧ m * 2 ^ (p + eL).toNat ≤ 2 ^ (e + eL) ∧
      (∀ K J, K < 2 ^ 53 → mag * 2 ^ (place + eL + T).toNat ≤ K * 2 ^ J * 2 ^ T → m * 2 ^ (p + eL).toNat ≤ K * 2 ^ J) ∧
      (∀ K J, K < 2 ^ 53 → K * 2 ^ J * 2 ^ T ≤ mag * 2 ^ (place + eL + T).toNat → K * 2 ^ J ≤ m * 2 ^ (p + eL).toNat) := by
  have hE := eL_eq
  have e1 : (place + (eL + T)).toNat = (place + eL + T).toNat := by omega
  have e2 : (Ieee.double.leastPlace + ((eL : Int) + T)).toNat = T := by rw [double_lp]; omega
  have hk : (1 : Nat) < 2 ^ (Ieee.double.fractionBits + 1) := by decide
  obtain ⟨m, p, h1, h2, h3, h4⟩ := nearest_read Ieee.double (by decide) s mag place (eL + T) (by omega) (by rw [double_lp]; omega) 1 (e + eL) hk
    (by rw [e1, e2, Nat.one_mul]; exact h) (by
      rw [Nat.one_mul]
      exact Nat.pow_lt_pow_right (by omega) (by rw [double_top]; omega))
  rw [double_lp] at h2
  have h3' := fun K J => h3 K J
  have h4' := fun K J => h4 K J
  rw [double_lp] at h3' h4'
  have e3 : (p - -1074).toNat = (p + eL).toNat := by omega
  rw [e1] at h3' h4'
  have e4 : (-1074 + ((eL : Int) + T)).toNat = T := by omega
  rw [e4, e3] at h3' h4'
  refine ⟨m, p, ?_, h2, ?_, h3', h4'⟩
  · show canon (Ieee.double.read (Ieee.double.nearest s mag place)) = _
    rw [h1]; rfl
  · have := h3' 1 (e + eL) (by decide) (by rw [Nat.one_mul]; exact h)
    rwa [Nat.one_mul] at this

theorem add_bp {a b : Datum} {e : Nat} (ha : Bp a e) (hb : Bp b e) (he : e ≤ 900) : Bp (dadd' a b) (e + 1) := by
  obtain ⟨u, x, i, rfl, a1, a2⟩ := ha
  obtain ⟨v, y, j, rfl, b1, b2⟩ := hb
  have hE := eL_eq
  obtain ⟨m, p, h1, h2, h3, -⟩ := nearest_bp (if signed u x (i - min i j).toNat + signed v y (j - min i j).toNat = 0 then u && v else decide (signed u x (i - min i j).toNat + signed v y (j - min i j).toNat < 0)) (signed u x (i - min i j).toNat + signed v y (j - min i j).toNat).natAbs (min i j) 0 (e + 1) (by omega) (by omega) (by
    have hN : (signed u x (i - min i j).toNat + signed v y (j - min i j).toNat).natAbs ≤ x * 2 ^ (i - min i j).toNat + y * 2 ^ (j - min i j).toNat := by
      unfold signed
      rw [Nat.shiftLeft_eq, Nat.shiftLeft_eq]
      split <;> split <;> omega
    refine Nat.le_trans (Nat.mul_le_mul_right _ hN) ?_
    rw [Nat.add_mul, Nat.mul_assoc, Nat.mul_assoc, ← Nat.pow_add, ← Nat.pow_add]
    rw [show (i - min i j).toNat + (min i j + eL + (0 : Nat)).toNat = (i + eL).toNat by omega, show (j - min i j).toNat + (min i j + eL + (0 : Nat)).toNat = (j + eL).toNat by omega]
    rw [show e + 1 + eL = (e + eL) + 1 by omega, Nat.pow_succ]
    omega)
  exact ⟨_, m, p, h1, h2, h3⟩

theorem opp_bp {b : Datum} {e : Nat} (h : Bp b e) : Bp b.opposite e := by
  obtain ⟨v, y, j, rfl, b1, b2⟩ := h
  exact ⟨_, y, j, rfl, b1, b2⟩
theorem sub_bp {a b : Datum} {e : Nat} (ha : Bp a e) (hb : Bp b e) (he : e ≤ 900) : Bp (dsub a b) (e + 1) := add_bp ha (opp_bp hb) he

theorem mul_bp {a b : Datum} {e f : Nat} (ha : Bp a e) (hb : Bp b f) (he : e + f ≤ 1000) : Bp (dmul a b) (e + f) := by
  obtain ⟨u, x, i, rfl, a1, a2⟩ := ha
  obtain ⟨v, y, j, rfl, b1, b2⟩ := hb
  have hE := eL_eq
  obtain ⟨m, p, h1, h2, h3, -⟩ := nearest_bp (u ^^ v) (x * y) (i + j) eL (e + f) (by omega) (by omega) (by
    rw [show (i + j + eL + eL).toNat = (i + eL).toNat + (j + eL).toNat by omega, Nat.pow_add]
    have : x * y * (2 ^ (i + eL).toNat * 2 ^ (j + eL).toNat) = x * 2 ^ (i + eL).toNat * (y * 2 ^ (j + eL).toNat) := by
      generalize 2 ^ (i + eL).toNat = A
      generalize 2 ^ (j + eL).toNat = B
      rw [Nat.mul_assoc, Nat.mul_assoc, Nat.mul_left_comm y]
    rw [this, show 2 ^ (e + f + eL) * 2 ^ eL = 2 ^ (e + eL) * 2 ^ (f + eL) by rw [← Nat.pow_add, ← Nat.pow_add, show e + f + eL + eL = e + eL + (f + eL) by omega]]
    exact Nat.mul_le_mul a2 b2)
  exact ⟨_, m, p, h1, h2, h3⟩

/-- A number of at least 1. -/
def Lb (d : Datum) : Prop := ∃ s m p, d = .number s m p ∧ -1074 ≤ p ∧ 2 ^ eL ≤ m * 2 ^ (p + eL).toNat

theorem div_bp {a b : Datum} {e : Nat} (ha : Bp a e) (hb : Lb b) (he : e ≤ 900) : Bp (ddiv a b) (e + 1) := by
  obtain ⟨u, x, i, rfl, a1, a2⟩ := ha
  obtain ⟨v, c, j, rfl, b1, b2⟩ := hb
  have hE := eL_eq
  have hc : c ≠ 0 := by
    rintro rfl
    have := Nat.two_pow_pos eL
    omega
  have hq : ddiv (.number u x i) (.number v c j) = rnd (some (.number (u ^^ v) (2 * (x <<< (54 + c.log2 - x.log2) / c) + (x <<< (54 + c.log2 - x.log2) % c != 0).toNat) (i - j - (54 + c.log2 - x.log2 : Nat) - 1))) := by
    unfold ddiv Datum.quotient
    simp only [if_neg hc]
  rw [hq]
  generalize hM : 54 + c.log2 - x.log2 = more
  have hmag : 2 * (x <<< more / c) + (x <<< more % c != 0).toNat ≤ 4 * (x <<< more / c) := by
    by_cases hx : x = 0
    · subst hx; simp
    · have h1 : 2 ^ x.log2 ≤ x := Nat.log2_self_le hx
      have h2 : c < 2 ^ (c.log2 + 1) := Nat.lt_log2_self
      have h3 : c ≤ x <<< more := by
        rw [Nat.shiftLeft_eq]
        refine Nat.le_trans (Nat.le_of_lt h2) (Nat.le_trans ?_ (Nat.mul_le_mul_right _ h1))
        rw [← Nat.pow_add]
        exact Nat.pow_le_pow_right (by omega) (by omega)
      have h4 : 1 ≤ x <<< more / c := (Nat.le_div_iff_mul_le (by omega)).2 (by omega)
      have q5 : (x <<< more % c != 0).toNat ≤ 1 := by cases (x <<< more % c != 0) <;> decide
      omega
  have hD : x <<< more / c * c ≤ x * 2 ^ more := by rw [Nat.shiftLeft_eq]; exact Nat.div_mul_le_self _ _
  generalize hq2 : 2 * (x <<< more / c) + (x <<< more % c != 0).toNat = mag at hmag
  generalize x <<< more / c = q at hmag hD
  have hk : q * 2 ^ (i + eL).toNat ≤ 2 ^ (more + (j + eL).toNat + e) := by
    refine Nat.le_of_mul_le_mul_right ?_ (Nat.two_pow_pos eL)
    calc q * 2 ^ (i + eL).toNat * 2 ^ eL ≤ q * 2 ^ (i + eL).toNat * (c * 2 ^ (j + eL).toNat) := Nat.mul_le_mul_left _ b2
      _ = q * c * (2 ^ (i + eL).toNat * 2 ^ (j + eL).toNat) := by
        generalize 2 ^ (i + eL).toNat = A
        generalize 2 ^ (j + eL).toNat = B
        rw [Nat.mul_assoc, Nat.mul_assoc, Nat.mul_left_comm A]
      _ ≤ x * 2 ^ more * (2 ^ (i + eL).toNat * 2 ^ (j + eL).toNat) := Nat.mul_le_mul_right _ hD
      _ = x * 2 ^ (i + eL).toNat * (2 ^ more * 2 ^ (j + eL).toNat) := by
        generalize 2 ^ (i + eL).toNat = A
        generalize 2 ^ (j + eL).toNat = B
        rw [Nat.mul_assoc, Nat.mul_assoc, Nat.mul_left_comm (2 ^ more)]
      _ ≤ 2 ^ (e + eL) * (2 ^ more * 2 ^ (j + eL).toNat) := Nat.mul_le_mul_right _ a2
      _ = 2 ^ (more + (j + eL).toNat + e) * 2 ^ eL := by
        rw [← Nat.pow_add, ← Nat.pow_add, ← Nat.pow_add, show e + eL + (more + (j + eL).toNat) = more + (j + eL).toNat + e + eL by omega]
  obtain ⟨m, p, h1, h2, h3, -⟩ := nearest_bp (u ^^ v) mag (i - j - more - 1) ((j + eL).toNat + more + 1) (e + 1) (by omega) (by omega) (by
    rw [show (i - j - more - 1 + eL + (((j + eL).toNat + more + 1 : Nat) : Int)).toNat = (i + eL).toNat + eL by omega, Nat.pow_add]
    calc mag * (2 ^ (i + eL).toNat * 2 ^ eL) ≤ 4 * q * (2 ^ (i + eL).toNat * 2 ^ eL) := Nat.mul_le_mul_right _ hmag
      _ = 4 * (q * 2 ^ (i + eL).toNat) * 2 ^ eL := by rw [Nat.mul_assoc, Nat.mul_assoc, Nat.mul_assoc]
      _ ≤ 4 * 2 ^ (more + (j + eL).toNat + e) * 2 ^ eL := Nat.mul_le_mul_right _ (Nat.mul_le_mul_left _ hk)
      _ = 2 ^ (e + 1 + eL) * 2 ^ ((j + eL).toNat + more + 1) := by
        rw [show (4 : Nat) = 2 ^ 2 from rfl, ← Nat.pow_add, ← Nat.pow_add, ← Nat.pow_add, show 2 + (more + (j + eL).toNat + e) + eL = e + 1 + eL + ((j + eL).toNat + more + 1) by omega])
  exact ⟨_, m, p, h1, h2, h3⟩
end Go.Proofs.Ytbmbgailhiepbaa
