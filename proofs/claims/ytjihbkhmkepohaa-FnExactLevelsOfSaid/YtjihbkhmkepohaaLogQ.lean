/- The tenths of decibels of a positive number, on bits. -/
import Derived.Test.YtjihbkhmkepohaaLogP
namespace Go.Proofs.Ytjihbkhmkepohaa
open Ieee

theorem intZ_bp (i : Int) (e : Nat) (he : e ≤ 52) (h : i.natAbs ≤ 2 ^ e) : Bp (cf .f64 (floatOfInt .f64 i)) e := by
  have h53 : i.natAbs < 2 ^ 53 := Nat.lt_of_le_of_lt h (Nat.pow_lt_pow_right (by omega) (by omega))
  obtain ⟨c, j, r1, r2, r3⟩ := exact_int Ieee.double (by decide) eL (by decide) (by decide) (decide (i < 0)) i.natAbs (by rw [p53]; omega)
  have hE := eL_eq
  refine ⟨decide (i < 0), c, j, ?_, by omega, ?_⟩
  · show canon (Ieee.double.read (Ieee.double.nearest (decide (i < 0)) i.natAbs 0)) = _
    rw [r1]; rfl
  · rw [r3, Nat.pow_add]
    exact Nat.mul_le_mul_right _ h

theorem pow2_succ (n : Nat) : 2 ^ (n + 1) = 2 ^ n * 2 := Nat.pow_succ ..

theorem pw_bp {d : Datum} {a : Nat} (h : Pw d a (eL + 1)) : Bp d 1 := by
  obtain ⟨m, p, h1, h2, h3, h4⟩ := h
  exact ⟨false, m, p, h1, h2, by rw [Nat.add_comm]; exact h4⟩

theorem pw_sub {x a : Nat} (h : Pw (cf .f64 x) a (eL + 1)) : floatBits .sub .f64 x 4607182418800017408 = some (fB .sub x 4607182418800017408) ∧ Bp (cf .f64 (fB .sub x 4607182418800017408)) 0 := by
  have hB := B_sub (pw_bp h) (bp_one.mono (by omega)) (by omega)
  obtain ⟨m, p, h1, h2, h3, h4⟩ := h
  refine ⟨hB.1, ?_⟩
  rw [hB.2.2, h1, one_cf]
  obtain ⟨u, k, q, g1, g2, g3, -⟩ := sub_numbers false false m 4503599627370496 p (-52) h2 (by omega) 0 (by omega) (by
    rw [one_units, Nat.zero_add]
    rw [pow2_succ eL] at h4
    have := Nat.two_pow_pos eL
    generalize 2 ^ eL = Q at *
    generalize m * 2 ^ (p + eL).toNat = A at *
    unfold signed
    simp
    omega)
  exact ⟨u, k, q, g1, g2, g3⟩

theorem pw_add {x a : Nat} (h : Pw (cf .f64 x) a (eL + 1)) : floatBits .add .f64 x 4607182418800017408 = some (fB .add x 4607182418800017408) ∧ Lb (cf .f64 (fB .add x 4607182418800017408)) := by
  have hB := B_add (pw_bp h) (bp_one.mono (by omega)) (by omega)
  obtain ⟨m, p, h1, h2, h3, h4⟩ := h
  have hE := eL_eq
  refine ⟨hB.1, ?_⟩
  rw [hB.2.2, h1, one_cf]
  have hm := sum_mag false false m 4503599627370496 p (-52) h2 (by omega)
  have hsum : dadd' (.number false m p) (.number false 4503599627370496 (-52)) = rnd (some (.number (if signed false m (p - min p (-52)).toNat + signed false 4503599627370496 (-52 - min p (-52)).toNat = 0 then false && false else decide (signed false m (p - min p (-52)).toNat + signed false 4503599627370496 (-52 - min p (-52)).toNat < 0)) (signed false m (p - min p (-52)).toNat + signed false 4503599627370496 (-52 - min p (-52)).toNat).natAbs (min p (-52)))) := rfl
  rw [hsum]
  generalize (if signed false m (p - min p (-52)).toNat + signed false 4503599627370496 (-52 - min p (-52)).toNat = 0 then false && false else decide (signed false m (p - min p (-52)).toNat + signed false 4503599627370496 (-52 - min p (-52)).toNat < 0)) = u
  generalize (signed false m (p - min p (-52)).toNat + signed false 4503599627370496 (-52 - min p (-52)).toNat).natAbs = mag at hm
  rw [one_units] at hm
  have ez : (min p (-52) + eL + ((0 : Nat) : Int)).toNat = (min p (-52) + eL).toNat := by omega
  have hab : (signed false (m * 2 ^ (p + eL).toNat) 0 + signed false (2 ^ eL) 0).natAbs = m * 2 ^ (p + eL).toNat + 2 ^ eL := by
    generalize 2 ^ eL = Q
    generalize m * 2 ^ (p + eL).toNat = A
    unfold signed
    simp
    omega
  rw [hab] at hm
  obtain ⟨k, q, g1, g2, g3, -, g5⟩ := nearest_bp u mag (min p (-52)) 0 2 (by omega) (by omega) (by
    rw [ez, hm, Nat.pow_zero, Nat.mul_one, show 2 + eL = eL + 1 + 1 by omega, pow2_succ (eL + 1)]
    have : 2 ^ eL ≤ 2 ^ (eL + 1) := Nat.pow_le_pow_right (by omega) (by omega)
    omega)
  refine ⟨u, k, q, g1, g2, ?_⟩
  have := g5 1 eL (by decide) (by rw [ez, hm, Nat.pow_zero, Nat.mul_one, Nat.one_mul]; exact Nat.le_add_left _ _)
  rwa [Nat.one_mul] at this

theorem bp_two : Bp (cf .f64 4611686018427387904) 1 := by
  refine ⟨false, 4503599627370496, -51, by decide +kernel, by omega, ?_⟩
  have hE := eL_eq
  rw [show (4503599627370496 : Nat) = 2 ^ 52 from rfl, ← Nat.pow_add]
  exact Nat.pow_le_pow_right (by omega) (by omega)
theorem bp_ln2 : Bp (cf .f64 4604418534313441775) 0 := by
  refine ⟨false, 6243314768165359, -53, by decide +kernel, by omega, ?_⟩
  have hE := eL_eq
  refine Nat.le_trans (Nat.mul_le_mul_right _ (show 6243314768165359 ≤ 2 ^ 53 by decide)) ?_
  rw [← Nat.pow_add]
  exact Nat.pow_le_pow_right (by omega) (by omega)
theorem bp_c43 : Bp (cf .f64 4631308968768463603) 6 := by
  refine ⟨false, 6112151458964211, -47, by decide +kernel, by omega, ?_⟩
  have hE := eL_eq
  refine Nat.le_trans (Nat.mul_le_mul_right _ (show 6112151458964211 ≤ 2 ^ 53 by decide)) ?_
  rw [← Nat.pow_add]
  exact Nat.pow_le_pow_right (by omega) (by omega)

def lnS (x : Nat) : Nat := fB .quo (fB .sub x 4607182418800017408) (fB .add x 4607182418800017408)
def lnU (x : Nat) : Nat := fB .mul (lnS x) (lnS x)
def lnQ (u : Nat) : Nat → Nat
  | 0 => 0
  | j + 1 => fB .add (fB .quo 4607182418800017408 (floatOfInt .f64 (25 - 2 * (j : Int)))) (fB .mul u (lnQ u j))

theorem lnD_lb (j : Nat) (h : j < 13) : Lb (cf .f64 (floatOfInt .f64 (25 - 2 * (j : Int)))) := by
  have := Lb_int (25 - 2 * j) (by omega) (by omega)
  rw [show (25 - 2 * (j : Int)) = ((25 - 2 * j : Nat) : Int) by omega]
  exact this

theorem lnQ_bp {u : Nat} (hu : Bp (cf .f64 u) 2) (j : Nat) (hj : j ≤ 13) : Bp (cf .f64 (lnQ u j)) (3 * j) := by
  induction j with
  | zero => exact bp_zero
  | succ j ih =>
    have h1 := (B_div bp_one (lnD_lb j (by omega)) (by omega)).2
    have h2 := (B_mul hu (ih (by omega)) (by omega)).2
    have h3 := (B_add (h1.mono (show 0 + 1 ≤ 2 + 3 * j by omega)) h2 (by omega)).2.1
    exact h3.mono (by omega)

/-- One round, its operations. -/
theorem lnQ_round {u : Nat} (hu : Bp (cf .f64 u) 2) (j : Nat) (hj : j < 13) :
    floatBits .quo .f64 4607182418800017408 (floatOfInt .f64 (25 - 2 * (j : Int))) = some (fB .quo 4607182418800017408 (floatOfInt .f64 (25 - 2 * (j : Int)))) ∧
    floatBits .mul .f64 u (lnQ u j) = some (fB .mul u (lnQ u j)) ∧
    floatBits .add .f64 (fB .quo 4607182418800017408 (floatOfInt .f64 (25 - 2 * (j : Int)))) (fB .mul u (lnQ u j)) = some (lnQ u (j + 1)) := by
  have h1 := B_div bp_one (lnD_lb j hj) (by omega)
  have h2 := B_mul hu (lnQ_bp hu j (by omega)) (by omega)
  have h3 := B_add (h1.2.mono (show 0 + 1 ≤ 2 + 3 * j by omega)) h2.2 (by omega)
  exact ⟨h1.1, h2.1, h3.1⟩

def lnP (x : Nat) : Nat := fB .mul (lnS x) (lnQ (lnU x) 13)
def lnP2 (x : Nat) : Nat := fB .mul 4611686018427387904 (lnP x)
def lnEB (e : Int) : Nat := fB .mul (floatOfInt .f64 e) 4604418534313441775
def lnL (x : Nat) (e : Int) : Nat := fB .add (lnP2 x) (lnEB e)
def lnM (l : Nat) : Nat := fB .mul l 4631308968768463603
def lnT (l : Nat) : Nat := fB .add (lnM l) 4602678819172646912

theorem ln_all {x a : Nat} (h : Pw (cf .f64 x) a (eL + 1)) (e : Int) (he : e.natAbs ≤ 512) :
    floatBits .sub .f64 x 4607182418800017408 = some (fB .sub x 4607182418800017408) ∧ floatBits .add .f64 x 4607182418800017408 = some (fB .add x 4607182418800017408) ∧
    floatBits .quo .f64 (fB .sub x 4607182418800017408) (fB .add x 4607182418800017408) = some (lnS x) ∧ floatBits .mul .f64 (lnS x) (lnS x) = some (lnU x) ∧ Bp (cf .f64 (lnU x)) 2 ∧
    floatBits .mul .f64 (lnS x) (lnQ (lnU x) 13) = some (lnP x) ∧ floatBits .mul .f64 4611686018427387904 (lnP x) = some (lnP2 x) ∧ floatBits .mul .f64 (floatOfInt .f64 e) 4604418534313441775 = some (lnEB e) ∧
    floatBits .add .f64 (lnP2 x) (lnEB e) = some (lnL x e) ∧ Bp (cf .f64 (lnL x e)) 42 := by
  have h1 := pw_sub h
  have h2 := pw_add h
  have h3 := B_div h1.2 h2.2 (by omega)
  have h4 := B_mul h3.2 h3.2 (by omega)
  have h5 := B_mul h3.2 (lnQ_bp h4.2 13 (by omega)) (by omega)
  have h6 := B_mul bp_two h5.2 (by omega)
  have h7 := B_mul (intZ_bp e 9 (by omega) he) bp_ln2 (by omega)
  have h8 := B_add h6.2 (h7.2.mono (by omega)) (by omega)
  exact ⟨h1.1, h2.1, h3.1, h4.1, h4.2, h5.1, h6.1, h7.1, h8.1, h8.2.1⟩

theorem lnT_all {l : Nat} (h : Bp (cf .f64 l) 42) : floatBits .mul .f64 l 4631308968768463603 = some (lnM l) ∧ floatBits .add .f64 (lnM l) 4602678819172646912 = some (lnT l) ∧ Bp (cf .f64 (lnT l)) 49 := by
  have h1 := B_mul h bp_c43 (by omega)
  have h2 := B_add h1.2 (bp_half.mono (by omega)) (by omega)
  exact ⟨h1.1, h2.1, h2.2.1⟩

/-- Floor. -/
def flB (t : Nat) : Nat := FloatKind.f64.encode ((FloatKind.f64.decode t).integral .down)

theorem cut_down_le (s : Bool) (n drop : Nat) : Toward.down.cut s n drop ≤ n / 2 ^ drop + 1 := by
  rw [← cut_zero s n drop]
  unfold Toward.cut
  simp only [Bool.toNat_false, Nat.add_zero]
  generalize n / 1 <<< min drop (n.log2 + 2) = low
  generalize (s && n % 1 <<< min drop (n.log2 + 2) != 0) = b
  cases b <;> simp

theorem flB_all {t : Nat} (h : Bp (cf .f64 t) 49) : (∃ s m p, FloatKind.f64.decode t = .number s m p) ∧ floatToIntVal .f64 (flB t) .i64 = some (iB (flB t)) ∧ (iB (flB t)).natAbs < 4503599627370496 := by
  obtain ⟨s, m, p, h1, h2, h3⟩ := h
  have hd : FloatKind.f64.decode t = .number s m p := canon_number h1
  have hE := eL_eq
  refine ⟨⟨s, m, p, hd⟩, ?_⟩
  have hw : whole m p ≤ 2 ^ 49 := by
    refine Nat.le_of_mul_le_mul_right ?_ (Nat.two_pow_pos eL)
    refine Nat.le_trans (whole_bounds m p h2).1 ?_
    rw [← Nat.pow_add]
    exact h3
  have hN : ∃ N, flB t = Ieee.double.nearest s N 0 ∧ N ≤ 2 ^ 50 := by
    refine ⟨Toward.down.cut s (m <<< p.toNat) (-p).toNat, ?_, ?_⟩
    · unfold flB
      rw [hd]
      rfl
    · refine Nat.le_trans (cut_down_le s _ _) ?_
      have : m <<< p.toNat / 2 ^ (-p).toNat = whole m p := rfl
      rw [this]
      have e : (2 : Nat) ^ 50 = 2 ^ 49 + 2 ^ 49 := by decide
      rw [e]
      have : 1 ≤ 2 ^ 49 := Nat.two_pow_pos 49
      omega
  obtain ⟨N, hf, hN⟩ := hN
  have h53 : N < 2 ^ 53 := Nat.lt_of_le_of_lt hN (Nat.pow_lt_pow_right (by omega) (by omega))
  obtain ⟨c, j, r1, r2, r3⟩ := exact_int Ieee.double (by decide) eL (by decide) (by decide) s N (by rw [p53]; omega)
  have hc : cf .f64 (flB t) = .number s c j := by
    rw [hf]
    show canon (Ieee.double.read (Ieee.double.nearest s N 0)) = _
    rw [r1]; rfl
  have hb : c * 2 ^ (j + eL).toNat ≤ 2 ^ (51 + eL) := by
    rw [r3, Nat.pow_add]
    exact Nat.mul_le_mul_right _ (Nat.le_trans hN (Nat.pow_le_pow_right (by omega) (by omega)))
  have hB : Bp (cf .f64 (flB t)) 51 := ⟨s, c, j, hc, by omega, hb⟩
  refine ⟨(iB_frac hB).1, ?_⟩
  have hi : iB (flB t) = signed s (whole c j) 0 := by unfold iB; rw [hc, toInt_zero]; rfl
  have hab : (signed s (whole c j) 0).natAbs = whole c j := by unfold signed; cases s <;> simp
  rw [hi, hab]
  exact (frac_bp (s := s) (by omega) (Nat.lt_of_le_of_lt hb (Nat.pow_lt_pow_right (by omega) (by omega)))).1

/-- The tenths. -/
def tenB (l : Nat) : Int := iB (flB (lnT l))
theorem tenB_all {l : Nat} (h : Bp (cf .f64 l) 42) : floatToIntVal .f64 (flB (lnT l)) .i64 = some (tenB l) ∧ (tenB l).natAbs < 4503599627370496 :=
  (flB_all (lnT_all h).2.2).2

/-! A 32-bit number, widened. -/
def wX (b : Nat) : Nat := (floatToFloatBits .f32 b .f64).getD 0
def finB (b : Nat) : Bool := (mcf .sub .f32 b b).order (cf .f32 0) == some .eq
def posB (b : Nat) : Bool := finB b && (FloatKind.f32.format.order b 0 == some .gt)
theorem zero32 : cf .f32 0 = .number false 0 (-149) := by decide +kernel

theorem finB_number {b : Nat} (h : finB b = true) : ∃ s m p, FloatKind.f32.decode b = .number s m p := by
  unfold finB mcf at h
  cases hd : FloatKind.f32.decode b with
  | number s m p => exact ⟨s, m, p, rfl⟩
  | nan s t =>
    have : floatBits .sub .f32 b b = none := by
      show ((FloatKind.f32.decode b).sum (FloatKind.f32.decode b).opposite).map FloatKind.f32.format.write = _
      rw [hd]; rfl
    rw [this] at h
    simp [nanD, Datum.order] at h
  | infinity s =>
    have : floatBits .sub .f32 b b = none := by
      show ((FloatKind.f32.decode b).sum (FloatKind.f32.decode b).opposite).map FloatKind.f32.format.write = _
      rw [hd]
      cases s <;> rfl
    rw [this] at h
    simp [nanD, Datum.order] at h

theorem posB_number {b : Nat} (h : posB b = true) : ∃ m p, FloatKind.f32.decode b = .number false m p ∧ 0 < m := by
  unfold posB at h
  rw [Bool.and_eq_true] at h
  obtain ⟨s, m, p, hd⟩ := finB_number h.1
  have h2 := h.2
  rw [order_cf, zero32] at h2
  have hc : cf .f32 b = .number s m p := by unfold cf; rw [hd]; rfl
  obtain ⟨_, q1, q2⟩ := read_single (show Ieee.single.read b = .number s m p from hd)
  rw [hc, order_numbers _ _ _ _ _ _ (by omega) (by omega), Nat.zero_mul] at h2
  cases s with
  | true =>
    exfalso
    generalize m * 2 ^ (p + eL).toNat = A at h2
    have : compare (signed true A 0) (signed false 0 0) ≠ .gt := by
      intro hh
      rw [Int.compare_eq_gt] at hh
      unfold signed at hh
      simp at hh
      omega
    simp at h2
    exact this h2
  | false =>
    refine ⟨m, p, hd, ?_⟩
    by_cases h0 : m = 0
    · subst h0
      simp [signed] at h2
    · omega

def eA : Nat := 925
theorem eA_eq : eA = 925 := rfl
def eB : Nat := 1202
theorem eB_eq : eB = 1202 := rfl

theorem wX_pw {b : Nat} (h : posB b = true) : floatToFloatBits .f32 b .f64 = some (wX b) ∧ wX b = FloatKind.f64.encode (FloatKind.f32.decode b) ∧ Pw (cf .f64 (wX b)) eA eB := by
  obtain ⟨m, p, hd, hm⟩ := posB_number h
  obtain ⟨q0, q1, q2⟩ := read_single (show Ieee.single.read b = .number false m p from hd)
  have hE := eL_eq
  have hA := eA_eq
  have hB := eB_eq
  have e : floatToFloatBits .f32 b .f64 = some (FloatKind.f64.encode (.number false m p)) := by
    unfold floatToFloatBits
    rw [if_neg (by decide), hd]
    simp only [widen_finite q0 q1 q2, Bool.false_eq_true, if_false]
  have e2 : wX b = FloatKind.f64.encode (.number false m p) := by unfold wX; rw [e]; rfl
  refine ⟨by rw [e, e2], by rw [e2, hd], ?_⟩
  rw [e2]
  have hlo : 2 ^ eA ≤ m * 2 ^ (p + eL).toNat := by
    refine Nat.le_trans (Nat.pow_le_pow_right (by omega) (show eA ≤ (p + eL).toNat by omega)) (Nat.le_mul_of_pos_left _ hm)
  have hup : m * 2 ^ (p + eL).toNat ≤ 2 ^ eB := by
    refine Nat.le_trans (Nat.mul_le_mul_right _ (Nat.le_of_lt q0)) ?_
    rw [← Nat.pow_add]
    exact Nat.pow_le_pow_right (by omega) (by omega)
  have ez : (p + eL + ((0 : Nat) : Int)).toNat = (p + eL).toNat := by omega
  obtain ⟨k, q, g1, g2, -, g4, g5⟩ := nearest_bp false m p 0 500 (by omega) (by omega) (by
    rw [ez, Nat.pow_zero, Nat.mul_one]
    exact Nat.le_trans hup (Nat.pow_le_pow_right (by omega) (by omega)))
  rw [ez] at g4 g5
  refine ⟨k, q, g1, g2, ?_, ?_⟩
  · have := g5 1 eA (by decide) (by rw [Nat.one_mul, Nat.pow_zero, Nat.mul_one]; exact hlo)
    rwa [Nat.one_mul] at this
  · have := g4 1 eB (by decide) (by rw [Nat.one_mul, Nat.pow_zero, Nat.mul_one]; exact hup)
    rwa [Nat.one_mul] at this

def logB (b : Nat) : Nat := lnL (lnX (wX b)) (lnE (wX b))
def lev (b : Nat) : Int := tenB (logB b)

theorem log_all {b : Nat} (h : posB b = true) : Pw (cf .f64 (dnF 200 (wX b))) 725 (eL + 1) ∧ Pw (cf .f64 (lnX (wX b))) 725 (eL + 1) ∧ (lnE (wX b)).natAbs ≤ 512 := by
  have hE := eL_eq
  obtain ⟨_, _, hp⟩ := wX_pw h
  have hA := eA_eq
  have hB := eB_eq
  obtain ⟨h1, h2⟩ := dn_all (k := 200) (a := 725) (by rw [show 725 + 200 = eA by omega]; exact hp) (by omega) (by omega)
  obtain ⟨h3, h4⟩ := up_all (k := 400) h1
  refine ⟨h1, h3, ?_⟩
  unfold lnE
  omega
theorem lev_bd {b : Nat} (h : posB b = true) : (lev b).natAbs < 4503599627370496 := by
  obtain ⟨_, h2, h3⟩ := log_all h
  exact (tenB_all (ln_all h2 _ h3).2.2.2.2.2.2.2.2.2).2

/-- How many tenths a number lies under the top, from -2000 on. -/
def level (top b : Nat) : Int := if posB b then max (-2000) (lev b - lev top) else -2000
end Go.Proofs.Ytjihbkhmkepohaa
