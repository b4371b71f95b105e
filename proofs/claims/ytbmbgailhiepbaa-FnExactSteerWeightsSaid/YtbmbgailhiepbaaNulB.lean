/- The phasor's parts are at most 32; products of complex numbers in 32 bits, on bits. -/
import Derived.Test.YtbmbgailhiepbaaTight2
namespace Go.Proofs.Ytbmbgailhiepbaa
open Ieee

theorem pow2s (n : Nat) : 2 ^ n * 2 = 2 ^ (n + 1) := (Nat.pow_succ ..).symm

/-- A number of at least 2 ^ g. -/
def Lbg (d : Datum) (g : Nat) : Prop := ∃ s m p, d = .number s m p ∧ -1074 ≤ p ∧ 2 ^ (g + eL) ≤ m * 2 ^ (p + eL).toNat

theorem div_bpg {a b : Datum} {e g : Nat} (ha : Bp a e) (hb : Lbg b g) (hg : g ≤ e + 1) (he : e ≤ 900) : Bp (ddiv a b) (e + 1 - g) := by
  obtain ⟨u, x, i, rfl, a1, a2⟩ := ha
  obtain ⟨v, c, j, rfl, b1, b2⟩ := hb
  have hE := eL_eq
  have hc : c ≠ 0 := by
    rintro rfl
    have := Nat.two_pow_pos (g + eL)
    omega
  have hq : ddiv (.number u x i) (.number v c j) = rnd (some (.number (u ^^ v) (2 * (x <<< (54 + c.log2 - x.log2) / c) + (x <<< (54 + c.log2 - x.log2) % c != 0).toNat) (i - j - (54 + c.log2 - x.log2 : Nat) - 1))) := by
    unfold ddiv Datum.quotient
    simp only [if_neg hc]
  rw [hq]
  generalize hM : 54 + c.log2 - x.log2 = more
  have hmag : 2 * (x <<< more / c) + (x <<< more % c != 0).toNat ≤ 4 * (x <<< more / c) := by
    by_cases hx : x = 0
    · subst hx; simp
    · have h1 : 2 ^ x.log2 ≤ x := Nat.log2_self_le hx
      have h2 : c < 2 ^ (c.log2 + 1) := Nat.lt_log2_self
      have h3 : c ≤ x <<< more := by
        rw [Nat.shiftLeft_eq]
        refine Nat.le_trans (Nat.le_of_lt h2) (Nat.le_trans ?_ (Nat.mul_le_mul_right _ h1))
        rw [← Nat.pow_add]
        exact Nat.pow_le_pow_right (by omega) (by omega)
      have h4 : 1 ≤ x <<< more / c := (Nat.le_div_iff_mul_le (by omega)).2 (by omega)
      have q5 : (x <<< more % c != 0).toNat ≤ 1 := by cases (x <<< more % c != 0) <;> decide
      omega
  have hD : x <<< more / c * c ≤ x * 2 ^ more := by rw [Nat.shiftLeft_eq]; exact Nat.div_mul_le_self _ _
  generalize hq2 : 2 * (x <<< more / c) + (x <<< more % c != 0).toNat = mag at hmag
  generalize x <<< more / c = q at hmag hD
  have hk0 : q * 2 ^ (i + eL).toNat * 2 ^ (g + eL) ≤ 2 ^ (e + eL) * (2 ^ more * 2 ^ (j + eL).toNat) := by
    calc q * 2 ^ (i + eL).toNat * 2 ^ (g + eL) ≤ q * 2 ^ (i + eL).toNat * (c * 2 ^ (j + eL).toNat) := Nat.mul_le_mul_left _ b2
      _ = q * c * (2 ^ (i + eL).toNat * 2 ^ (j + eL).toNat) := by
        generalize 2 ^ (i + eL).toNat = A
        generalize 2 ^ (j + eL).toNat = B
        rw [Nat.mul_assoc, Nat.mul_assoc, Nat.mul_left_comm A]
      _ ≤ x * 2 ^ more * (2 ^ (i + eL).toNat * 2 ^ (j + eL).toNat) := Nat.mul_le_mul_right _ hD
      _ = x * 2 ^ (i + eL).toNat * (2 ^ more * 2 ^ (j + eL).toNat) := by
        generalize 2 ^ (i + eL).toNat = A
        generalize 2 ^ (j + eL).toNat = B
        rw [Nat.mul_assoc, Nat.mul_assoc, Nat.mul_left_comm (2 ^ more)]
      _ ≤ 2 ^ (e + eL) * (2 ^ more * 2 ^ (j + eL).toNat) := Nat.mul_le_mul_right _ a2
  have hk : q * 2 ^ (i + eL).toNat * 2 ≤ 2 ^ (more + (j + eL).toNat + (e + 1 - g)) := by
    refine Nat.le_of_mul_le_mul_right ?_ (Nat.two_pow_pos (g + eL))
    have h1 : q * 2 ^ (i + eL).toNat * 2 * 2 ^ (g + eL) = q * 2 ^ (i + eL).toNat * 2 ^ (g + eL) * 2 := Nat.mul_right_comm _ _ _
    rw [h1]
    refine Nat.le_trans (Nat.mul_le_mul_right 2 hk0) (Nat.le_of_eq ?_)
    rw [← Nat.pow_add, ← Nat.pow_add, ← Nat.pow_add, pow2s, show e + eL + (more + (j + eL).toNat) + 1 = more + (j + eL).toNat + (e + 1 - g) + (g + eL) by omega]
  obtain ⟨m, p, h1, h2, h3, -⟩ := nearest_bp (u ^^ v) mag (i - j - more - 1) ((j + eL).toNat + more + 1) (e + 1 - g) (by omega) (by omega) (by
    rw [show (i - j - more - 1 + eL + (((j + eL).toNat + more + 1 : Nat) : Int)).toNat = (i + eL).toNat + eL by omega, Nat.pow_add]
    calc mag * (2 ^ (i + eL).toNat * 2 ^ eL) ≤ 4 * q * (2 ^ (i + eL).toNat * 2 ^ eL) := Nat.mul_le_mul_right _ hmag
      _ = 2 * (q * 2 ^ (i + eL).toNat * 2) * 2 ^ eL := by
        generalize 2 ^ (i + eL).toNat = A
        generalize 2 ^ eL = B
        rw [show (4 : Nat) = 2 * 2 from rfl, Nat.mul_assoc 2 2 q, Nat.mul_assoc 2 (2 * q), Nat.mul_assoc 2 (q * A * 2) B, Nat.mul_comm 2 q, Nat.mul_assoc q 2, Nat.mul_assoc q A 2, Nat.mul_assoc q (A * 2) B, Nat.mul_comm A 2, Nat.mul_assoc 2 A B]
      _ ≤ 2 * 2 ^ (more + (j + eL).toNat + (e + 1 - g)) * 2 ^ eL := Nat.mul_le_mul_right _ (Nat.mul_le_mul_left _ hk)
      _ = 2 ^ (e + 1 - g + eL) * 2 ^ ((j + eL).toNat + more + 1) := by
        rw [Nat.mul_comm 2, pow2s, ← Nat.pow_add, ← Nat.pow_add, show more + (j + eL).toNat + (e + 1 - g) + 1 + eL = e + 1 - g + eL + ((j + eL).toNat + more + 1) by omega])
  exact ⟨_, m, p, h1, h2, h3⟩

theorem B_divg {x y e g : Nat} (hx : Bp (cf .f64 x) e) (hy : Lbg (cf .f64 y) g) (hg : g ≤ e + 1) (he : e ≤ 900) : Bp (cf .f64 (fB .quo x y)) (e + 1 - g) := by
  have hb := div_bpg hx hy hg he
  have h : floatBits .quo .f64 x y = ((cf .f64 x).quotient 54 (cf .f64 y)).map FloatKind.f64.format.write := by unfold cf; rw [quo_canon]; rfl
  obtain ⟨h1, h2⟩ := fB_of h hb
  rw [h2]; exact hb

theorem Lbg_int (n g : Nat) (h1 : 2 ^ g ≤ n) (h2 : n ≤ 1048576) : Lbg (cf .f64 (floatOfInt .f64 n)) g := by
  obtain ⟨c, j, r1, r2, r3⟩ := exact_int Ieee.double (by decide) eL (by decide) (by decide) false n (by rw [p53]; omega)
  have hE := eL_eq
  refine ⟨false, c, j, ?_, by omega, ?_⟩
  · have : floatOfInt .f64 (n : Int) = Ieee.double.nearest false n 0 := by
      show Ieee.double.nearest (decide ((n : Int) < 0)) n 0 = _
      rw [decide_eq_false (by omega)]
    rw [this]
    show canon (Ieee.double.read (Ieee.double.nearest false n 0)) = _
    rw [r1]; rfl
  · rw [r3, Nat.pow_add]
    exact Nat.mul_le_mul_right _ h1

theorem mul_quarter {x y : Nat} (hx : Iv (cf .f64 x) 1) (hy : Bp (cf .f64 y) 3) : Bp (cf .f64 (fB .mul x y)) 1 := by
  have hE := eL_eq
  have hb : Bp (dmul (cf .f64 x) (cf .f64 y)) 1 := by
    obtain ⟨u, a, i, h1, h2, _, h4⟩ := hx
    obtain ⟨v, b, j, g1, g2, g3⟩ := hy
    rw [h1, g1]
    rw [Nat.one_mul] at h4
    obtain ⟨m, p, k1, k2, k3, -⟩ := nearest_bp (u ^^ v) (a * b) (i + j) eL 1 (by omega) (by omega) (by
      rw [show (i + j + eL + eL).toNat = (i + eL).toNat + (j + eL).toNat by omega, Nat.pow_add]
      have : a * b * (2 ^ (i + eL).toNat * 2 ^ (j + eL).toNat) = a * 2 ^ (i + eL).toNat * (b * 2 ^ (j + eL).toNat) := by
        generalize 2 ^ (i + eL).toNat = A
        generalize 2 ^ (j + eL).toNat = B
        rw [Nat.mul_assoc, Nat.mul_assoc, Nat.mul_left_comm b]
      rw [this, show 2 ^ (1 + eL) * 2 ^ eL = 2 ^ (eL - 2) * 2 ^ (3 + eL) by rw [← Nat.pow_add, ← Nat.pow_add, show 1 + eL + eL = eL - 2 + (3 + eL) by omega]]
      exact Nat.mul_le_mul h4 g3)
    exact ⟨_, m, p, k1, k2, k3⟩
  have h : floatBits .mul .f64 x y = ((cf .f64 x).product (cf .f64 y)).map FloatKind.f64.format.write := by unfold cf; rw [mul_canon]; rfl
  obtain ⟨h1, h2⟩ := fB_of h hb
  rw [h2]; exact hb

theorem dk_g (j : Nat) (h : j < 7) : Lbg (cf .f64 (dkB (8 - (j : Int)))) 4 := by
  have : ∃ n : Nat, 2 * (8 - (j : Int)) * (2 * (8 - (j : Int)) + 1) = n ∧ 2 ^ 4 ≤ n ∧ n ≤ 1048576 := by
    rcases (by omega : j = 0 ∨ j = 1 ∨ j = 2 ∨ j = 3 ∨ j = 4 ∨ j = 5 ∨ j = 6) with rfl | rfl | rfl | rfl | rfl | rfl | rfl
    · exact ⟨272, by decide⟩
    · exact ⟨210, by decide⟩
    · exact ⟨156, by decide⟩
    · exact ⟨110, by decide⟩
    · exact ⟨72, by decide⟩
    · exact ⟨42, by decide⟩
    · exact ⟨20, by decide⟩
  obtain ⟨n, h1, h2, h3⟩ := this
  unfold dkB
  rw [h1]
  exact Lbg_int n 4 h2 h3
theorem dk_7 : Lbg (cf .f64 (dkB (8 - ((7 : Nat) : Int)))) 2 := by
  have h1 : 2 * (8 - ((7 : Nat) : Int)) * (2 * (8 - ((7 : Nat) : Int)) + 1) = ((6 : Nat) : Int) := by decide
  unfold dkB
  rw [h1]
  exact Lbg_int 6 2 (by decide) (by decide)

theorem pB_tight {z : Nat} (hz : Bp (cf .f64 z) 2) (j : Nat) (hj : j ≤ 7) : Bp (cf .f64 (pB z j)) 1 := by
  induction j with
  | zero => exact bp_one.mono (by omega)
  | succ j ih =>
    have h1 := (B_mul hz (ih (by omega)) (by omega)).2
    have h2 := B_divg h1 (dk_g j (by omega)) (by omega) (by omega)
    exact (B_sub bp_one h2 (by omega)).2.1
theorem pB_tight8 {z : Nat} (hz : Bp (cf .f64 z) 2) : Bp (cf .f64 (pB z 8)) 3 := by
  have h1 := (B_mul hz (pB_tight hz 7 (by omega)) (by omega)).2
  have h2 := B_divg h1 dk_7 (by omega) (by omega)
  exact (B_sub (bp_one.mono (by omega)) h2 (by omega)).2.1

theorem sinB_tight {t : Nat} (h : Bp (cf .f64 t) 51) : Bp (cf .f64 (sinB t)) 4 := by
  have hx : Bp (cf .f64 (xB t)) 1 := mul_quarter (s2B_iv (s1B_iv (frB_iv h))) bp_turn
  have hz : Bp (cf .f64 (zB t)) 2 := (B_mul hx hx (by omega)).2
  have hr : Bp (cf .f64 (rB t)) 4 := (B_mul hx (pB_tight8 hz) (by omega)).2
  unfold sinB
  split
  · exact neg_bp hr
  · exact hr

theorem ph_tight {t : Nat} (h : Bp (cf .f64 t) 51) : Bp (cf .f64 (pC t)) 5 ∧ Bp (cf .f64 (pS t)) 5 ∧ Bp (cf .f64 (pNC t)) 5 ∧ Bp (cf .f64 (pNS t)) 5 := by
  have h1 : Bp (cf .f64 (pC t)) 4 := sinB_tight ((pG_bp h).2.mono (by omega))
  have h2 : Bp (cf .f64 (pS t)) 4 := sinB_tight ((pF_bp h).mono (by omega))
  exact ⟨h1.mono (by omega), h2.mono (by omega), (B_sub (bp_zero.mono (by omega)) h1 (by omega)).2.1, (B_sub (bp_zero.mono (by omega)) h2 (by omega)).2.1⟩

/-- A 32-bit number of at most 2 ^ e. -/
def Fs (b e : Nat) : Prop := ∃ s m p, FloatKind.f32.decode b = .number s m p ∧ -149 ≤ p ∧ m * 2 ^ (p + 149).toNat ≤ 2 ^ (e + 149)
theorem Fs.mono {b e e' : Nat} (h : Fs b e) (he : e ≤ e') : Fs b e' := by
  obtain ⟨s, m, p, h1, h2, h3⟩ := h
  exact ⟨s, m, p, h1, h2, Nat.le_trans h3 (Nat.pow_le_pow_right (by omega) (by omega))⟩

theorem nearest_fs (s : Bool) (mag : Nat) (place : Int) (T e : Nat) (hS : 0 ≤ place + 149 + T) (he : e ≤ 127) (h : mag * 2 ^ (place + 149 + T).toNat ≤ 2 ^ (e + 149) * 2 ^ T) :
    ∃ m p, FloatKind.f32.decode (FloatKind.f32.encode (.number s mag place)) = .number s m p ∧ -149 ≤ p ∧ m * 2 ^ (p + 149).toNat ≤ 2 ^ (e + 149) := by
  have e1 : (place + ((149 : Nat) + T : Nat)).toNat = (place + 149 + T).toNat := by omega
  have e2 : (Ieee.single.leastPlace + (((149 : Nat) + T : Nat) : Int)).toNat = T := by rw [single_lp]; omega
  have hk : (1 : Nat) < 2 ^ (Ieee.single.fractionBits + 1) := by decide
  obtain ⟨m, p, h1, h2, h3, -⟩ := nearest_read Ieee.single (by decide) s mag place (149 + T : Nat) (by omega) (by rw [single_lp]; omega) 1 (e + 149) hk
    (by rw [e1, e2, Nat.one_mul]; exact h) (by
      rw [Nat.one_mul]
      exact Nat.pow_lt_pow_right (by omega) (by rw [single_top]; omega))
  rw [single_lp] at h2
  have h3' := h3 1 (e + 149) (by decide) (by rw [e1, e2, Nat.one_mul]; exact h)
  rw [single_lp, Nat.one_mul, show (p - -149).toNat = (p + 149).toNat by omega] at h3'
  exact ⟨m, p, h1, h2, h3'⟩

theorem nB_fs {x e : Nat} (hx : Bp (cf .f64 x) e) (he : e ≤ 126) : Fs (nB x) e := by
  obtain ⟨s, m, p, h1, h2, h3⟩ := hx
  have hd' : FloatKind.f64.decode x = .number s m p := canon_number h1
  have hE := eL_eq
  have hJ := eJ_eq
  have hf := narrow_finite (s := s) h2 (by
    rw [show (p + 1074).toNat = (p + eL).toNat by omega]
    refine Nat.le_trans h3 ?_
    refine Nat.le_trans (Nat.pow_le_pow_right (by omega) (show e + eL ≤ 22 + eJ by omega)) ?_
    rw [Nat.pow_add]
    exact Nat.mul_le_mul_right _ (by decide))
  have hn : nB x = FloatKind.f32.encode (.number s m p) := by
    unfold nB floatToFloatBits
    rw [if_neg (by decide), hd']
    simp only [hf, Bool.false_eq_true, if_false]
    rfl
  obtain ⟨m', p', k1, k2, k3⟩ := nearest_fs s m p (eL - 149) e (by omega) (by omega) (by
    rw [show (p + 149 + ((eL - 149 : Nat) : Int)).toNat = (p + eL).toNat by omega, ← Nat.pow_add, show e + 149 + (eL - 149) = e + eL by omega]
    exact h3)
  rw [hn]
  exact ⟨s, m', p', k1, k2, k3⟩

theorem phR_fs {t : Nat} (h : Bp (cf .f64 t) 51) : Fs (phR t) 5 := by
  obtain ⟨h1, h2, h3, h4⟩ := ph_tight h
  unfold phR
  split
  · exact nB_fs h4 (by omega)
  · split
    · exact nB_fs h3 (by omega)
    · split
      · exact nB_fs h2 (by omega)
      · exact nB_fs h1 (by omega)
theorem phI_fs {t : Nat} (h : Bp (cf .f64 t) 51) : Fs (phI t) 5 := by
  obtain ⟨h1, h2, h3, h4⟩ := ph_tight h
  unfold phI
  split
  · exact nB_fs h1 (by omega)
  · split
    · exact nB_fs h4 (by omega)
    · split
      · exact nB_fs h3 (by omega)
      · exact nB_fs h2 (by omega)

/-- Widened. -/
def w8 (b : Nat) : Nat := (floatToFloatBits .f32 b .f64).getD 0
theorem w8_bp {b e : Nat} (h : Fs b e) (he : e ≤ 127) : floatToFloatBits .f32 b .f64 = some (w8 b) ∧ Bp (cf .f64 (w8 b)) e := by
  obtain ⟨s, m, p, hd, h1, h2⟩ := h
  obtain ⟨q0, q1, q2⟩ := read_single (show Ieee.single.read b = .number s m p from hd)
  have hE := eL_eq
  have e1 : floatToFloatBits .f32 b .f64 = some (FloatKind.f64.encode (.number s m p)) := by
    unfold floatToFloatBits
    rw [if_neg (by decide), hd]
    simp only [widen_finite q0 q1 q2, Bool.false_eq_true, if_false]
  have e2 : w8 b = FloatKind.f64.encode (.number s m p) := by unfold w8; rw [e1]; rfl
  refine ⟨by rw [e1, e2], ?_⟩
  have ez : (p + eL + ((0 : Nat) : Int)).toNat = (p + eL).toNat := by omega
  obtain ⟨k, q, g1, g2, g3, -⟩ := nearest_bp s m p 0 e (by omega) (by omega) (by
    rw [ez, Nat.pow_zero, Nat.mul_one, show (p + eL).toNat = (p + 149).toNat + (eL - 149) by omega, Nat.pow_add, show e + eL = e + 149 + (eL - 149) by omega, Nat.pow_add 2 (e + 149), ← Nat.mul_assoc]
    exact Nat.mul_le_mul_right _ h2)
  rw [e2]
  exact ⟨s, k, q, g1, g2, g3⟩

theorem run_w8 {P : Program} {b e : Nat} (h : Fs b e) (he : e ≤ 127) (src dst : TypeId) (hs : (P.underlying src).isSome = true) (hd : P.underlying dst = some (.float .f64)) (u : World) :
    (convert src dst (.float .f32 b)).run P u = .ok (.float .f64 (w8 b)) u := by
  rw [run_widen src dst hs hd b u]
  have e := (w8_bp h he).1
  have e1 : wb b u = w8 b := by unfold wb; rw [e]; rfl
  have e2 : wn b = 0 := by unfold wn; rw [e]; rfl
  rw [e1, e2, World.drewN_zero]

/-- A difference in 32 bits. -/
def sB (x y : Nat) : Nat := (floatBits .sub .f32 x y).getD 0
theorem sB_fs {x y e : Nat} (hx : Fs x e) (hy : Fs y e) (he : e ≤ 126) : floatBits .sub .f32 x y = some (sB x y) ∧ Fs (sB x y) (e + 1) := by
  obtain ⟨u, a, i, hx1, hx2, hx3⟩ := hx
  obtain ⟨v, b, j, hy1, hy2, hy3⟩ := hy
  have hf : floatBits .sub .f32 x y = some (FloatKind.f32.encode (.number (if signed u a (i - min i j).toNat + signed (!v) b (j - min i j).toNat = 0 then u && !v else decide (signed u a (i - min i j).toNat + signed (!v) b (j - min i j).toNat < 0)) (signed u a (i - min i j).toNat + signed (!v) b (j - min i j).toNat).natAbs (min i j))) := by
    show ((FloatKind.f32.decode x).sum (FloatKind.f32.decode y).opposite).map FloatKind.f32.format.write = _
    rw [hx1, hy1]; rfl
  generalize hD : Datum.number (if signed u a (i - min i j).toNat + signed (!v) b (j - min i j).toNat = 0 then u && !v else decide (signed u a (i - min i j).toNat + signed (!v) b (j - min i j).toNat < 0)) (signed u a (i - min i j).toNat + signed (!v) b (j - min i j).toNat).natAbs (min i j) = D at hf
  have hs : sB x y = FloatKind.f32.encode D := by unfold sB; rw [hf]; rfl
  refine ⟨by rw [hf, hs], ?_⟩
  rw [hs, ← hD]
  obtain ⟨m, p, k1, k2, k3⟩ := nearest_fs (if signed u a (i - min i j).toNat + signed (!v) b (j - min i j).toNat = 0 then u && !v else decide (signed u a (i - min i j).toNat + signed (!v) b (j - min i j).toNat < 0)) (signed u a (i - min i j).toNat + signed (!v) b (j - min i j).toNat).natAbs (min i j) 0 (e + 1) (by omega) (by omega) (by
    have hN : (signed u a (i - min i j).toNat + signed (!v) b (j - min i j).toNat).natAbs ≤ a * 2 ^ (i - min i j).toNat + b * 2 ^ (j - min i j).toNat := by
      unfold signed
      rw [Nat.shiftLeft_eq, Nat.shiftLeft_eq]
      split <;> split <;> omega
    refine Nat.le_trans (Nat.mul_le_mul_right _ hN) ?_
    rw [Nat.add_mul, Nat.mul_assoc, Nat.mul_assoc, ← Nat.pow_add, ← Nat.pow_add]
    rw [show (i - min i j).toNat + (min i j + 149 + (0 : Nat)).toNat = (i + 149).toNat by omega, show (j - min i j).toNat + (min i j + 149 + (0 : Nat)).toNat = (j + 149).toNat by omega]
    rw [show e + 1 + 149 = (e + 149) + 1 by omega, Nat.pow_succ]
    omega)
  exact ⟨_, m, p, k1, k2, k3⟩
theorem fs_zero : Fs 0 0 := ⟨false, 0, -149, by decide +kernel, by omega, by simp⟩
theorem fs_one : Fs 1065353216 0 := ⟨false, 8388608, -23, by decide +kernel, by omega, by decide⟩

def mulR (a b c d : Nat) : Nat := nB (fB .sub (fB .mul (w8 a) (w8 c)) (fB .mul (w8 b) (w8 d)))
def mulI (a b c d : Nat) : Nat := nB (fB .add (fB .mul (w8 a) (w8 d)) (fB .mul (w8 b) (w8 c)))

/-- All operations of a product. -/
structure MulFacts (a b c d e : Nat) : Prop where
  ac : floatBits .mul .f64 (w8 a) (w8 c) = some (fB .mul (w8 a) (w8 c))
  bd : floatBits .mul .f64 (w8 b) (w8 d) = some (fB .mul (w8 b) (w8 d))
  ad : floatBits .mul .f64 (w8 a) (w8 d) = some (fB .mul (w8 a) (w8 d))
  bc : floatBits .mul .f64 (w8 b) (w8 c) = some (fB .mul (w8 b) (w8 c))
  u : floatBits .sub .f64 (fB .mul (w8 a) (w8 c)) (fB .mul (w8 b) (w8 d)) = some (fB .sub (fB .mul (w8 a) (w8 c)) (fB .mul (w8 b) (w8 d)))
  v : floatBits .add .f64 (fB .mul (w8 a) (w8 d)) (fB .mul (w8 b) (w8 c)) = some (fB .add (fB .mul (w8 a) (w8 d)) (fB .mul (w8 b) (w8 c)))
  ub : Bp (cf .f64 (fB .sub (fB .mul (w8 a) (w8 c)) (fB .mul (w8 b) (w8 d)))) (e + 6)
  vb : Bp (cf .f64 (fB .add (fB .mul (w8 a) (w8 d)) (fB .mul (w8 b) (w8 c)))) (e + 6)

theorem mulFacts {a b c d e : Nat} (ha : Fs a 5) (hb : Fs b 5) (hc : Fs c e) (hd : Fs d e) (he : e ≤ 120) : MulFacts a b c d e := by
  have a' := (w8_bp ha (by omega)).2
  have b' := (w8_bp hb (by omega)).2
  have c' := (w8_bp hc (by omega)).2
  have d' := (w8_bp hd (by omega)).2
  have m1 := B_mul a' c' (by omega)
  have m2 := B_mul b' d' (by omega)
  have m3 := B_mul a' d' (by omega)
  have m4 := B_mul b' c' (by omega)
  have s1 := B_sub m1.2 m2.2 (by omega)
  have s2 := B_add m3.2 m4.2 (by omega)
  exact ⟨m1.1, m2.1, m3.1, m4.1, s1.1, s2.1, s1.2.1.mono (by omega), s2.2.1.mono (by omega)⟩
theorem mul_fs {a b c d e : Nat} (ha : Fs a 5) (hb : Fs b 5) (hc : Fs c e) (hd : Fs d e) (he : e ≤ 120) : Fs (mulR a b c d) (e + 6) ∧ Fs (mulI a b c d) (e + 6) := by
  have h := mulFacts ha hb hc hd he
  exact ⟨nB_fs h.ub (by omega), nB_fs h.vb (by omega)⟩

/-- The coefficients, real and imaginary. -/
def stepC (a b : Nat) (bef old : Nat × Nat) : Nat × Nat := (sB bef.1 (mulR a b old.1 old.2), sB bef.2 (mulI a b old.1 old.2))
def coR (zr zi : Nat → Nat) : Nat → Nat → Nat × Nat
  | 0, j => if j = 0 then (1065353216, 0) else (0, 0)
  | k + 1, j => stepC (zr k) (zi k) (if j = 0 then (0, 0) else if j - 1 ≤ k then coR zr zi k (j - 1) else (0, 0)) (if j ≤ k then coR zr zi k j else (0, 0))
/-- The row with a zero appended. -/
def oldC (zr zi : Nat → Nat) (k j : Nat) : Nat × Nat := if j ≤ k then coR zr zi k j else (0, 0)
theorem coR_zero (zr zi : Nat → Nat) (k : Nat) : coR zr zi (k + 1) 0 = stepC (zr k) (zi k) (0, 0) (oldC zr zi k 0) := rfl
theorem coR_succ (zr zi : Nat → Nat) (k j : Nat) : coR zr zi (k + 1) (j + 1) = stepC (zr k) (zi k) (oldC zr zi k j) (oldC zr zi k (j + 1)) := rfl

theorem coR_fs {zr zi : Nat → Nat} {n : Nat} (hz : ∀ j, j < n → Fs (zr j) 5 ∧ Fs (zi j) 5) (hn : n ≤ 15) (k : Nat) (hk : k ≤ n) (j : Nat) : Fs (coR zr zi k j).1 (7 * k) ∧ Fs (coR zr zi k j).2 (7 * k) := by
  induction k generalizing j with
  | zero =>
    unfold coR
    split
    · exact ⟨fs_one, fs_zero⟩
    · exact ⟨fs_zero, fs_zero⟩
  | succ k ih =>
    have hzk := hz k (by omega)
    have ho : ∀ j, Fs (oldC zr zi k j).1 (7 * k) ∧ Fs (oldC zr zi k j).2 (7 * k) := fun j => by
      unfold oldC
      split
      · exact ih (by omega) j
      · exact ⟨fs_zero.mono (by omega), fs_zero.mono (by omega)⟩
    have key : ∀ bef : Nat × Nat, Fs bef.1 (7 * k) ∧ Fs bef.2 (7 * k) → ∀ j, Fs (stepC (zr k) (zi k) bef (oldC zr zi k j)).1 (7 * (k + 1)) ∧ Fs (stepC (zr k) (zi k) bef (oldC zr zi k j)).2 (7 * (k + 1)) := fun bef hb j => by
      have hm := mul_fs hzk.1 hzk.2 (ho j).1 (ho j).2 (by omega)
      exact ⟨(sB_fs (hb.1.mono (by omega)) hm.1 (by omega)).2.mono (by omega), (sB_fs (hb.2.mono (by omega)) hm.2 (by omega)).2.mono (by omega)⟩
    cases j with
    | zero => rw [coR_zero]; exact key (0, 0) ⟨fs_zero.mono (by omega), fs_zero.mono (by omega)⟩ 0
    | succ j => rw [coR_succ]; exact key _ (ho j) (j + 1)
theorem oldC_fs {zr zi : Nat → Nat} {n : Nat} (hz : ∀ j, j < n → Fs (zr j) 5 ∧ Fs (zi j) 5) (hn : n ≤ 15) (k : Nat) (hk : k ≤ n) (j : Nat) : Fs (oldC zr zi k j).1 (7 * k) ∧ Fs (oldC zr zi k j).2 (7 * k) := by
  unfold oldC
  split
  · exact coR_fs hz hn k hk j
  · exact ⟨fs_zero.mono (by omega), fs_zero.mono (by omega)⟩

/-- Turns of a null. -/
def tuB (s u : Int) : Nat := fB .quo (floatOfInt .f64 (s * u)) 4661225614328463360
end Go.Proofs.Ytbmbgailhiepbaa
