/- The tapers' elements, on bits. -/
import Derived.Test.YtbmbgailhiepbaaPhP
import Derived.Test.YtbmbgailhiepbaaFlq
namespace Go.Proofs.Ytbmbgailhiepbaa
open Ieee

def gB (op : BinOp) (x y : Nat) : Nat := (floatBits op .f32 x y).getD 0

/-- Ways to choose j of n - 1, as both reckon them. -/
def ch (n : Int) : Nat → Int
  | 0 => 1
  | j + 1 => ch n j * (n - 1 - (j : Int)) / ((j : Int) + 1)
/-- The greatest of the first j + 1. -/
def mx (n : Int) : Nat → Int
  | 0 => 1
  | j + 1 => max (mx n j) (ch n (j + 1))

theorem ch_all : ∀ n : Nat, n < 17 → 1 ≤ n → mx n (n - 1) = ch n ((n - 1) / 2) ∧ (∀ j : Nat, j < n → 1 ≤ ch n j ∧ ch n j ≤ 12870 ∧ 0 ≤ ch n j * ((n : Int) - 1 - (j : Int)) ∧ ch n j * ((n : Int) - 1 - (j : Int)) ≤ 1000000 ∧ 1 ≤ mx n j ∧ mx n j ≤ 12870) := by decide +kernel

def e1 (n j : Nat) : Nat := gB .quo (gB .mul 1073741824 (floatOfInt .f32 (min ((j : Int) + 1) ((n : Int) - (j : Int))))) (floatOfInt .f32 ((n : Int) + 1))
def e3 (n j : Nat) : Nat := gB .quo (floatOfInt .f32 (ch n j)) (floatOfInt .f32 (mx n (n - 1)))

theorem e1_all : ∀ n : Nat, n < 17 → 1 ≤ n → ∀ j : Nat, j < n → floatBits .mul .f32 1073741824 (floatOfInt .f32 (min ((j : Int) + 1) ((n : Int) - (j : Int)))) = some (gB .mul 1073741824 (floatOfInt .f32 (min ((j : Int) + 1) ((n : Int) - (j : Int))))) ∧
    floatBits .quo .f32 (gB .mul 1073741824 (floatOfInt .f32 (min ((j : Int) + 1) ((n : Int) - (j : Int))))) (floatOfInt .f32 ((n : Int) + 1)) = some (e1 n j) ∧ FloatKind.f32.format.order (e1 n j) (e1 n j) = some .eq := by decide +kernel
theorem e3_all : ∀ n : Nat, n < 17 → 1 ≤ n → ∀ j : Nat, j < n → floatBits .quo .f32 (floatOfInt .f32 (ch n j)) (floatOfInt .f32 (mx n (n - 1))) = some (e3 n j) ∧ FloatKind.f32.format.order (e3 n j) (e3 n j) = some .eq := by decide +kernel

/-- Turns. -/
def tB (n j : Nat) : Nat := fB .quo (floatOfInt .f64 ((j : Int) + 1)) (floatOfInt .f64 ((n : Int) + 1))
theorem int_bp (n : Nat) (h : n ≤ 1048576) : Bp (cf .f64 (floatOfInt .f64 n)) 20 := by
  obtain ⟨c, j, r1, r2, r3⟩ := exact_int Ieee.double (by decide) eL (by decide) (by decide) false n (by rw [p53]; omega)
  have hE := eL_eq
  refine ⟨false, c, j, ?_, by omega, ?_⟩
  · have : floatOfInt .f64 (n : Int) = Ieee.double.nearest false n 0 := by
      show Ieee.double.nearest (decide ((n : Int) < 0)) n 0 = _
      rw [decide_eq_false (by omega)]
    rw [this]
    show canon (Ieee.double.read (Ieee.double.nearest false n 0)) = _
    rw [r1]; rfl
  · rw [r3, Nat.pow_add]
    exact Nat.mul_le_mul_right _ h
theorem tB_all (n j : Nat) (hn : n < 17) (hj : j < n) : floatBits .quo .f64 (floatOfInt .f64 ((j : Int) + 1)) (floatOfInt .f64 ((n : Int) + 1)) = some (tB n j) ∧ Bp (cf .f64 (tB n j)) 51 := by
  have h1 := int_bp (j + 1) (by omega)
  have h2 := Lb_int (n + 1) (by omega) (by omega)
  rw [show ((j + 1 : Nat) : Int) = (j : Int) + 1 by omega] at h1
  rw [show ((n + 1 : Nat) : Int) = (n : Int) + 1 by omega] at h2
  have h3 := B_div h1 h2 (by omega)
  exact ⟨h3.1, h3.2.mono (by omega)⟩

/-- A narrowed number is a number. -/
theorem nB_number {x e : Nat} (hx : Bp (cf .f64 x) e) (he : e ≤ 126) : ∃ s m p, FloatKind.f32.decode (nB x) = .number s m p := by
  obtain ⟨s, m, p, h1, h2, h3⟩ := hx
  have hd' : FloatKind.f64.decode x = .number s m p := canon_number h1
  have hE := eL_eq
  have hJ := eJ_eq
  have hf := narrow_finite (s := s) h2 (by
    rw [show (p + 1074).toNat = (p + eL).toNat by omega]
    refine Nat.le_trans h3 ?_
    refine Nat.le_trans (Nat.pow_le_pow_right (by omega) (show e + eL ≤ 22 + eJ by omega)) ?_
    rw [Nat.pow_add]
    exact Nat.mul_le_mul_right _ (by decide))
  have e : nB x = FloatKind.f32.encode (.number s m p) := by
    unfold nB floatToFloatBits
    rw [if_neg (by decide), hd']
    simp [hf]
  have hn : (FloatKind.f32.decode (nB x)).isNaN = false := by rw [e]; exact write_some FloatKind.f32.format rfl
  have hi : (FloatKind.f32.decode (nB x)).isInfinity = false := by rw [e]; exact hf
  cases hd : FloatKind.f32.decode (nB x) with
  | number s m p => exact ⟨s, m, p, rfl⟩
  | infinity s => rw [hd] at hi; simp [Datum.isInfinity] at hi
  | nan s t => rw [hd] at hn; simp [Datum.isNaN] at hn

theorem phR_number {t : Nat} (h : Bp (cf .f64 t) 51) : ∃ s m p, FloatKind.f32.decode (phR t) = .number s m p := by
  obtain ⟨h1, h2, _, h3, _, h4⟩ := p_bp h
  unfold phR
  split
  · exact nB_number h4 (by omega)
  · split
    · exact nB_number h3 (by omega)
    · split
      · exact nB_number h2 (by omega)
      · exact nB_number h1 (by omega)

theorem half_f32 : FloatKind.f32.decode 1056964608 = .number false 8388608 (-24) := by decide +kernel
theorem two_f32' : FloatKind.f32.decode 1073741824 = .number false 8388608 (-22) := by decide +kernel

/-- Half of a number, by division and by multiplication. -/
theorem half_same {x : Nat} {s : Bool} {m : Nat} {p : Int} (h : FloatKind.f32.decode x = .number s m p) :
    floatBits .quo .f32 x 1073741824 = some (gB .mul 1056964608 x) ∧ floatBits .mul .f32 1056964608 x = some (gB .mul 1056964608 x) := by
  have hm24 := (read_single h).1
  have hmul : floatBits .mul .f32 1056964608 x = some (FloatKind.f32.format.nearest (false ^^ s) (8388608 * m) (-24 + p)) := by
    show ((FloatKind.f32.decode 1056964608).product (FloatKind.f32.decode x)).map FloatKind.f32.format.write = _
    rw [half_f32, h]; rfl
  have hq : floatBits .quo .f32 x 1073741824 = some (FloatKind.f32.format.nearest (s ^^ false) (2 * (m <<< (25 + Nat.log2 8388608 - m.log2) / 8388608) + (m <<< (25 + Nat.log2 8388608 - m.log2) % 8388608 != 0).toNat) (p - -22 - (25 + Nat.log2 8388608 - m.log2 : Nat) - 1)) := by
    show ((FloatKind.f32.decode x).quotient 25 (FloatKind.f32.decode 1073741824)).map FloatKind.f32.format.write = _
    rw [two_f32', h]; rfl
  have hl : Nat.log2 8388608 = 23 := by decide
  have hlm : m.log2 ≤ 23 := by
    by_cases h0 : m = 0
    · subst h0; decide
    · have := (Nat.log2_lt h0).2 hm24; omega
  rw [hl] at hq
  generalize hM : 25 + 23 - m.log2 = more at hq
  have hdv : m <<< more = m * 2 ^ (more - 23) * 8388608 := by
    rw [Nat.shiftLeft_eq, show (8388608 : Nat) = 2 ^ 23 from rfl, Nat.mul_assoc, ← Nat.pow_add, show more - 23 + 23 = more by omega]
  rw [hdv, Nat.mul_div_cancel _ (by decide), Nat.mul_mod_left] at hq
  have hz : ((0 : Nat) != 0).toNat = 0 := rfl
  rw [hz, Nat.add_zero] at hq
  have key : FloatKind.f32.format.nearest (s ^^ false) (2 * (m * 2 ^ (more - 23))) (p - -22 - more - 1) = FloatKind.f32.format.nearest (false ^^ s) (8388608 * m) (-24 + p) := by
    rw [Bool.xor_false, Bool.false_xor]
    have hS : ∃ S : Int, 0 ≤ p - -22 - more - 1 + S ∧ 0 ≤ -24 + p + S := ⟨p.natAbs + more + 100, by omega, by omega⟩
    obtain ⟨S, s1, s2⟩ := hS
    refine nearest_value _ s _ _ _ _ S s1 s2 ?_
    rw [show (8388608 : Nat) = 2 ^ 23 from rfl, Nat.mul_comm (2 ^ 23) m, Nat.mul_assoc m, ← Nat.pow_add, Nat.mul_comm 2, Nat.mul_assoc m, ← Nat.pow_succ, Nat.mul_assoc m, ← Nat.pow_add]
    congr 2
    omega
  have hg : gB .mul 1056964608 x = FloatKind.f32.format.nearest (false ^^ s) (8388608 * m) (-24 + p) := by unfold gB; rw [hmul]; rfl
  rw [hg]
  exact ⟨by rw [hq, key], hmul⟩

theorem sub_some {x y : Nat} {s : Bool} {m : Nat} {p : Int} (hx : FloatKind.f32.decode x = .number s m p) (hy : (FloatKind.f32.decode y).isNaN = false) :
    floatBits .sub .f32 x y = some (gB .sub x y) ∧ FloatKind.f32.format.order (gB .sub x y) (gB .sub x y) = some .eq := by
  have h : ∃ d, (FloatKind.f32.decode x).sum (FloatKind.f32.decode y).opposite = some d ∧ d.isNaN = false := by
    rw [hx]
    cases hd : FloatKind.f32.decode y with
    | nan => rw [hd] at hy; simp [Datum.isNaN] at hy
    | infinity t => exact ⟨_, rfl, rfl⟩
    | number t n q => exact ⟨_, rfl, rfl⟩
  obtain ⟨d, h1, h2⟩ := h
  have hf : floatBits .sub .f32 x y = some (FloatKind.f32.format.write d) := by
    show ((FloatKind.f32.decode x).sum (FloatKind.f32.decode y).opposite).map FloatKind.f32.format.write = _
    rw [h1]; rfl
  have hg : gB .sub x y = FloatKind.f32.format.write d := by unfold gB; rw [hf]; rfl
  rw [hg]
  refine ⟨hf, ?_⟩
  show (FloatKind.f32.format.read (FloatKind.f32.format.write d)).order (FloatKind.f32.format.read (FloatKind.f32.format.write d)) = _
  exact order_self (write_some _ h2)

def e2 (n j : Nat) : Nat := gB .sub 1056964608 (gB .mul 1056964608 (phR (tB n j)))
theorem e2_all (n j : Nat) (hn : n < 17) (hj : j < n) : floatBits .quo .f32 (phR (tB n j)) 1073741824 = some (gB .mul 1056964608 (phR (tB n j))) ∧ floatBits .mul .f32 1056964608 (phR (tB n j)) = some (gB .mul 1056964608 (phR (tB n j))) ∧
    floatBits .sub .f32 1056964608 (gB .mul 1056964608 (phR (tB n j))) = some (e2 n j) ∧ FloatKind.f32.format.order (e2 n j) (e2 n j) = some .eq := by
  obtain ⟨s, m, p, h⟩ := phR_number (tB_all n j hn hj).2
  obtain ⟨h1, h2⟩ := half_same h
  have hN : (FloatKind.f32.decode (gB .mul 1056964608 (phR (tB n j)))).isNaN = false := by
    have hmul : floatBits .mul .f32 1056964608 (phR (tB n j)) = some (FloatKind.f32.format.write (.number (false ^^ s) (8388608 * m) (-24 + p))) := by
      show ((FloatKind.f32.decode 1056964608).product (FloatKind.f32.decode (phR (tB n j)))).map FloatKind.f32.format.write = _
      rw [half_f32, h]; rfl
    have hg : gB .mul 1056964608 (phR (tB n j)) = FloatKind.f32.format.write (.number (false ^^ s) (8388608 * m) (-24 + p)) := by unfold gB; rw [hmul]; rfl
    rw [hg]
    exact write_some _ rfl
  have h3 := sub_some half_f32 hN
  exact ⟨h1, h2, h3.1, h3.2⟩

/-- A taper's element. -/
def el (k : Int) (n j : Nat) : Nat := if k = 0 then 1065353216 else if k = 1 then e1 n j else if k = 2 then e2 n j else e3 n j
theorem el_self (k : Int) (n j : Nat) (hn : n < 17) (h1 : 1 ≤ n) (hj : j < n) : FloatKind.f32.format.order (el k n j) (el k n j) = some .eq := by
  unfold el
  split
  · decide +kernel
  · split
    · exact (e1_all n hn h1 j hj).2.2
    · split
      · exact (e2_all n j hn hj).2.2.2
      · exact (e3_all n hn h1 j hj).2
end Go.Proofs.Ytbmbgailhiepbaa
