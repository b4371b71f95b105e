/- The marks of complex slices: a whole number in 64 bits, narrowed. -/
import Derived.Test.YtbmbgailhiepbaaNarrow
import Derived.Test.YtbmbgailhiepbaaFlq
namespace Go.Proofs.Ytbmbgailhiepbaa
open Ieee

/-- A mark: a whole number as float32, by way of float64. -/
def kb (k : Int) : Nat := (floatToFloatBits .f64 (floatOfInt .f64 k) .f32).getD 0

theorem mark_read (k : Int) (h0 : 0 ≤ k) (h1 : k ≤ 2199023255552) : ∃ m p, FloatKind.f64.decode (floatOfInt .f64 k) = .number false m p ∧ -1074 ≤ p ∧ m * 2 ^ (p + 1074).toNat ≤ 16777215 * 2 ^ eJ := by
  obtain ⟨n, rfl⟩ := Int.eq_ofNat_of_zero_le h0
  obtain ⟨c, j, r1, r2, r3⟩ := exact_int Ieee.double (by decide) eL (by decide) (by decide) false n (by rw [p53]; omega)
  have e : floatOfInt .f64 (n : Int) = Ieee.double.nearest false n 0 := by
    show Ieee.double.nearest (decide ((n : Int) < 0)) n 0 = _
    rw [decide_eq_false (by omega)]
  have hE := eL_eq
  refine ⟨c, j, by rw [e]; exact r1, by omega, ?_⟩
  have e2 : (j + 1074).toNat = (j + (eL : Int)).toNat := by omega
  rw [e2, r3]
  have e3 : 2 ^ eJ = 2 ^ 104 * 2 ^ eL := by rw [← Nat.pow_add]; congr 1
  rw [e3, ← Nat.mul_assoc]
  refine Nat.mul_le_mul_right _ ?_
  have : (2199023255552 : Nat) ≤ 16777215 * 2 ^ 104 := by decide
  omega

theorem kb_some (k : Int) (h0 : 0 ≤ k) (h1 : k ≤ 2199023255552) : floatToFloatBits .f64 (floatOfInt .f64 k) .f32 = some (kb k) := by
  obtain ⟨m, p, h, a, b⟩ := mark_read k h0 h1
  have e : floatToFloatBits .f64 (floatOfInt .f64 k) .f32 = some (FloatKind.f32.encode (.number false m p)) := by
    unfold floatToFloatBits
    rw [if_neg (by decide), h]
    simp only [narrow_finite a b, Bool.false_eq_true, if_false]
  unfold kb
  rw [e]
  rfl

theorem kb_self (k : Int) (h0 : 0 ≤ k) (h1 : k ≤ 2199023255552) : (FloatKind.f32.format.order (kb k) (kb k) == some .eq) = true := by
  obtain ⟨m, p, h, a, b⟩ := mark_read k h0 h1
  have hs := kb_some k h0 h1
  have e : kb k = FloatKind.f32.encode (.number false m p) := by
    have e : floatToFloatBits .f64 (floatOfInt .f64 k) .f32 = some (FloatKind.f32.encode (.number false m p)) := by
      unfold floatToFloatBits
      rw [if_neg (by decide), h]
      simp only [narrow_finite a b, Bool.false_eq_true, if_false]
    rw [e] at hs
    exact (Option.some.inj hs).symm
  rw [e]
  have hk : (16777215 : Nat) < 2 ^ (Ieee.single.fractionBits + 1) := by decide
  have hn : (FloatKind.f32.format.read (FloatKind.f32.encode (.number false m p))).isNaN = false := write_some FloatKind.f32.format rfl
  have := order_self hn
  show (((FloatKind.f32.format.read (FloatKind.f32.encode (.number false m p))).order (FloatKind.f32.format.read (FloatKind.f32.encode (.number false m p)))) == some .eq) = true
  rw [this]; rfl

theorem one_self : (FloatKind.f32.format.order 1065353216 1065353216 == some .eq) = true := by decide +kernel

theorem run_mark {P : Program} (src dst : TypeId) (hs : (P.underlying src).isSome = true) (hd : P.underlying dst = some (.complex .f32)) (k : Int) (h0 : 0 ≤ k) (h1 : k ≤ 2199023255552) (w : World) :
    (convert src dst (.complex .f64 (floatOfInt .f64 k) 4607182418800017408)).run P w = .ok (.complex .f32 (kb k) 1065353216) w := by
  obtain ⟨u, hs'⟩ := Option.isSome_iff_exists.1 hs
  have one : floatToFloatBits .f64 4607182418800017408 .f32 = some 1065353216 := by decide +kernel
  have q1 : ∀ w, (Conv.floatToFloat .f64 (floatOfInt .f64 k) .f32).run P w = .ok (.float .f32 (kb k)) w := fun w => by
    obtain ⟨m, p, h, a, b⟩ := mark_read k h0 h1
    have hs := kb_some k h0 h1
    unfold floatToFloatBits at hs
    rw [if_neg (by decide), h] at hs
    simp only [narrow_finite a b, Bool.false_eq_true, if_false, Option.some.injEq] at hs
    have hf := narrow_finite (s := false) a b
    rw [hs] at hf
    simp [Conv.floatToFloat, h, hs, hf]
  have q2 : ∀ w, (Conv.floatToFloat .f64 4607182418800017408 .f32).run P w = .ok (.float .f32 1065353216) w := fun w => by
    have h : FloatKind.f64.decode 4607182418800017408 = .number false 4503599627370496 (-52) := one_f64
    have h2 : FloatKind.f32.encode (.number false 4503599627370496 (-52)) = 1065353216 := by decide +kernel
    have h3 : (FloatKind.f32.decode 1065353216).isInfinity = false := by decide +kernel
    simp [Conv.floatToFloat, h, h2, h3]
  cases u <;> simp [convert, run_underlying hs', run_underlying hd, Conv.complexToComplex, q1, q2]
end Go.Proofs.Ytbmbgailhiepbaa
