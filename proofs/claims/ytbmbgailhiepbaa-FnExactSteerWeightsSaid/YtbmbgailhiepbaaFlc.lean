/- Floats up to the bits of a not-a-number: what Go's laws call the same. -/
import Derived.Test.YtbmbgailhiepbaaFl
import Derived.Deep.Draws
namespace Go.Proofs.Ytbmbgailhiepbaa
open Ieee

def nanD : Datum := .nan false 1
def canon : Datum → Datum
  | .nan .. => nanD
  | d => d
/-- A float's bits, but that all not-a-numbers are one. -/
def cf (k : FloatKind) (b : Nat) : Datum := canon (k.decode b)

theorem canon_nan {d : Datum} (h : d.isNaN = true) : canon d = nanD := by cases d <;> simp_all [Datum.isNaN, canon]
theorem canon_num {d : Datum} (h : d.isNaN = false) : canon d = d := by cases d <;> simp_all [Datum.isNaN, canon]
theorem isNaN_canon (d : Datum) : (canon d).isNaN = d.isNaN := by cases d <;> rfl

theorem order_nan_left {a b : Datum} (h : a.isNaN = true) : a.order b = none := by cases a <;> simp_all [Datum.isNaN, Datum.order]
theorem order_nan_right {a b : Datum} (h : b.isNaN = true) : a.order b = none := by cases b <;> simp_all [Datum.isNaN]; cases a <;> rfl
theorem order_self {a : Datum} (h : a.isNaN = false) : a.order a = some .eq := by
  cases a <;> simp_all [Datum.isNaN, Datum.order]
theorem order_zero {a : Datum} {s : Bool} {p : Int} (h : a.order (.number s 0 p) = some .eq) : ∃ t e, a = .number t 0 e := by
  cases a with
  | nan => simp [Datum.order] at h
  | infinity t => cases t <;> simp [Datum.order] at h
  | number t m e =>
    refine ⟨t, e, ?_⟩
    simp only [Datum.order, Option.some.injEq] at h
    have h2 := Int.compare_eq_eq.1 h
    have hm : m <<< (e - min e p).toNat = 0 := by
      unfold signed at h2
      generalize m <<< (e - min e p).toNat = q at h2 ⊢
      simp only [Nat.zero_shiftLeft] at h2
      cases t <;> cases s <;> simp at h2 <;> omega
    rw [Nat.shiftLeft_eq] at hm
    rcases Nat.mul_eq_zero.1 hm with h0 | h0
    · rw [h0]
    · have := Nat.two_pow_pos (e - min e p).toNat; omega

/-- Two floats that are the same: both not-a-numbers, or one datum. -/
theorem cf_cases {k : FloatKind} {x y : Nat} (h : cf k x = cf k y) : ((k.decode x).isNaN = true ∧ (k.decode y).isNaN = true) ∨ ((k.decode x).isNaN = false ∧ k.decode y = k.decode x) := by
  unfold cf at h
  cases hx : (k.decode x).isNaN with
  | true =>
    left
    refine ⟨rfl, ?_⟩
    rw [← isNaN_canon, ← h, isNaN_canon, hx]
  | false =>
    right
    have hy : (k.decode y).isNaN = false := by rw [← isNaN_canon, ← h, isNaN_canon, hx]
    rw [canon_num hx, canon_num hy] at h
    exact ⟨rfl, h.symm⟩

theorem one_f64 : FloatKind.f64.decode 4607182418800017408 = .number false 4503599627370496 (-52) := by decide +kernel
theorem zero_f64 : FloatKind.f64.decode 0 = .number false 0 (-1074) := by decide +kernel

/-- 1 divided by a zero is an infinity. -/
theorem one_over_zero {x : Nat} {t : Bool} {e : Int} (h : FloatKind.f64.decode x = .number t 0 e) : ∃ r, floatBits .quo .f64 4607182418800017408 x = some r ∧ FloatKind.f64.decode r = .infinity (false ^^ t) := by
  have h1 : FloatKind.f64.format.read 4607182418800017408 = .number false 4503599627370496 (-52) := one_f64
  have h2 : FloatKind.f64.format.read x = .number t 0 e := h
  refine ⟨FloatKind.f64.format.write (.infinity (false ^^ t)), ?_, ?_⟩
  · simp [floatBits, Format.div, h1, h2, Datum.quotient]
  · cases t <;> decide +kernel

/-- A 32-bit number's magnitude and place. -/
theorem read_single {b : Nat} {s : Bool} {m : Nat} {p : Int} (h : Ieee.single.read b = .number s m p) : m < 2 ^ 24 ∧ -149 ≤ p ∧ p ≤ 104 := by
  have hb : Ieee.single.binade = 8388608 := by decide
  have hi : Ieee.single.infRung = 2139095040 := by decide
  have hl : Ieee.single.leastPlace = -149 := by decide
  unfold Format.read at h
  simp only [hb, hi, hl] at h
  generalize b % Ieee.single.signWeight = rung at h
  split at h
  · simp only [Datum.number.injEq] at h
    obtain ⟨_, rfl, rfl⟩ := h
    omega
  · split at h
    · simp only [Datum.number.injEq] at h
      obtain ⟨_, rfl, rfl⟩ := h
      have h1 : rung / 8388608 ≤ 254 := by omega
      have h2 : rung % 8388608 < 8388608 := Nat.mod_lt _ (by omega)
      omega
    · split at h <;> simp at h

theorem read_double {b : Nat} {s : Bool} {m : Nat} {p : Int} (h : Ieee.double.read b = .number s m p) : m < 2 ^ 53 ∧ -1074 ≤ p ∧ p ≤ 971 := by
  have hb : Ieee.double.binade = 4503599627370496 := by decide
  have hi : Ieee.double.infRung = 9218868437227405312 := by decide
  have hl : Ieee.double.leastPlace = -1074 := by decide
  unfold Format.read at h
  simp only [hb, hi, hl] at h
  generalize b % Ieee.double.signWeight = rung at h
  split at h
  · simp only [Datum.number.injEq] at h
    obtain ⟨_, rfl, rfl⟩ := h
    omega
  · split at h
    · simp only [Datum.number.injEq] at h
      obtain ⟨_, rfl, rfl⟩ := h
      have h1 : rung / 4503599627370496 ≤ 2046 := by omega
      have h2 : rung % 4503599627370496 < 4503599627370496 := Nat.mod_lt _ (by omega)
      omega
    · split at h <;> simp at h

theorem double_lp : Ieee.double.leastPlace = -1074 := by decide
theorem double_top : Ieee.double.fractionBits + 2 ^ Ieee.double.exponentBits - 2 = 2098 := by decide
theorem single_top : Ieee.single.fractionBits + 2 ^ Ieee.single.exponentBits - 2 = 277 := by decide
theorem single_lp : Ieee.single.leastPlace = -149 := by decide

/-- A 32-bit number is no infinity in 64 bits. -/
theorem widen_finite {s : Bool} {m : Nat} {p : Int} (hm : m < 2 ^ 24) (h1 : -149 ≤ p) (h2 : p ≤ 104) : (FloatKind.f64.decode (FloatKind.f64.encode (.number s m p))).isInfinity = false := by
  obtain ⟨m', p', h, _⟩ := nearest_read Ieee.double (by decide) s m p 1074 (by omega) (by rw [double_lp]; omega) m (p + 1074).toNat
    (Nat.lt_of_lt_of_le hm (Nat.pow_le_pow_right (by omega) (by decide)))
    (by rw [double_lp]; simp) (by
      have a : m * 2 ^ (p + 1074).toNat < 2 ^ 24 * 2 ^ (p + 1074).toNat := Nat.mul_lt_mul_of_pos_right hm (Nat.two_pow_pos _)
      refine Nat.lt_of_lt_of_le a ?_
      rw [← Nat.pow_add]
      exact Nat.pow_le_pow_right (by omega) (by have := double_top; omega))
  have : FloatKind.f64.decode (FloatKind.f64.encode (.number s m p)) = .number s m' p' := h
  rw [this]
  rfl

/-- What a conversion from 32 to 64 bits gives, up to the bits of a not-a-number. -/
def wid : Datum → Datum
  | .nan .. => nanD
  | d => canon (FloatKind.f64.decode (FloatKind.f64.encode d))
theorem wid_canon (d : Datum) : wid (canon d) = wid d := by cases d <;> rfl

def wb (b : Nat) (w : World) : Nat := (floatToFloatBits .f32 b .f64).getD ((Question.nanConv .f64 b).cut (w.tape w.drawn (.nanConv .f64 b)))
def wn (b : Nat) : Nat := if (floatToFloatBits .f32 b .f64).isSome then 0 else 1

theorem nanConv64_nan (b t : Nat) : (FloatKind.f64.decode ((Question.nanConv .f64 b).cut t)).isNaN = true := by
  show (Ieee.double.read ((t % 2) * 2 ^ 63 + 0x7ff0000000000000 + 1 + (t / 2) % (2 ^ 52 - 1))).isNaN = true
  have hb : Ieee.double.binade = 4503599627370496 := by decide
  have hi : Ieee.double.infRung = 9218868437227405312 := by decide
  have hs : Ieee.double.signWeight = 9223372036854775808 := by decide
  unfold Format.read
  simp only [hb, hi, hs]
  have h1 : (t / 2) % (2 ^ 52 - 1) < 2 ^ 52 - 1 := Nat.mod_lt _ (by decide)
  have h2 : t % 2 < 2 := Nat.mod_lt _ (by decide)
  generalize (t / 2) % (2 ^ 52 - 1) = u at h1 ⊢
  generalize t % 2 = v at h2 ⊢
  have e : (v * 2 ^ 63 + 0x7ff0000000000000 + 1 + u) % 9223372036854775808 = 0x7ff0000000000000 + 1 + u := by omega
  rw [e, if_neg (by omega), if_neg (by omega), if_neg (by omega)]
  rfl

theorem wb_cf (b : Nat) (w : World) : cf .f64 (wb b w) = wid (cf .f32 b) := by
  unfold wb cf
  rw [wid_canon]
  unfold floatToFloatBits
  rw [if_neg (by decide)]
  cases hd : FloatKind.f32.decode b with
  | nan s t =>
    simp only [Option.getD_none]
    rw [canon_nan (nanConv64_nan _ _)]
    rfl
  | infinity s => simp only [Option.getD_some]; rfl
  | number s m p =>
    obtain ⟨h1, h2, h3⟩ := read_single hd
    simp only [widen_finite h1 h2 h3, Bool.false_eq_true, if_false, Option.getD_some]
    rfl

theorem run_widen {P : Program} (src dst : TypeId) (hs : (P.underlying src).isSome = true) (hd : P.underlying dst = some (.float .f64)) (b : Nat) (w : World) :
    (convert src dst (.float .f32 b)).run P w = .ok (.float .f64 (wb b w)) (w.drewN (wn b)) := by
  obtain ⟨u, hs'⟩ := Option.isSome_iff_exists.1 hs
  unfold wb wn floatToFloatBits
  rw [if_neg (by decide)]
  cases hd' : FloatKind.f32.decode b with
  | nan s t =>
    cases u <;> simp [convert, run_underlying hs', run_underlying hd, Conv.floatToFloat, hd', choose, Sem.run, Question.forced, World.drewN, Result.andThen]
  | infinity s =>
    cases u <;> simp [convert, run_underlying hs', run_underlying hd, Conv.floatToFloat, hd', World.drewN_zero]
  | number s m p =>
    obtain ⟨h1, h2, h3⟩ := read_single hd'
    have hf := widen_finite (s := s) h1 h2 h3
    cases u <;> simp [convert, run_underlying hs', run_underlying hd, Conv.floatToFloat, hd', hf, World.drewN_zero]
end Go.Proofs.Ytbmbgailhiepbaa
