/- Counters in floats, for the logarithm. -/
import Derived.Test.YtjihbkhmkepohaaLogQ
namespace Go.Proofs.Ytjihbkhmkepohaa
open Ieee

theorem cnt_add : ∀ j : Nat, j < 201 → floatBits .add .f64 (floatOfInt .f64 j) 4607182418800017408 = some (floatOfInt .f64 ((j : Int) + 1)) := by decide +kernel
theorem cnt_sub0 : ∀ j : Nat, j < 621 → floatBits .sub .f64 (floatOfInt .f64 (200 - (j : Int))) 4607182418800017408 = some (floatOfInt .f64 (200 - (j : Int) - 1)) := by decide +kernel
theorem cnt_iB0 : ∀ j : Nat, j < 622 → iB (floatOfInt .f64 (201 - (j : Int))) = 201 - (j : Int) := by decide +kernel
theorem cnt_two : ∀ j : Nat, j < 13 → floatBits .sub .f64 (floatOfInt .f64 (25 - 2 * (j : Int))) 4611686018427387904 = some (floatOfInt .f64 (25 - 2 * ((j : Int) + 1))) ∧
    (FloatKind.f64.format.order (floatOfInt .f64 (25 - 2 * (j : Int))) 4607182418800017408 == some .gt || FloatKind.f64.format.order (floatOfInt .f64 (25 - 2 * (j : Int))) 4607182418800017408 == some .eq) = true := by decide +kernel
theorem cnt_end : (FloatKind.f64.format.order (floatOfInt .f64 (25 - 2 * ((13 : Nat) : Int))) 4607182418800017408 == some .gt || FloatKind.f64.format.order (floatOfInt .f64 (25 - 2 * ((13 : Nat) : Int))) 4607182418800017408 == some .eq) = false := by decide +kernel
theorem cnt_begin : floatOfInt .f64 (25 - 2 * ((0 : Nat) : Int)) = 4627730092099895296 := by decide +kernel
theorem cnt_zero : floatOfInt .f64 ((0 : Nat) : Int) = 0 := by decide +kernel

theorem cnt_sub (i : Int) (h1 : -420 ≤ i) (h2 : i ≤ 200) : floatBits .sub .f64 (floatOfInt .f64 i) 4607182418800017408 = some (floatOfInt .f64 (i - 1)) := by
  have := cnt_sub0 (200 - i).toNat (by omega)
  rw [show 200 - (((200 - i).toNat : Nat) : Int) = i by omega] at this
  exact this
theorem cnt_iB (i : Int) (h1 : -420 ≤ i) (h2 : i ≤ 201) : iB (floatOfInt .f64 i) = i := by
  have := cnt_iB0 (201 - i).toNat (by omega)
  rw [show 201 - (((201 - i).toNat : Nat) : Int) = i by omega] at this
  exact this
def flN : Value → Nat
  | .float _ b => b
  | _ => 0

theorem flN_float (k : FloatKind) (b : Nat) : flN (.float k b) = b := rfl

theorem dnF_yes {k y : Nat} (h : ge15 y = true) : dnF (k + 1) y = dnF k (fB .quo y 4611686018427387904) ∧ dnN (k + 1) y = 1 + dnN k (fB .quo y 4611686018427387904) := by
  constructor
  · rw [dnF, if_pos h]
  · rw [dnN, if_pos h]
theorem dnF_no {k y : Nat} (h : ge15 y = false) : dnF k y = y ∧ dnN k y = 0 := by
  cases k with
  | zero => exact ⟨rfl, rfl⟩
  | succ k =>
    constructor
    · rw [dnF, if_neg (by rw [h]; decide)]
    · rw [dnN, if_neg (by rw [h]; decide)]
theorem upF_yes {k y : Nat} (h : lt75 y = true) : upF (k + 1) y = upF k (fB .mul y 4611686018427387904) ∧ upN (k + 1) y = 1 + upN k (fB .mul y 4611686018427387904) := by
  constructor
  · rw [upF, if_pos h]
  · rw [upN, if_pos h]
theorem upF_no {k y : Nat} (h : lt75 y = false) : upF k y = y ∧ upN k y = 0 := by
  cases k with
  | zero => exact ⟨rfl, rfl⟩
  | succ k =>
    constructor
    · rw [upF, if_neg (by rw [h]; decide)]
    · rw [upN, if_neg (by rw [h]; decide)]

/-- The first loop's state. -/
def In1 (X N j y : Nat) : Prop := j ≤ 128 ∧ Pw (cf .f64 y) (eA - j) (eB - j) ∧ X = dnF (200 - j) y ∧ N = j + dnN (200 - j) y
theorem In1.step {X N j y : Nat} (h : In1 X N j y) (hg : ge15 y = true) : floatBits .quo .f64 y 4611686018427387904 = some (fB .quo y 4611686018427387904) ∧ In1 X N (j + 1) (fB .quo y 4611686018427387904) := by
  obtain ⟨h1, h2, h3, h4⟩ := h
  have hE := eL_eq
  have hA := eA_eq
  have hB := eB_eq
  obtain ⟨r1, r2, r3⟩ := dn_round (a := eA - (j + 1)) (by rw [show eA - (j + 1) + 1 = eA - j by omega]; exact h2) (by omega) hg
  obtain ⟨q1, q2⟩ := dnF_yes (k := 200 - (j + 1)) hg
  rw [show 200 - (j + 1) + 1 = 200 - j by omega] at q1 q2
  refine ⟨r2, by omega, by rw [show eB - (j + 1) = eB - j - 1 by omega]; exact r3, by rw [h3, q1], by rw [h4, q2]; omega⟩
theorem In1.stop {X N j y : Nat} (h : In1 X N j y) (hg : ge15 y = false) : y = X ∧ j = N ∧ N ≤ 128 := by
  obtain ⟨h1, h2, h3, h4⟩ := h
  obtain ⟨q1, q2⟩ := dnF_no (k := 200 - j) hg
  exact ⟨by rw [h3, q1], by omega, by omega⟩
theorem In1.start {x : Nat} (h : Pw (cf .f64 x) eA eB) : In1 (dnF 200 x) (dnN 200 x) 0 x := ⟨by omega, h, rfl, by simp⟩

/-- The second loop's state. -/
def In2 (X N j y : Nat) : Prop := j ≤ 349 ∧ Pw (cf .f64 y) (725 + j) (eL + 1) ∧ X = upF (400 - j) y ∧ N = j + upN (400 - j) y
theorem In2.step {X N j y : Nat} (h : In2 X N j y) (hg : lt75 y = true) : floatBits .mul .f64 y 4611686018427387904 = some (fB .mul y 4611686018427387904) ∧ In2 X N (j + 1) (fB .mul y 4611686018427387904) := by
  obtain ⟨h1, h2, h3, h4⟩ := h
  have hE := eL_eq
  obtain ⟨r1, r2, r3⟩ := up_round h2 hg
  obtain ⟨q1, q2⟩ := upF_yes (k := 400 - (j + 1)) hg
  rw [show 400 - (j + 1) + 1 = 400 - j by omega] at q1 q2
  exact ⟨r2, by omega, r3, by rw [h3, q1], by rw [h4, q2]; omega⟩
theorem In2.stop {X N j y : Nat} (h : In2 X N j y) (hg : lt75 y = false) : y = X ∧ j = N ∧ N ≤ 349 := by
  obtain ⟨h1, h2, h3, h4⟩ := h
  obtain ⟨q1, q2⟩ := upF_no (k := 400 - j) hg
  exact ⟨by rw [h3, q1], by omega, by omega⟩
theorem In2.start {x : Nat} (h : Pw (cf .f64 x) 725 (eL + 1)) : In2 (upF 400 x) (upN 400 x) 0 x := ⟨by omega, h, rfl, by simp⟩

/-- All that the last part of the logarithm does, from x and the exponent. -/
structure LnFacts (x : Nat) (e : Int) (a b s u p p2 eb l : Nat) (q : Nat → Nat) : Prop where
  fa : floatBits .sub .f64 x 4607182418800017408 = some a
  fb : floatBits .add .f64 x 4607182418800017408 = some b
  fs : floatBits .quo .f64 a b = some s
  fu : floatBits .mul .f64 s s = some u
  q0 : q 0 = 0
  fq : ∀ j : Nat, j < 13 → ∃ c d, floatBits .quo .f64 4607182418800017408 (floatOfInt .f64 (25 - 2 * (j : Int))) = some c ∧ floatBits .mul .f64 u (q j) = some d ∧ floatBits .add .f64 c d = some (q (j + 1))
  fp : floatBits .mul .f64 s (q 13) = some p
  fp2 : floatBits .mul .f64 4611686018427387904 p = some p2
  fe : floatBits .mul .f64 (floatOfInt .f64 e) 4604418534313441775 = some eb
  fl : floatBits .add .f64 p2 eb = some l

theorem lnFacts {x a : Nat} (h : Pw (cf .f64 x) a (eL + 1)) (e : Int) (he : e.natAbs ≤ 512) : LnFacts x e (fB .sub x 4607182418800017408) (fB .add x 4607182418800017408) (lnS x) (lnU x) (lnP x) (lnP2 x) (lnEB e) (lnL x e) (lnQ (lnU x)) := by
  obtain ⟨f1, f2, f3, f4, f5, f6, f7, f8, f9, f10⟩ := ln_all h e he
  exact ⟨f1, f2, f3, f4, rfl, fun j hj => ⟨_, _, lnQ_round f5 j hj⟩, f6, f7, f8, f9⟩
end Go.Proofs.Ytjihbkhmkepohaa
