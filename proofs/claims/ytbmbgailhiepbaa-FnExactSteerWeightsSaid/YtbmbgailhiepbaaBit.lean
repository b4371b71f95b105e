/- Operations in 64 bits on bits, where all is finite: they draw nothing. -/
import Derived.Test.YtbmbgailhiepbaaQuart
import Derived.Test.YtbmbgailhiepbaaNarrow
namespace Go.Proofs.Ytbmbgailhiepbaa
open Ieee

def fB (op : BinOp) (x y : Nat) : Nat := (floatBits op .f64 x y).getD 0

theorem fB_of {op : BinOp} {x y e : Nat} {o : Option Datum} (h : floatBits op .f64 x y = o.map FloatKind.f64.format.write) (hb : Bp (rnd o) e) : floatBits op .f64 x y = some (fB op x y) ∧ cf .f64 (fB op x y) = rnd o := by
  cases o with
  | none => obtain ⟨s, m, p, h1, _⟩ := hb; simp [rnd, nanD] at h1
  | some d =>
    unfold fB
    rw [h]
    exact ⟨rfl, rfl⟩

theorem B_add {x y e : Nat} (hx : Bp (cf .f64 x) e) (hy : Bp (cf .f64 y) e) (he : e ≤ 900) : floatBits .add .f64 x y = some (fB .add x y) ∧ Bp (cf .f64 (fB .add x y)) (e + 1) ∧ cf .f64 (fB .add x y) = dadd' (cf .f64 x) (cf .f64 y) := by
  have hb := add_bp hx hy he
  have h : floatBits .add .f64 x y = ((cf .f64 x).sum (cf .f64 y)).map FloatKind.f64.format.write := by unfold cf; rw [sum_canon]; rfl
  obtain ⟨h1, h2⟩ := fB_of h hb
  exact ⟨h1, by rw [h2]; exact hb, h2⟩
theorem B_sub {x y e : Nat} (hx : Bp (cf .f64 x) e) (hy : Bp (cf .f64 y) e) (he : e ≤ 900) : floatBits .sub .f64 x y = some (fB .sub x y) ∧ Bp (cf .f64 (fB .sub x y)) (e + 1) ∧ cf .f64 (fB .sub x y) = dsub (cf .f64 x) (cf .f64 y) := by
  have hb := sub_bp hx hy he
  have h : floatBits .sub .f64 x y = ((cf .f64 x).sum (cf .f64 y).opposite).map FloatKind.f64.format.write := by unfold cf; rw [sub_canon]; rfl
  obtain ⟨h1, h2⟩ := fB_of h hb
  exact ⟨h1, by rw [h2]; exact hb, h2⟩
theorem B_mul {x y e f : Nat} (hx : Bp (cf .f64 x) e) (hy : Bp (cf .f64 y) f) (he : e + f ≤ 1000) : floatBits .mul .f64 x y = some (fB .mul x y) ∧ Bp (cf .f64 (fB .mul x y)) (e + f) := by
  have hb := mul_bp hx hy he
  have h : floatBits .mul .f64 x y = ((cf .f64 x).product (cf .f64 y)).map FloatKind.f64.format.write := by unfold cf; rw [mul_canon]; rfl
  obtain ⟨h1, h2⟩ := fB_of h hb
  exact ⟨h1, by rw [h2]; exact hb⟩
theorem B_div {x y e : Nat} (hx : Bp (cf .f64 x) e) (hy : Lb (cf .f64 y)) (he : e ≤ 900) : floatBits .quo .f64 x y = some (fB .quo x y) ∧ Bp (cf .f64 (fB .quo x y)) (e + 1) := by
  have hb := div_bp hx hy he
  have h : floatBits .quo .f64 x y = ((cf .f64 x).quotient 54 (cf .f64 y)).map FloatKind.f64.format.write := by unfold cf; rw [quo_canon]; rfl
  obtain ⟨h1, h2⟩ := fB_of h hb
  exact ⟨h1, by rw [h2]; exact hb⟩

theorem run_fB {P : Program} {op : BinOp} {x y r : Nat} (h : floatBits op .f64 x y = some r) (t : TypeId) : ∀ u : World, (binOp op t (.float .f64 x) (.float .f64 y)).run P u = .ok (.float .f64 r) u :=
  fun u => run_float_arith u op t .f64 x y r h

/-- The sign turned. -/
theorem neg_bp {x e : Nat} (h : Bp (cf .f64 x) e) : Bp (cf .f64 (Op.negFloat .f64 x)) e := by
  obtain ⟨s, m, p, h1, h2, h3⟩ := h
  have hd : Ieee.double.read x = .number s m p := canon_number h1
  have hw : Ieee.double.signWeight = 2 ^ 63 := by decide
  have hx : Op.negFloat .f64 x % 2 ^ 63 = x % 2 ^ 63 := by
    unfold Op.negFloat
    have : FloatKind.f64.format.exponentBits + FloatKind.f64.format.fractionBits = 63 := by decide
    rw [this, Nat.xor_mod_two_pow, Nat.mod_self, Nat.xor_zero]
  have hr : ∃ s', Ieee.double.read (Op.negFloat .f64 x) = .number s' m p := by
    unfold Format.read at hd ⊢
    simp only [hw] at hd ⊢
    rw [hx]
    generalize x % 2 ^ 63 = rung at hd ⊢
    split at hd
    · rename_i hh
      rw [if_pos hh]
      simp only [Datum.number.injEq] at hd
      obtain ⟨_, rfl, rfl⟩ := hd
      exact ⟨_, rfl⟩
    · rename_i hh
      rw [if_neg hh]
      split at hd
      · rename_i hh2
        rw [if_pos hh2]
        simp only [Datum.number.injEq] at hd
        obtain ⟨_, rfl, rfl⟩ := hd
        exact ⟨_, rfl⟩
      · split at hd <;> simp at hd
  obtain ⟨s', hr⟩ := hr
  refine ⟨s', m, p, ?_, h2, h3⟩
  show canon (Ieee.double.read (Op.negFloat .f64 x)) = _
  rw [hr]; rfl

/-- Narrowed. -/
def nB (x : Nat) : Nat := (floatToFloatBits .f64 x .f32).getD 0
theorem run_nB {P : Program} {x e : Nat} (hx : Bp (cf .f64 x) e) (he : e ≤ 126) (src dst : TypeId) (hs : (P.underlying src).isSome = true) (hd : P.underlying dst = some (.float .f32)) :
    ∀ u : World, (convert src dst (.float .f64 x)).run P u = .ok (.float .f32 (nB x)) u := by
  intro w
  obtain ⟨s, m, p, h1, h2, h3⟩ := hx
  have hd' : FloatKind.f64.decode x = .number s m p := canon_number h1
  have hE := eL_eq
  have hJ := eJ_eq
  have hf := narrow_finite (s := s) h2 (by
    rw [show (p + 1074).toNat = (p + eL).toNat by omega]
    refine Nat.le_trans h3 ?_
    refine Nat.le_trans (Nat.pow_le_pow_right (by omega) (show e + eL ≤ 22 + eJ by omega)) ?_
    rw [Nat.pow_add]
    exact Nat.mul_le_mul_right _ (by decide))
  obtain ⟨u, hs'⟩ := Option.isSome_iff_exists.1 hs
  unfold nB floatToFloatBits
  rw [if_neg (by decide)]
  cases u <;> simp [convert, run_underlying hs', run_underlying hd, Conv.floatToFloat, hd', hf]

/-- To a whole number. -/
def iB (x : Nat) : Int := ((cf .f64 x).toInt .zero).getD 0
theorem iB_frac {x : Nat} (hx : Bp (cf .f64 x) 51) : floatToIntVal .f64 x .i64 = some (iB x) ∧ floatBits .sub .f64 x (floatOfInt .f64 (iB x)) = some (fB .sub x (floatOfInt .f64 (iB x))) ∧ Bp (cf .f64 (fB .sub x (floatOfInt .f64 (iB x)))) 0 := by
  obtain ⟨s, m, p, h1, h2, h3⟩ := hx
  have hd' : FloatKind.f64.decode x = .number s m p := canon_number h1
  have hlt : m * 2 ^ (p + eL).toNat < 2 ^ (52 + eL) := Nat.lt_of_le_of_lt h3 (Nat.pow_lt_pow_right (by omega) (by omega))
  obtain ⟨hw, hb⟩ := frac_bp (s := s) h2 hlt
  have hi : iB x = signed s (whole m p) 0 := by unfold iB; rw [h1, toInt_zero]; rfl
  have hab : (signed s (whole m p) 0).natAbs = whole m p := by unfold signed; cases s <;> simp
  refine ⟨?_, ?_⟩
  · unfold floatToIntVal
    rw [hd', toInt_zero, hi]
    simp only
    have h3 : IntKind.i64.min = -9223372036854775808 := by decide
    have h4 : IntKind.i64.max = 9223372036854775807 := by decide
    rw [if_pos (by rw [h3, h4]; omega)]
  · rw [← h1, ← hi] at hb
    have h : floatBits .sub .f64 x (floatOfInt .f64 (iB x)) = ((cf .f64 x).sum (cf .f64 (floatOfInt .f64 (iB x))).opposite).map FloatKind.f64.format.write := by unfold cf; rw [sub_canon]; rfl
    obtain ⟨g1, g2⟩ := fB_of h hb
    exact ⟨g1, by rw [g2]; exact hb⟩
end Go.Proofs.Ytbmbgailhiepbaa
