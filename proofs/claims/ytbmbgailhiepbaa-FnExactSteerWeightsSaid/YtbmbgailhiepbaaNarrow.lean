/- Narrowing where it does not overflow. -/
import Derived.Test.YtbmbgailhiepbaaMeanP
namespace Go.Proofs.Ytbmbgailhiepbaa
open Ieee

def nar : Datum → Datum
  | .nan .. => nanD
  | d => canon (FloatKind.f32.decode (FloatKind.f32.encode d))
theorem nar_canon (d : Datum) : nar (canon d) = nar d := by cases d <;> rfl

def nb (b : Nat) (w : World) : Nat := (floatToFloatBits .f64 b .f32).getD ((Question.nanConv .f32 b).cut (w.tape w.drawn (.nanConv .f32 b)))
def nn (b : Nat) : Nat := if (floatToFloatBits .f64 b .f32).isSome then 0 else 1

def eQ : Nat := 253
theorem narrow_finite {s : Bool} {m : Nat} {p : Int} (h1 : -1074 ≤ p) (h2 : m * 2 ^ (p + 1074).toNat ≤ 16777215 * 2 ^ eJ) : (FloatKind.f32.decode (FloatKind.f32.encode (.number s m p))).isInfinity = false := by
  have hk : (16777215 : Nat) < 2 ^ (Ieee.single.fractionBits + 1) := by decide
  obtain ⟨m', p', h, _⟩ := nearest_read Ieee.single (by decide) s m p 1074 (by omega) (by rw [single_lp]; omega) 16777215 eQ hk
    (by
      have e : eQ + ((-149 : Int) + 1074).toNat = eJ := by decide
      rw [Nat.mul_assoc, ← Nat.pow_add, single_lp, e]
      exact h2) (by
      refine Nat.lt_of_lt_of_le (Nat.mul_lt_mul_of_pos_right (show 16777215 < 2 ^ 24 by decide) (Nat.two_pow_pos _)) ?_
      rw [← Nat.pow_add]
      exact Nat.pow_le_pow_right (by omega) (by rw [single_top]; decide))
  have : FloatKind.f32.decode (FloatKind.f32.encode (.number s m p)) = .number s m' p' := h
  rw [this]
  rfl

theorem nanConv32_nan (b t : Nat) : (FloatKind.f32.decode ((Question.nanConv .f32 b).cut t)).isNaN = true := nanBits_nan .f32 b b t

theorem nb_cf (b : Nat) (hb : Bd (cf .f64 b) 16777215) (w : World) : cf .f32 (nb b w) = nar (cf .f64 b) := by
  unfold nb
  unfold cf
  rw [nar_canon]
  unfold floatToFloatBits
  rw [if_neg (by decide)]
  cases hd : FloatKind.f64.decode b with
  | nan s t =>
    simp only [Option.getD_none]
    rw [canon_nan (nanConv32_nan b _)]
    rfl
  | infinity s => simp only [Option.getD_some]; rfl
  | number s m p =>
    obtain ⟨h1, h2⟩ := hb s m p (by unfold cf; rw [hd]; rfl)
    simp only [narrow_finite h1 h2, Bool.false_eq_true, if_false, Option.getD_some]
    rfl

theorem run_narrow {P : Program} (src dst : TypeId) (hs : (P.underlying src).isSome = true) (hd : P.underlying dst = some (.float .f32)) (b : Nat) (hb : Bd (cf .f64 b) 16777215) (w : World) :
    (convert src dst (.float .f64 b)).run P w = .ok (.float .f32 (nb b w)) (w.drewN (nn b)) := by
  obtain ⟨u, hs'⟩ := Option.isSome_iff_exists.1 hs
  unfold nb nn floatToFloatBits
  rw [if_neg (by decide)]
  cases hd' : FloatKind.f64.decode b with
  | nan s t =>
    cases u <;> simp [convert, run_underlying hs', run_underlying hd, Conv.floatToFloat, hd', choose, Sem.run, Question.forced, World.drewN, Result.andThen]
  | infinity s =>
    cases u <;> simp [convert, run_underlying hs', run_underlying hd, Conv.floatToFloat, hd', World.drewN_zero]
  | number s m p =>
    obtain ⟨h1, h2⟩ := hb s m p (by unfold cf; rw [hd']; rfl)
    have hf := narrow_finite (s := s) h1 h2
    cases u <;> simp [convert, run_underlying hs', run_underlying hd, Conv.floatToFloat, hd', hf, World.drewN_zero]

/-- The mean. -/
def mpOk (n : Nat) : Bool := decide (1 ≤ n ∧ n ≤ 129)
def mpOf (f : Nat → Nat) (n : Nat) : Datum := if mpOk n then nar (dquo (Sm f n) (cf .f64 (floatOfInt .f64 n))) else cf .f32 0
end Go.Proofs.Ytbmbgailhiepbaa
