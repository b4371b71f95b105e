/- Float operations that may draw a not-a-number's bits. -/
import Derived.Test.YtbmbgailhiepbaaFlc
namespace Go.Proofs.Ytbmbgailhiepbaa
open Ieee

def mb (op : BinOp) (k : FloatKind) (x y : Nat) (w : World) : Nat := (floatBits op k x y).getD ((Question.nanBits k x y).cut (w.tape w.drawn (.nanBits k x y)))
def mn (op : BinOp) (k : FloatKind) (x y : Nat) : Nat := if (floatBits op k x y).isSome then 0 else 1

theorem run_arith_any {P : Program} (op : BinOp) (hop : op = .add ∨ op = .sub ∨ op = .mul ∨ op = .quo) (t : TypeId) (k : FloatKind) (x y : Nat) (w : World) :
    (binOp op t (.float k x) (.float k y)).run P w = .ok (.float k (mb op k x y w)) (w.drewN (mn op k x y)) := by
  cases h : floatBits op k x y with
  | some r =>
    rw [run_float_arith w op t k x y r h]
    simp [mb, mn, h, World.drewN_zero]
  | none =>
    unfold mb mn
    rw [h]
    unfold floatBits at h
    rcases hop with rfl | rfl | rfl | rfl <;> simp only at h <;> simp [binOp, Op.floatArith, h, choose, Sem.run, Question.forced, World.drewN, Result.andThen]

theorem nanBits_nan (k : FloatKind) (x y t : Nat) : (k.decode ((Question.nanBits k x y).cut t)).isNaN = true := by
  cases k
  · show (Ieee.single.read ((t % 2) * 2 ^ 31 + 0x7f800000 + 1 + (t / 2) % (2 ^ 23 - 1))).isNaN = true
    have hb : Ieee.single.binade = 8388608 := by decide
    have hi : Ieee.single.infRung = 2139095040 := by decide
    have hs : Ieee.single.signWeight = 2147483648 := by decide
    unfold Format.read
    simp only [hb, hi, hs]
    have h1 : (t / 2) % (2 ^ 23 - 1) < 2 ^ 23 - 1 := Nat.mod_lt _ (by decide)
    have h2 : t % 2 < 2 := Nat.mod_lt _ (by decide)
    generalize (t / 2) % (2 ^ 23 - 1) = u at h1 ⊢
    generalize t % 2 = v at h2 ⊢
    have e : (v * 2 ^ 31 + 0x7f800000 + 1 + u) % 2147483648 = 0x7f800000 + 1 + u := by omega
    rw [e, if_neg (by omega), if_neg (by omega), if_neg (by omega)]
    rfl
  · exact nanConv64_nan x t

theorem mb_cf (op : BinOp) (k : FloatKind) (x y : Nat) (w w' : World) : cf k (mb op k x y w) = cf k (mb op k x y w') := by
  unfold mb cf
  cases floatBits op k x y with
  | some r => rfl
  | none => simp only [Option.getD_none]; rw [canon_nan (nanBits_nan _ _ _ _), canon_nan (nanBits_nan _ _ _ _)]

def mcf (op : BinOp) (k : FloatKind) (x y : Nat) : Datum := match floatBits op k x y with | some r => cf k r | none => nanD
theorem mb_mcf (op : BinOp) (k : FloatKind) (x y : Nat) (w : World) : cf k (mb op k x y w) = mcf op k x y := by
  unfold mb mcf cf
  cases floatBits op k x y with
  | some r => rfl
  | none => simp only [Option.getD_none]; rw [canon_nan (nanBits_nan _ _ _ _)]
end Go.Proofs.Ytbmbgailhiepbaa
