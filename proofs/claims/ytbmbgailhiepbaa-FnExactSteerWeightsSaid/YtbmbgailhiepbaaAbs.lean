/- math.Abs, math.NaN's bits aside; the functions without a body. -/
import Derived.Test.YtbmbgailhiepbaaRows
import Derived.Test.YtbmbgailhiepbaaSin
import Derived.Test.YtbmbgailhiepbaaPhP
import Derived.Laws.Externs
import Derived.BigQuiet
namespace Go.Proofs.Ytbmbgailhiepbaa
open Go.RowKit Ieee

theorem run_bits (b : Nat) (u : World) : (callFunc 95 #[.float .f64 b]).run Try.prog u = .ok (.value (.int .u64 b)) u := by
  rw [run_callFunc_extern (e := Extern.MathFloatBits.float64bits) Try.func95 (by kernel_rfl) (by kernel_rfl) (by kernel_rfl) (by kernel_rfl)]
  rfl
theorem run_from (b : Nat) (u : World) : (callFunc 94 #[.int .u64 b]).run Try.prog u = .ok (.value (.float .f64 b)) u := by
  rw [run_callFunc_extern (e := Extern.MathFloatBits.float64frombits) Try.func94 (by kernel_rfl) (by kernel_rfl) (by kernel_rfl) (by kernel_rfl)]
  rfl

theorem and_not_sign (b : Nat) : b % 18446744073709551616 &&& (18446744073709551615 - 9223372036854775808) = b % 9223372036854775808 := by
  have h : (18446744073709551615 - 9223372036854775808 : Nat) = 2 ^ 63 - 1 := by decide
  rw [h, Nat.and_two_pow_sub_one_eq_mod]
  omega

theorem bits_andNot (b : Nat) : bits .andNot .u64 (b : Int) 9223372036854775808 = ((b % 9223372036854775808 : Nat) : Int) := by
  have h : (BitVec.ofInt 64 (b : Int) &&& ~~~(BitVec.ofInt 64 9223372036854775808)).toNat = b % 9223372036854775808 := by
    rw [BitVec.toNat_and, BitVec.toNat_not]
    have e1 : (BitVec.ofInt 64 (b : Int)).toNat = b % 18446744073709551616 := by
      rw [BitVec.toNat_ofInt]
      omega
    have e2 : (BitVec.ofInt 64 9223372036854775808).toNat = 9223372036854775808 := by decide
    rw [e1, e2]
    exact and_not_sign b
  have hw : IntKind.u64.wrap ((b % 9223372036854775808 : Nat) : Int) = ((b % 9223372036854775808 : Nat) : Int) := by
    unfold IntKind.wrap
    have hs : IntKind.u64.signed = false := by decide
    have hb : IntKind.u64.bits = 64 := by decide
    simp [hs, hb]
    omega
  show IntKind.u64.wrap ((BitVec.ofInt 64 (b : Int) &&& ~~~(BitVec.ofInt 64 9223372036854775808)).toNat : Int) = _
  rw [h, hw]

theorem abs_bp {x e : Nat} (h : Bp (cf .f64 x) e) : Bp (cf .f64 (x % 9223372036854775808)) e := by
  obtain ⟨s, m, p, h1, h2, h3⟩ := h
  have hd : Ieee.double.read x = .number s m p := canon_number h1
  have hw : Ieee.double.signWeight = 9223372036854775808 := by decide
  have hr : ∃ s', Ieee.double.read (x % 9223372036854775808) = .number s' m p := by
    unfold Format.read at hd ⊢
    simp only [hw, Nat.mod_mod] at hd ⊢
    generalize x % 9223372036854775808 = rung at hd ⊢
    split at hd
    · rename_i hh
      rw [if_pos hh]
      simp only [Datum.number.injEq] at hd
      obtain ⟨_, rfl, rfl⟩ := hd
      exact ⟨_, rfl⟩
    · rename_i hh
      rw [if_neg hh]
      split at hd
      · rename_i hh2
        rw [if_pos hh2]
        simp only [Datum.number.injEq] at hd
        obtain ⟨_, rfl, rfl⟩ := hd
        exact ⟨_, rfl⟩
      · split at hd <;> simp at hd
  obtain ⟨s', hr⟩ := hr
  refine ⟨s', m, p, ?_, h2, h3⟩
  show canon (Ieee.double.read (x % 9223372036854775808)) = _
  rw [hr]; rfl

set_option maxHeartbeats 400000 in
set_option maxRecDepth 100000 in
theorem absI (t : Nat) (w : World) :
    Calls Try.prog 79 #[.float .f64 t] w fun e w' => e = .returned (.float .f64 (t % 9223372036854775808)) ∧ w = w' := by
  have e1 := run_bits t
  have e2 : ∀ u, (callFunc 94 #[.int .u64 (bits .andNot .u64 (t : Int) 9223372036854775808)]).run Try.prog u = .ok (.value (.float .f64 (t % 9223372036854775808))) u := fun u => by rw [bits_andNot]; exact run_from _ u
  generalize t % 9223372036854775808 = a at e2 ⊢
  go_enter Try.func79, Try.ntmps79
  go_wp2
  all_goals go_ret
  all_goals exact ⟨rfl, rfl⟩
end Go.Proofs.Ytbmbgailhiepbaa
