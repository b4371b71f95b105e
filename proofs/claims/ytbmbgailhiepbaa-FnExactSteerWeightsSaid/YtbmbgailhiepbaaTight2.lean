/- Tight bounds of the sine and the phasor. -/
import Derived.Test.YtbmbgailhiepbaaTight
namespace Go.Proofs.Ytbmbgailhiepbaa
open Ieee

theorem gt_of_cmp (A Q : Nat) (h : (some (compare (A : Int) (Q : Int)) == some Ordering.gt) = true) : Q < A := by
  have : compare (A : Int) (Q : Int) = .gt := by simpa using h
  rw [Int.compare_eq_gt] at this
  omega
theorem le_of_not_cmp (A Q : Nat) (h : ¬ (some (compare (A : Int) (Q : Int)) == some Ordering.gt) = true) : A ≤ Q := by
  by_cases hlt : A ≤ Q
  · exact hlt
  · have : compare (A : Int) (Q : Int) = .gt := by rw [Int.compare_eq_gt]; omega
    rw [this] at h; simp at h

theorem s1B_iv {f : Nat} (h : Iv (cf .f64 f) 4) : Iv (cf .f64 (s1B f)) 2 := by
  have hb : Bp (cf .f64 f) 1 := by
    obtain ⟨s, m, p, h1, h2, h3, h4⟩ := h
    have hE := eL_eq
    refine ⟨s, m, p, h1, h2, Nat.le_trans h4 ?_⟩
    rw [show (4 : Nat) = 2 ^ 2 from rfl, ← Nat.pow_add]
    exact Nat.pow_le_pow_right (by omega) (by omega)
  have hB := B_sub hb (bp_half.mono (by omega)) (by omega)
  obtain ⟨s, m, p, h1, h2, h3, h4⟩ := h
  have hord : FloatKind.f64.format.order f 4602678819172646912 = some (compare ((m * 2 ^ (p + eL).toNat : Nat) : Int) ((2 * 2 ^ (eL - 2) : Nat) : Int)) := by
    rw [order_cf, h1, half_f64, order_iv h2 h3 _ _ (by omega), half_unit]
  have hsg : signed s (m * 2 ^ (p + eL).toNat) 0 = ((m * 2 ^ (p + eL).toNat : Nat) : Int) := by
    unfold signed
    cases s with
    | false => simp
    | true => rw [h3 rfl]; simp
  unfold s1B
  split
  · rename_i hg
    unfold bigB at hg
    rw [hord] at hg
    have hge : 2 * 2 ^ (eL - 2) ≤ m * 2 ^ (p + eL).toNat := by
      generalize 2 * 2 ^ (eL - 2) = Q at hg ⊢
      generalize m * 2 ^ (p + eL).toNat = A at hg ⊢
      by_cases hlt : A < Q
      · have : compare (A : Int) (Q : Int) = .lt := by rw [Int.compare_eq_lt]; omega
        rw [this] at hg; simp at hg
      · omega
    rw [hB.2.2, h1, half_f64]
    refine sub_signed s false m _ p _ h2 (by omega) 2 (by omega) ?_ ?_
    · rw [hsg, half_unit]
      generalize m * 2 ^ (p + eL).toNat = A at hge ⊢
      generalize 2 * 2 ^ (eL - 2) = Q at hge ⊢
      unfold signed; simp; omega
    · rw [hsg, half_unit]
      have h5 : m * 2 ^ (p + eL).toNat ≤ 2 * (2 * 2 ^ (eL - 2)) := by omega
      generalize m * 2 ^ (p + eL).toNat = A at hge h5 ⊢
      generalize 2 * 2 ^ (eL - 2) = Q at hge h5 ⊢
      unfold signed; simp; omega
  · rename_i hg
    unfold bigB at hg
    rw [hord] at hg
    refine ⟨s, m, p, h1, h2, h3, ?_⟩
    generalize 2 * 2 ^ (eL - 2) = Q at hg ⊢
    generalize m * 2 ^ (p + eL).toNat = A at hg ⊢
    by_cases hlt : A ≤ Q
    · exact hlt
    · have : compare (A : Int) (Q : Int) = .gt := by rw [Int.compare_eq_gt]; omega
      rw [this] at hg; simp at hg

theorem s2B_iv {f : Nat} (h : Iv (cf .f64 f) 2) : Iv (cf .f64 (s2B f)) 1 := by
  have hb : Bp (cf .f64 f) 1 := by
    obtain ⟨s, m, p, h1, h2, h3, h4⟩ := h
    have hE := eL_eq
    refine ⟨s, m, p, h1, h2, Nat.le_trans h4 ?_⟩
    rw [Nat.mul_comm, ← Nat.pow_succ]
    exact Nat.pow_le_pow_right (by omega) (by omega)
  have hB := B_sub (bp_half.mono (by omega)) hb (by omega)
  obtain ⟨s, m, p, h1, h2, h3, h4⟩ := h
  have hord : FloatKind.f64.format.order f 4598175219545276416 = some (compare ((m * 2 ^ (p + eL).toNat : Nat) : Int) ((2 ^ (eL - 2) : Nat) : Int)) := by
    rw [order_cf, h1, quarter_f64, order_iv h2 h3 _ _ (by omega), quarter_unit]
  have hsg : signed s (m * 2 ^ (p + eL).toNat) 0 = ((m * 2 ^ (p + eL).toNat : Nat) : Int) := by
    unfold signed
    cases s with
    | false => simp
    | true => rw [h3 rfl]; simp
  unfold s2B
  split
  · rename_i hg
    rw [hord] at hg
    have hgt := gt_of_cmp _ _ hg
    rw [hB.2.2, h1, half_f64]
    refine sub_signed false s _ m _ p (by omega) h2 1 (by omega) ?_ ?_
    · rw [hsg, half_unit]
      generalize m * 2 ^ (p + eL).toNat = A at hgt h4 ⊢
      generalize 2 ^ (eL - 2) = Q at hgt h4 ⊢
      unfold signed; simp; omega
    · rw [hsg, half_unit]
      generalize m * 2 ^ (p + eL).toNat = A at hgt h4 ⊢
      generalize 2 ^ (eL - 2) = Q at hgt h4 ⊢
      unfold signed; simp; omega
  · rename_i hg
    rw [hord] at hg
    refine ⟨s, m, p, h1, h2, h3, ?_⟩
    rw [Nat.one_mul]
    exact le_of_not_cmp _ _ hg
end Go.Proofs.Ytbmbgailhiepbaa
