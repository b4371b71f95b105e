/- The phasor of turns, on bits. -/
import Derived.Test.YtbmbgailhiepbaaSinP
namespace Go.Proofs.Ytbmbgailhiepbaa
open Ieee

def geQ (f : Nat) : Bool := FloatKind.f64.format.order f 4598175219545276416 == some .gt || FloatKind.f64.format.order f 4598175219545276416 == some .eq

/-- A number of at most 2, and of at most K quarters where it is not negative. -/
def Ub (d : Datum) (K : Nat) : Prop := ∃ s m p, d = .number s m p ∧ -1074 ≤ p ∧ m * 2 ^ (p + eL).toNat ≤ 2 ^ (1 + eL) ∧ (s = false → m * 2 ^ (p + eL).toNat ≤ K * 2 ^ (eL - 2))

theorem Ub.bp {d : Datum} {K : Nat} (h : Ub d K) : Bp d 1 := by
  obtain ⟨s, m, p, h1, h2, h3, _⟩ := h
  exact ⟨s, m, p, h1, h2, h3⟩
theorem Ub.of {d : Datum} (h : Bp d 1) : Ub d 8 := by
  obtain ⟨s, m, p, h1, h2, h3⟩ := h
  have hE := eL_eq
  refine ⟨s, m, p, h1, h2, h3, fun _ => ?_⟩
  rw [show (8 : Nat) = 2 ^ 3 from rfl, ← Nat.pow_add, show 3 + (eL - 2) = 1 + eL by omega]
  exact h3

theorem quarter_unit : 4503599627370496 * 2 ^ ((-54 : Int) + eL).toNat = 2 ^ (eL - 2) := by
  have hE := eL_eq
  rw [show (4503599627370496 : Nat) = 2 ^ 52 from rfl, ← Nat.pow_add, show 52 + ((-54 : Int) + eL).toNat = eL - 2 by omega]

theorem geQ_of {f : Nat} {s : Bool} {m : Nat} {p : Int} (hf : cf .f64 f = .number s m p) (hp : -1074 ≤ p) (h : geQ f = true) : s = false ∧ 2 ^ (eL - 2) ≤ m * 2 ^ (p + eL).toNat := by
  unfold geQ at h
  rw [order_cf, hf, quarter_f64, order_numbers _ _ _ _ _ _ hp (by omega), quarter_unit] at h
  have hq := Nat.two_pow_pos (eL - 2)
  generalize 2 ^ (eL - 2) = Q at h hq ⊢
  generalize m * 2 ^ (p + eL).toNat = A at h ⊢
  unfold signed at h
  simp only [Nat.shiftLeft_zero] at h
  cases s with
  | true =>
    have : compare (if true = true then -((A : Nat) : Int) else (A : Int)) (if false = true then -((Q : Nat) : Int) else (Q : Int)) = .lt := by
      rw [Int.compare_eq_lt]; simp; omega
    rw [this] at h
    simp at h
  | false =>
    refine ⟨rfl, ?_⟩
    by_cases hlt : A < Q
    · have : compare (if false = true then -((A : Nat) : Int) else (A : Int)) (if false = true then -((Q : Nat) : Int) else (Q : Int)) = .lt := by
        rw [Int.compare_eq_lt]; simp; omega
      rw [this] at h
      simp at h
    · omega

theorem quarter_round {f K : Nat} (hf : Ub (cf .f64 f) K) (hK : K ≤ 8) (h : geQ f = true) : 1 ≤ K ∧ floatBits .sub .f64 f 4598175219545276416 = some (fB .sub f 4598175219545276416) ∧ Ub (cf .f64 (fB .sub f 4598175219545276416)) (K - 1) := by
  have hb := hf.bp
  obtain ⟨s, m, p, h1, h2, h3, h4⟩ := hf
  obtain ⟨rfl, h5⟩ := geQ_of h1 h2 h
  have h6 := h4 rfl
  have hq := Nat.two_pow_pos (eL - 2)
  have hK1 : 1 ≤ K := by
    by_cases h0 : K = 0
    · subst h0; omega
    · omega
  have hB := B_sub hb (bp_quarter.mono (by omega)) (by omega)
  refine ⟨hK1, hB.1, ?_⟩
  rw [hB.2.2, h1, quarter_f64]
  have hnat : (signed false (m * 2 ^ (p + eL).toNat) 0 - signed false (4503599627370496 * 2 ^ ((-54 : Int) + eL).toNat) 0).natAbs = m * 2 ^ (p + eL).toNat - 2 ^ (eL - 2) := by
    rw [quarter_unit]
    generalize 2 ^ (eL - 2) = Q at h5 hq ⊢
    generalize m * 2 ^ (p + eL).toNat = A at h5 ⊢
    unfold signed
    simp
    omega
  obtain ⟨u, k, q, g1, g2, g3, g4⟩ := sub_numbers false false m 4503599627370496 p (-54) h2 (by omega) 1 (by omega) (by rw [hnat]; omega)
  refine ⟨u, k, q, g1, g2, g3, fun _ => g4 (K - 1) (eL - 2) (by omega) ?_⟩
  rw [hnat, Nat.sub_mul]
  omega

/-- How many quarters come off; what is left. -/
def qn : Nat → Nat → Nat
  | 0, _ => 0
  | k + 1, f => if geQ f then 1 + qn k (fB .sub f 4598175219545276416) else 0
def qf : Nat → Nat → Nat
  | 0, f => f
  | k + 1, f => if geQ f then qf k (fB .sub f 4598175219545276416) else f

theorem qf_ub {f : Nat} (k K : Nat) (h : Ub (cf .f64 f) K) (hK : K ≤ 8) : ∃ K', Ub (cf .f64 (qf k f)) K' := by
  induction k generalizing f K with
  | zero => exact ⟨K, h⟩
  | succ k ih =>
    unfold qf
    split
    · rename_i hg
      exact ih (K - 1) (quarter_round h hK hg).2.2 (by omega)
    · exact ⟨K, h⟩

def pF (t : Nat) : Nat := qf 9 (frB t)
def pN (t : Nat) : Nat := qn 9 (frB t)
theorem pF_bp {t : Nat} (h : Bp (cf .f64 t) 51) : Bp (cf .f64 (pF t)) 1 := by
  obtain ⟨K, hK⟩ := qf_ub 9 8 (Ub.of (frB_bp h)) (by omega)
  exact hK.bp
def pG (t : Nat) : Nat := fB .sub 4598175219545276416 (pF t)
theorem pG_bp {t : Nat} (h : Bp (cf .f64 t) 51) : floatBits .sub .f64 4598175219545276416 (pF t) = some (pG t) ∧ Bp (cf .f64 (pG t)) 2 := by
  have := B_sub (bp_quarter.mono (by omega)) (pF_bp h) (by omega)
  exact ⟨this.1, this.2.1⟩
def pC (t : Nat) : Nat := sinB (pG t)
def pS (t : Nat) : Nat := sinB (pF t)
def pNC (t : Nat) : Nat := fB .sub 0 (pC t)
def pNS (t : Nat) : Nat := fB .sub 0 (pS t)
theorem p_bp {t : Nat} (h : Bp (cf .f64 t) 51) : Bp (cf .f64 (pC t)) 118 ∧ Bp (cf .f64 (pS t)) 118 ∧ floatBits .sub .f64 0 (pC t) = some (pNC t) ∧ Bp (cf .f64 (pNC t)) 119 ∧ floatBits .sub .f64 0 (pS t) = some (pNS t) ∧ Bp (cf .f64 (pNS t)) 119 := by
  have h1 : Bp (cf .f64 (pC t)) 118 := sinB_bp ((pG_bp h).2.mono (by omega))
  have h2 : Bp (cf .f64 (pS t)) 118 := sinB_bp ((pF_bp h).mono (by omega))
  have h3 := B_sub (bp_zero.mono (by omega)) h1 (by omega)
  have h4 := B_sub (bp_zero.mono (by omega)) h2 (by omega)
  exact ⟨h1, h2, h3.1, h3.2.1, h4.1, h4.2.1⟩

/-- The phasor's parts. -/
def phR (t : Nat) : Nat := if pN t = 1 then nB (pNS t) else if pN t = 2 then nB (pNC t) else if pN t = 3 then nB (pS t) else nB (pC t)
def phI (t : Nat) : Nat := if pN t = 1 then nB (pC t) else if pN t = 2 then nB (pNS t) else if pN t = 3 then nB (pNC t) else nB (pS t)
end Go.Proofs.Ytbmbgailhiepbaa
