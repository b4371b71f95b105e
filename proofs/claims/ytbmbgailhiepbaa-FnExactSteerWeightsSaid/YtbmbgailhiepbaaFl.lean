/- Floating point, plain: the nearest word of a number lies between any two numbers of the format between which the number lay; no program in sight. -/
import Derived.Laws.FloatArith
namespace Go.Proofs.Ytbmbgailhiepbaa
open Ieee

theorem cut_far {n drop : Nat} (h : ¬ drop ≤ n.log2 + 2) (neg : Bool) : Toward.even.cut neg n drop = 0 := by
  unfold Toward.cut
  simp only [Nat.shiftLeft_eq, Nat.one_mul]
  rw [Nat.min_eq_right (by omega)]
  have h1 : n < 2 ^ (n.log2 + 1) := Nat.lt_log2_self
  have h2 : 2 ^ (n.log2 + 2) = 2 * 2 ^ (n.log2 + 1) := by rw [Nat.pow_succ]; omega
  have hl : n / 2 ^ (n.log2 + 2) = 0 := Nat.div_eq_of_lt (by omega)
  have hm : n % 2 ^ (n.log2 + 2) = n := Nat.mod_eq_of_lt (by omega)
  rw [hl, hm]
  have e1 : decide (2 ^ (n.log2 + 2) < 2 * n) = false := decide_eq_false (by omega)
  have e2 : (2 ^ (n.log2 + 2) == 2 * n) = false := beq_false_of_ne (by omega)
  simp [e1, e2]

theorem cut_near {n drop : Nat} (h : drop ≤ n.log2 + 2) (neg : Bool) :
    Toward.even.cut neg n drop = n / 2 ^ drop + (decide (2 ^ drop < 2 * (n % 2 ^ drop)) || (2 ^ drop == 2 * (n % 2 ^ drop) && n / 2 ^ drop % 2 == 1)).toNat := by
  unfold Toward.cut
  simp only [Nat.shiftLeft_eq, Nat.one_mul]
  rw [Nat.min_eq_left h]

theorem cut_le (neg : Bool) (n drop c : Nat) (h : n ≤ c * 2 ^ drop) : Toward.even.cut neg n drop ≤ c := by
  by_cases hd : drop ≤ n.log2 + 2
  · rw [cut_near hd]
    have hp : 0 < 2 ^ drop := Nat.two_pow_pos _
    have hdm := Nat.div_add_mod n (2 ^ drop)
    have hlow : n / 2 ^ drop ≤ c := by
      rw [Nat.div_le_iff_le_mul_add_pred hp, Nat.mul_comm]; omega
    by_cases he : n / 2 ^ drop < c
    · have := Bool.toNat_le (decide (2 ^ drop < 2 * (n % 2 ^ drop)) || (2 ^ drop == 2 * (n % 2 ^ drop) && n / 2 ^ drop % 2 == 1))
      omega
    · have hc : n / 2 ^ drop = c := by omega
      have hr : n % 2 ^ drop = 0 := by
        rw [hc, Nat.mul_comm] at hdm; omega
      rw [hr]
      have e1 : decide (2 ^ drop < 2 * 0) = false := decide_eq_false (by omega)
      have e2 : (2 ^ drop == 2 * 0) = false := beq_false_of_ne (by omega)
      rw [e1, e2, hc]
      simp
  · rw [cut_far hd]; exact Nat.zero_le _

theorem le_cut (neg : Bool) (n drop c : Nat) (h : c * 2 ^ drop ≤ n) : c ≤ Toward.even.cut neg n drop := by
  by_cases hd : drop ≤ n.log2 + 2
  · rw [cut_near hd]
    have := (Nat.le_div_iff_mul_le (Nat.two_pow_pos drop)).2 h
    omega
  · have h1 : n < 2 ^ (n.log2 + 1) := Nat.lt_log2_self
    have h2 : 2 ^ (n.log2 + 1) ≤ 2 ^ drop := Nat.pow_le_pow_right (by omega) (by omega)
    cases c with
    | zero => exact Nat.zero_le _
    | succ c =>
      have : 2 ^ drop ≤ (c + 1) * 2 ^ drop := Nat.le_mul_of_pos_left _ (by omega)
      omega

/-- The magnitude of a rung, in units of the least place. -/
def rungMag (F rung : Nat) : Nat := if rung < 2 ^ F then rung else (2 ^ F + rung % 2 ^ F) * 2 ^ (rung / 2 ^ F - 1)

theorem rungMag_of (F t kept : Nat) (h1 : t = 0 ∨ 2 ^ F ≤ kept) (h2 : kept ≤ 2 * 2 ^ F) : rungMag F (t * 2 ^ F + kept) = kept * 2 ^ t := by
  have hp : 0 < 2 ^ F := Nat.two_pow_pos _
  unfold rungMag
  by_cases hk : kept < 2 ^ F
  · have ht : t = 0 := by omega
    subst ht
    rw [if_pos (by omega)]; simp
  · rw [if_neg (by have := Nat.zero_le (t * 2 ^ F); omega)]
    by_cases hk2 : kept < 2 * 2 ^ F
    · obtain ⟨u, rfl⟩ : ∃ u, kept = 2 ^ F + u := ⟨kept - 2 ^ F, by omega⟩
      have hu : u < 2 ^ F := by omega
      have e : t * 2 ^ F + (2 ^ F + u) = u + 2 ^ F * (t + 1) := by rw [Nat.mul_add, Nat.mul_comm t]; omega
      rw [e, Nat.add_mul_mod_self_left, Nat.add_mul_div_left _ _ hp, Nat.mod_eq_of_lt hu, Nat.div_eq_of_lt hu]
      simp
    · have hk3 : kept = 2 * 2 ^ F := by omega
      subst hk3
      have e : t * 2 ^ F + 2 * 2 ^ F = 0 + 2 ^ F * (t + 2) := by rw [Nat.mul_add, Nat.mul_comm t]; omega
      rw [e, Nat.add_mul_mod_self_left, Nat.add_mul_div_left _ _ hp, Nat.zero_mod, Nat.zero_div]
      have : 0 + (t + 2) - 1 = t + 1 := by omega
      rw [this, Nat.pow_succ]
      simp only [Nat.add_zero]
      rw [Nat.mul_comm 2 (2 ^ F), Nat.mul_assoc, Nat.mul_comm 2]

theorem read_word (f : Format) (neg : Bool) {rung : Nat} (h : rung < f.infRung) :
    ∃ m p, f.read (f.word neg rung) = .number neg m p ∧ f.leastPlace ≤ p ∧ m * 2 ^ (p - f.leastPlace).toNat = rungMag f.fractionBits rung := by
  have hi : f.infRung < f.signWeight := by
    have h1 : 0 < 2 ^ f.exponentBits := Nat.two_pow_pos _
    have h2 : 0 < f.binade := Nat.two_pow_pos _
    unfold Format.infRung Format.signWeight Format.binade at *
    rw [Nat.pow_add]
    exact Nat.mul_lt_mul_of_pos_right (by omega) h2
  have hs : 0 < f.signWeight := by omega
  have e1 : (f.word neg rung / f.signWeight % 2 == 1) = neg := by
    unfold Format.word
    cases neg
    · simp [Nat.div_eq_of_lt (show rung < f.signWeight by omega)]
    · simp only [if_true]
      rw [Nat.add_comm, Nat.add_div_right _ hs, Nat.div_eq_of_lt (show rung < f.signWeight by omega)]
      rfl
  have e2 : f.word neg rung % f.signWeight = rung := by
    unfold Format.word
    cases neg
    · simp [Nat.mod_eq_of_lt (show rung < f.signWeight by omega)]
    · simp [Nat.mod_eq_of_lt (show rung < f.signWeight by omega)]
  unfold Format.read
  simp only [e1, e2]
  by_cases hb : rung < f.binade
  · refine ⟨rung, f.leastPlace, by simp [hb], Int.le_refl _, ?_⟩
    unfold rungMag
    rw [if_pos (show rung < 2 ^ f.fractionBits from hb)]; simp
  · refine ⟨f.binade + rung % f.binade, f.leastPlace + (rung / f.binade - 1 : Nat), by simp [hb, h], by omega, ?_⟩
    unfold rungMag
    rw [if_neg (show ¬ rung < 2 ^ f.fractionBits from hb)]
    have : (f.leastPlace + ((rung / f.binade - 1 : Nat) : Int) - f.leastPlace).toNat = rung / f.binade - 1 := by omega
    rw [this]; rfl

theorem pow_split {a b : Nat} (h : a ≤ b) : 2 ^ b = 2 ^ (b - a) * 2 ^ a := by
  rw [← Nat.pow_add]; congr 1; omega

/-- The nearest word of 'mag * 2 ^ place', read: between any two numbers of the format that it lay between. The units: 2 ^ leastPlace; S is a common scale. -/
theorem nearest_read (f : Format) (he : 4 ≤ 2 ^ f.exponentBits) (neg : Bool) (mag : Nat) (place S : Int) (hS : 0 ≤ place + S) (hS2 : 0 ≤ f.leastPlace + S)
    (K0 J0 : Nat) (hK0 : K0 < 2 ^ (f.fractionBits + 1)) (hup : mag * 2 ^ (place + S).toNat ≤ K0 * 2 ^ J0 * 2 ^ (f.leastPlace + S).toNat)
    (hfin : K0 * 2 ^ J0 < 2 ^ (f.fractionBits + 2 ^ f.exponentBits - 2)) :
    ∃ m p, f.read (f.nearest neg mag place) = .number neg m p ∧ f.leastPlace ≤ p ∧
      (∀ K J, K < 2 ^ (f.fractionBits + 1) → mag * 2 ^ (place + S).toNat ≤ K * 2 ^ J * 2 ^ (f.leastPlace + S).toNat → m * 2 ^ (p - f.leastPlace).toNat ≤ K * 2 ^ J) ∧
      (∀ K J, K < 2 ^ (f.fractionBits + 1) → K * 2 ^ J * 2 ^ (f.leastPlace + S).toNat ≤ mag * 2 ^ (place + S).toNat → K * 2 ^ J ≤ m * 2 ^ (p - f.leastPlace).toNat) := by
  have hU : 0 < 2 ^ (f.leastPlace + S).toNat := Nat.two_pow_pos _
  have hF : 0 < 2 ^ f.fractionBits := Nat.two_pow_pos _
  have hinf : f.infRung = (2 ^ f.exponentBits - 1) * 2 ^ f.fractionBits := rfl
  by_cases hm : mag = 0
  · subst hm
    have h0 : (0 : Nat) < f.infRung := by rw [hinf]; exact Nat.mul_pos (by omega) hF
    obtain ⟨m, p, h1, h2, h3⟩ := read_word f neg h0
    have hz : m * 2 ^ (p - f.leastPlace).toNat = 0 := by rw [h3]; unfold rungMag; rw [if_pos hF]
    refine ⟨m, p, by unfold Format.nearest; simpa using h1, h2, fun K J _ _ => by rw [hz]; exact Nat.zero_le _, fun K J _ hl => ?_⟩
    rw [Nat.zero_mul] at hl
    have : K * 2 ^ J = 0 := by
      rcases Nat.mul_eq_zero.1 (Nat.le_zero.1 hl) with h | h
      · exact h
      · omega
    omega
  · generalize hL : mag.log2 = L
    have hl1 : 2 ^ L ≤ mag := by rw [← hL]; exact Nat.log2_self_le hm
    have hl2 : mag < 2 ^ (L + 1) := by rw [← hL]; exact Nat.lt_log2_self
    generalize hlast : max (place + L - f.fractionBits) f.leastPlace = last
    have hla : f.leastPlace ≤ last := by omega
    have hlb : place + L - f.fractionBits ≤ last := by omega
    have hlc : last = f.leastPlace ∨ last = place + L - f.fractionBits := by omega
    obtain ⟨t, ht⟩ : ∃ t : Nat, last = f.leastPlace + t := ⟨(last - f.leastPlace).toNat, by omega⟩
    generalize ha : (place - last).toNat = a
    generalize hd : (last - place).toNat = d
    generalize hU' : (f.leastPlace + S).toNat = u
    generalize hX' : (place + S).toNat = x
    rw [hU', hX'] at hup
    rw [hU'] at hU
    have hexp : x + d = a + t + u := by omega
    have hkey : mag * 2 ^ x * 2 ^ d = mag * 2 ^ a * (2 ^ t * 2 ^ u) := by
      rw [Nat.mul_assoc, ← Nat.pow_add, hexp, Nat.pow_add, Nat.pow_add]; simp only [Nat.mul_assoc]
    have up : ∀ c, mag * 2 ^ x ≤ c * 2 ^ t * 2 ^ u → mag * 2 ^ a ≤ c * 2 ^ d := by
      intro c hc
      have h1 : mag * 2 ^ x * 2 ^ d ≤ c * 2 ^ t * 2 ^ u * 2 ^ d := Nat.mul_le_mul_right _ hc
      rw [hkey] at h1
      have h2 : c * 2 ^ t * 2 ^ u * 2 ^ d = c * 2 ^ d * (2 ^ t * 2 ^ u) := by simp only [Nat.mul_assoc, Nat.mul_comm, Nat.mul_left_comm]
      rw [h2] at h1
      exact Nat.le_of_mul_le_mul_right h1 (Nat.mul_pos (Nat.two_pow_pos _) hU)
    have dn : ∀ c, c * 2 ^ t * 2 ^ u ≤ mag * 2 ^ x → c * 2 ^ d ≤ mag * 2 ^ a := by
      intro c hc
      have h1 : c * 2 ^ t * 2 ^ u * 2 ^ d ≤ mag * 2 ^ x * 2 ^ d := Nat.mul_le_mul_right _ hc
      rw [hkey] at h1
      have h2 : c * 2 ^ t * 2 ^ u * 2 ^ d = c * 2 ^ d * (2 ^ t * 2 ^ u) := by simp only [Nat.mul_assoc, Nat.mul_comm, Nat.mul_left_comm]
      rw [h2] at h1
      exact Nat.le_of_mul_le_mul_right h1 (Nat.mul_pos (Nat.two_pow_pos _) hU)
    generalize hkept : Toward.even.cut neg (mag * 2 ^ a) d = kept
    have kup : ∀ c, mag * 2 ^ x ≤ c * 2 ^ t * 2 ^ u → kept ≤ c := fun c hc => by rw [← hkept]; exact cut_le _ _ _ _ (up c hc)
    have kdn : ∀ c, c * 2 ^ t * 2 ^ u ≤ mag * 2 ^ x → c ≤ kept := fun c hc => by rw [← hkept]; exact le_cut _ _ _ _ (dn c hc)
    have k2 : kept ≤ 2 * 2 ^ f.fractionBits := by
      refine kup _ ?_
      have h1 : mag * 2 ^ x ≤ 2 ^ (L + 1) * 2 ^ x := Nat.mul_le_mul_right _ (by omega)
      refine Nat.le_trans h1 ?_
      rw [show 2 * 2 ^ f.fractionBits = 2 ^ (f.fractionBits + 1) by rw [Nat.pow_succ, Nat.mul_comm], ← Nat.pow_add, ← Nat.pow_add, ← Nat.pow_add]
      exact Nat.pow_le_pow_right (by omega) (by omega)
    have hXlow : t ≠ 0 → 2 ^ f.fractionBits * 2 ^ t * 2 ^ u ≤ mag * 2 ^ x := by
      intro h0
      refine Nat.le_trans ?_ (Nat.mul_le_mul_right _ hl1)
      rw [← Nat.pow_add, ← Nat.pow_add, ← Nat.pow_add]
      exact Nat.pow_le_pow_right (by omega) (by omega)
    have k1 : t ≠ 0 → 2 ^ f.fractionBits ≤ kept := fun h0 => kdn _ (hXlow h0)
    have hU2 : ∀ K J, K < 2 ^ (f.fractionBits + 1) → mag * 2 ^ x ≤ K * 2 ^ J * 2 ^ u → kept * 2 ^ t ≤ K * 2 ^ J := by
      intro K J hK h
      by_cases hJ : t ≤ J
      · have e : K * 2 ^ J = K * 2 ^ (J - t) * 2 ^ t := by rw [Nat.mul_assoc, ← pow_split hJ]
        rw [e] at h ⊢
        exact Nat.mul_le_mul_right _ (kup _ h)
      · exfalso
        have h1 := hXlow (by omega)
        have h2 : 2 ^ f.fractionBits * 2 ^ t * 2 ^ u ≤ K * 2 ^ J * 2 ^ u := Nat.le_trans h1 h
        have h3 := Nat.le_of_mul_le_mul_right h2 hU
        have h4 : K * 2 ^ J < 2 ^ (f.fractionBits + 1) * 2 ^ J := Nat.mul_lt_mul_of_pos_right hK (Nat.two_pow_pos _)
        have h5 : 2 ^ (f.fractionBits + 1) * 2 ^ J ≤ 2 ^ f.fractionBits * 2 ^ t := by
          rw [← Nat.pow_add, ← Nat.pow_add]; exact Nat.pow_le_pow_right (by omega) (by omega)
        omega
    have hL2 : ∀ K J, K < 2 ^ (f.fractionBits + 1) → K * 2 ^ J * 2 ^ u ≤ mag * 2 ^ x → K * 2 ^ J ≤ kept * 2 ^ t := by
      intro K J hK h
      by_cases hJ : t ≤ J
      · have e : K * 2 ^ J = K * 2 ^ (J - t) * 2 ^ t := by rw [Nat.mul_assoc, ← pow_split hJ]
        rw [e] at h ⊢
        exact Nat.mul_le_mul_right _ (kdn _ h)
      · have h4 : K * 2 ^ J < 2 ^ (f.fractionBits + 1) * 2 ^ J := Nat.mul_lt_mul_of_pos_right hK (Nat.two_pow_pos _)
        have h5 : 2 ^ (f.fractionBits + 1) * 2 ^ J ≤ 2 ^ f.fractionBits * 2 ^ t := by
          rw [← Nat.pow_add, ← Nat.pow_add]; exact Nat.pow_le_pow_right (by omega) (by omega)
        have h6 : 2 ^ f.fractionBits * 2 ^ t ≤ kept * 2 ^ t := Nat.mul_le_mul_right _ (k1 (by omega))
        omega
    have hval : kept * 2 ^ t < 2 ^ (f.fractionBits + 2 ^ f.exponentBits - 2) := Nat.lt_of_le_of_lt (hU2 K0 J0 hK0 hup) hfin
    have hrung : t * 2 ^ f.fractionBits + kept < f.infRung := by
      rw [hinf]
      by_cases h0 : t = 0
      · subst h0
        have : 3 * 2 ^ f.fractionBits ≤ (2 ^ f.exponentBits - 1) * 2 ^ f.fractionBits := Nat.mul_le_mul_right _ (by omega)
        omega
      · have hk1 := k1 h0
        have h1 : 2 ^ (f.fractionBits + t) < 2 ^ (f.fractionBits + 2 ^ f.exponentBits - 2) := by
          rw [Nat.pow_add]; exact Nat.lt_of_le_of_lt (Nat.mul_le_mul_right _ hk1) hval
        have h2 := (Nat.pow_lt_pow_iff_right (by omega)).1 h1
        have hst : ∀ q, (t + q) * 2 ^ f.fractionBits = t * 2 ^ f.fractionBits + q * 2 ^ f.fractionBits := fun q => Nat.add_mul _ _ _
        by_cases hk3 : kept < 2 * 2 ^ f.fractionBits
        · have : (t + 2) * 2 ^ f.fractionBits ≤ (2 ^ f.exponentBits - 1) * 2 ^ f.fractionBits := Nat.mul_le_mul_right _ (by omega)
          have := hst 2
          omega
        · have hk4 : kept = 2 * 2 ^ f.fractionBits := by omega
          have h3 : 2 ^ (f.fractionBits + 1 + t) < 2 ^ (f.fractionBits + 2 ^ f.exponentBits - 2) := by
            rw [Nat.pow_add, Nat.pow_succ, Nat.mul_comm (2 ^ f.fractionBits) 2, ← hk4]; exact hval
          have h4 := (Nat.pow_lt_pow_iff_right (by omega)).1 h3
          have : (t + 3) * 2 ^ f.fractionBits ≤ (2 ^ f.exponentBits - 1) * 2 ^ f.fractionBits := Nat.mul_le_mul_right _ (by omega)
          have := hst 3
          omega
    obtain ⟨m, p, h1, h2, h3⟩ := read_word f neg hrung
    rw [rungMag_of _ _ _ (by by_cases h0 : t = 0; · exact .inl h0
                             · exact .inr (k1 h0)) k2] at h3
    refine ⟨m, p, ?_, h2, ?_, ?_⟩
    · rw [← h1]
      congr 1
      unfold Format.nearest
      rw [if_neg hm]
      simp only [hL, hlast, Nat.shiftLeft_eq, ha, hd, hkept]
      have : (last - f.leastPlace).toNat = t := by omega
      rw [this]
      congr 1
      exact Nat.min_eq_left (Nat.le_of_lt hrung)
    · intro K J hK h; rw [h3]; exact hU2 K J hK h
    · intro K J hK h; rw [h3]; exact hL2 K J hK h
end Go.Proofs.Ytbmbgailhiepbaa
