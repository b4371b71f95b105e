/- NullWeights, both, by contracts: first the searches. -/
import Derived.Test.YtbmbgailhiepbaaNulS
import Derived.Test.YtbmbgailhiepbaaPhI
import Derived.Test.YtbmbgailhiepbaaPhS
import Derived.Test.YtbmbgailhiepbaaTapW
namespace Go.Proofs.Ytbmbgailhiepbaa
open Go.RowKit Ieee

def inU (u : Int) : Bool := decide (-64 ≤ u ∧ u ≤ 64)
theorem inU_yes {u : Int} (h : inU u = true) : -64 ≤ u ∧ u ≤ 64 := of_decide_eq_true h
theorem inU_no {u : Int} (h : inU u = false) : ¬ (-64 ≤ u ∧ u ≤ 64) := of_decide_eq_false h

theorem badI (u : Int) (w : World) :
    Calls Try.prog 52 #[.int .i64 u] w fun e w' => e = .returned (.bool (!inU u)) ∧ w = w' := by
  cases h : inU u with
  | true =>
    have h' := inU_yes h
    go_enter Try.func52, Try.ntmps52
    go_wp2_with (go_at_call 40; refine (withinI_yes _ _ _ (by omega) (by omega) _).mono ?_; rintro e w' ⟨rfl, rfl⟩)
    all_goals go_ret
    all_goals exact ⟨rfl, rfl⟩
  | false =>
    have h' := inU_no h
    go_enter Try.func52, Try.ntmps52
    go_wp2_with (go_at_call 40; refine (withinI_no _ _ _ (by omega) _).mono ?_; rintro e w' ⟨rfl, rfl⟩)
    all_goals go_ret
    all_goals exact ⟨rfl, rfl⟩

/-- The first of the nulls from k on that is out of range, or -1. -/
def firstBad (u : Nat → Int) (n : Nat) : Nat → Nat → Int
  | 0, _ => -1
  | d + 1, k => if inU (u k) then firstBad u n d (k + 1) else k
theorem firstBad_all {u : Nat → Int} {n : Nat} (d k : Nat) (hk : k + d = n) (h : ∀ j, j < n → inU (u j) = true) : firstBad u n d k = -1 := by
  induction d generalizing k with
  | zero => rfl
  | succ d ih =>
    unfold firstBad
    rw [if_pos (h k (by omega))]
    exact ih (k + 1) (by omega)
theorem firstBad_some {u : Nat → Int} {n : Nat} (d k : Nat) (hk : k + d = n) (j : Nat) (hj : k ≤ j) (hjn : j < n) (h : inU (u j) = false) : 0 ≤ firstBad u n d k := by
  induction d generalizing k with
  | zero => omega
  | succ d ih =>
    unfold firstBad
    split
    · rename_i hg
      have : j ≠ k := by rintro rfl; rw [h] at hg; cases hg
      exact ih (k + 1) (by omega) (by omega)
    · omega

set_option maxHeartbeats 1000000 in
theorem indexI (ad : Option Addr) (n cap : Nat) (u : Nat → Int) (w : World) (hr : Rd w ad n (fun j => .int .i64 (u j))) (hn : n ≤ 1048576) :
    Calls Try.prog 76 #[.slice ad n cap, .func (.func 52) #[] #[]] w fun e w' => e = .returned (.int .i64 (firstBad u n n 0)) ∧ w = w' := by
  have HR := Lib.hid hr
  clear hr
  go_enter Try.func76, Try.ntmps76
  go_wp2
  go_loopw [5, 8] (fun _ x wr => ∃ k d : Nat, k + d = n ∧ x = .int .i64 k ∧ Hid (firstBad u n n 0 = firstBad u n d k) ∧ wr = w) (fun _ x _ => n - (intOf x).toNat)
  case atStart => exact ⟨0, n, by omega, rfl, Lib.hid rfl, rfl⟩
  case round =>
    obtain ⟨k, d, hk, rfl, HF, rfl⟩ := hrel
    by_cases hlt : k < n
    · obtain ⟨d, rfl⟩ : ∃ q, d = q + 1 := ⟨d - 1, by omega⟩
      obtain ⟨b, off, rfl, hb, hc⟩ := HR.out.at hlt
      have hck := hc k hlt
      clear hc
      cases hg : inU (u k) with
      | true =>
        have cB : ∀ v, Calls Try.prog 52 #[.int .i64 (u k)] v fun e w' => e = .returned (.bool false) ∧ v = w' := fun v => by have := badI (u k) v; rw [hg] at this; exact this
        have HN := Lib.hid (show firstBad u n (d + 1) k = firstBad u n d (k + 1) from if_pos hg)
        clear hg
        go_wp2_with (go_at_call 52; refine (cB _).mono ?_; rintro e w' ⟨rfl, rfl⟩)
        go_roundw
        case rel => exact ⟨k + 1, d, by omega, by go_num, Lib.hid (by rw [HF.out, HN.out]), by first | rfl | trivial⟩
        case measure => simp [intOf]; omega
      | false =>
        have cB : ∀ v, Calls Try.prog 52 #[.int .i64 (u k)] v fun e w' => e = .returned (.bool true) ∧ v = w' := fun v => by have := badI (u k) v; rw [hg] at this; exact this
        have HN := Lib.hid (show firstBad u n (d + 1) k = k from if_neg (by rw [hg]; decide))
        clear hg
        go_wp2_with (go_at_call 52; refine (cB _).mono ?_; rintro e w' ⟨rfl, rfl⟩)
        go_ret
        exact ⟨by rw [HF.out, HN.out]; rfl, rfl⟩
    · have hd : d = 0 := by omega
      subst hd
      go_wp2
      go_ret
      exact ⟨by rw [HF.out]; rfl, rfl⟩

def hasBad (u : Nat → Int) (n : Nat) : Bool := decide (0 ≤ firstBad u n n 0)
set_option maxHeartbeats 1000000 in
theorem containsI (ad : Option Addr) (n cap : Nat) (u : Nat → Int) (w : World) (hr : Rd w ad n (fun j => .int .i64 (u j))) (hn : n ≤ 1048576) :
    Calls Try.prog 53 #[.slice ad n cap, .func (.func 52) #[] #[]] w fun e w' => e = .returned (.bool (hasBad u n)) ∧ w = w' := by
  have cI := indexI ad n cap u w hr hn
  unfold hasBad
  generalize firstBad u n n 0 = f at *
  clear hr
  by_cases hf : 0 ≤ f
  · rw [decide_eq_true hf]
    go_enter Try.func53, Try.ntmps53
    go_wp2_with (go_at_call 76; refine cI.mono ?_; rintro e w' ⟨rfl, rfl⟩)
    all_goals go_ret
    all_goals exact ⟨rfl, rfl⟩
  · have hd : decide (0 ≤ f) = false := decide_eq_false hf
    rw [hd]
    go_enter Try.func53, Try.ntmps53
    go_wp2_with (go_at_call 76; refine cI.mono ?_; rintro e w' ⟨rfl, rfl⟩)
    all_goals go_ret
    all_goals exact ⟨rfl, rfl⟩

theorem turns_bd {s u : Int} (h1 : 1 ≤ s) (h2 : s ≤ 4096) (h3 : -64 ≤ u) (h4 : u ≤ 64) : -262144 ≤ s * u ∧ s * u ≤ 262144 := by
  constructor
  · have : s * (-64) ≤ s * u := Int.mul_le_mul_of_nonneg_left h3 (by omega)
    omega
  · have : s * u ≤ s * 64 := Int.mul_le_mul_of_nonneg_left h4 (by omega)
    omega

theorem int_bpz (i : Int) (e : Nat) (he : e ≤ 52) (h : i.natAbs ≤ 2 ^ e) : Bp (cf .f64 (floatOfInt .f64 i)) e := by
  have h53 : i.natAbs < 2 ^ 53 := Nat.lt_of_le_of_lt h (Nat.pow_lt_pow_right (by omega) (by omega))
  obtain ⟨c, j, r1, r2, r3⟩ := exact_int Ieee.double (by decide) eL (by decide) (by decide) (decide (i < 0)) i.natAbs (by rw [p53]; omega)
  have hE := eL_eq
  refine ⟨decide (i < 0), c, j, ?_, by omega, ?_⟩
  · show canon (Ieee.double.read (Ieee.double.nearest (decide (i < 0)) i.natAbs 0)) = _
    rw [r1]; rfl
  · rw [r3, Nat.pow_add]
    exact Nat.mul_le_mul_right _ h

theorem c4096 : floatOfInt .f64 4096 = 4661225614328463360 := by decide +kernel
theorem tuB_all {i : Int} (h1 : -262144 ≤ i) (h2 : i ≤ 262144) : floatBits .quo .f64 (floatOfInt .f64 i) 4661225614328463360 = some (fB .quo (floatOfInt .f64 i) 4661225614328463360) ∧ Bp (cf .f64 (fB .quo (floatOfInt .f64 i) 4661225614328463360)) 51 := by
  have hl := Lb_int 4096 (by omega) (by omega)
  rw [show ((4096 : Nat) : Int) = 4096 from rfl, c4096] at hl
  have h := B_div (int_bpz i 18 (by omega) (by omega)) hl (by omega)
  exact ⟨h.1, h.2.mono (by omega)⟩
end Go.Proofs.Ytbmbgailhiepbaa
