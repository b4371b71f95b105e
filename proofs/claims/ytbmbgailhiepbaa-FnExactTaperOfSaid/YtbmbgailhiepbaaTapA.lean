/- TaperOf, both, for all arguments. -/
import Derived.Test.YtbmbgailhiepbaaTapS
namespace Go.Proofs.Ytbmbgailhiepbaa
open Go.RowKit Ieee

def tapOk (k c : Int) : Bool := decide (0 ≤ k ∧ k ≤ 3 ∧ 1 ≤ c ∧ c ≤ 16)
def tapLen (k c : Int) : Nat := if tapOk k c then c.toNat else 0

theorem taperSk (k : Int) (hk0 : 0 ≤ k) (hk3 : k ≤ 3) (n : Nat) (hn : n < 17) (h1 : 1 ≤ n) (w : World) :
    Calls Try.prog 13 #[.int .i64 k, .int .i64 n] w fun e w' => ∃ v, e = .returned (.tuple #[v, .bool true]) ∧ Own w' w.heap.size w'.heap.size 22 v n (fun j => .float .f32 (el k n j)) ∧ Below w.heap.size w w' := by
  rcases (by omega : k = 0 ∨ k = 1 ∨ k = 2 ∨ k = 3) with rfl | rfl | rfl | rfl
  · exact taperS0 n hn h1 w
  · exact taperS1 n hn h1 w
  · exact taperS2 n hn h1 w
  · exact taperS3 n hn h1 w

set_option maxRecDepth 100000 in
set_option maxHeartbeats 1000000 in
theorem taperOfS (k c : Int) (b : Bool) (n : Nat) (hb : tapOk k c = b) (hn : tapLen k c = n) (w : World) :
    Calls Try.prog 13 #[.int .i64 k, .int .i64 c] w fun e w' => ∃ v, e = .returned (.tuple #[v, .bool b]) ∧ Own w' w.heap.size w'.heap.size 22 v n (fun j => .float .f32 (el k n j)) ∧ Below w.heap.size w w' := by
  by_cases h : 0 ≤ k ∧ k ≤ 3 ∧ 1 ≤ c ∧ c ≤ 16
  · have e : tapOk k c = true := decide_eq_true h
    have e2 : tapLen k c = c.toNat := by unfold tapLen; rw [e]; rfl
    rw [e] at hb
    subst hb
    rw [e2] at hn
    obtain ⟨m, rfl⟩ := Int.eq_ofNat_of_zero_le (show 0 ≤ c by omega)
    have hm : n = m := by omega
    subst hm
    exact taperSk k h.1 h.2.1 n (by omega) (by omega) w
  · have e : tapOk k c = false := decide_eq_false h
    have e2 : tapLen k c = 0 := by unfold tapLen; rw [e]; rfl
    rw [e] at hb
    subst hb
    rw [e2] at hn
    subst hn
    clear e e2
    by_cases hk : 0 ≤ k ∧ k ≤ 3
    · have hc : ¬ (1 ≤ c ∧ c ≤ 16) := by omega
      clear h
      go_enter Try.func13, Try.ntmps13
      go_wp2_with (first | (go_at_call 36; first | (refine (inS_yes _ _ _ (by omega) (by omega) _).mono ?_; rintro e w' ⟨rfl, rfl⟩) | (refine (inS_no _ _ _ (by omega) _).mono ?_; rintro e w' ⟨rfl, rfl⟩)))
      all_goals go_ret2
      all_goals exact ⟨_, rfl, Own.nil _ _ _ _ _, Below.refl _ _⟩
    · clear h
      go_enter Try.func13, Try.ntmps13
      go_wp2_with (first | (go_at_call 36; first | (refine (inS_yes _ _ _ (by omega) (by omega) _).mono ?_; rintro e w' ⟨rfl, rfl⟩) | (refine (inS_no _ _ _ (by omega) _).mono ?_; rintro e w' ⟨rfl, rfl⟩)))
      all_goals go_ret2
      all_goals exact ⟨_, rfl, Own.nil _ _ _ _ _, Below.refl _ _⟩

set_option maxRecDepth 100000 in
set_option maxHeartbeats 1000000 in
theorem taperOfI (k c : Int) (b : Bool) (n : Nat) (hb : tapOk k c = b) (hn : tapLen k c = n) (w : World) :
    Calls Try.prog 14 #[.int .i64 k, .int .i64 c] w fun e w' => ∃ v, e = .returned (.tuple #[v, .bool b]) ∧ Own w' w.heap.size w'.heap.size 22 v n (fun j => .float .f32 (el k n j)) ∧ Below w.heap.size w w' := by
  by_cases h : 0 ≤ k ∧ k ≤ 3 ∧ 1 ≤ c ∧ c ≤ 16
  · have e : tapOk k c = true := decide_eq_true h
    have e2 : tapLen k c = c.toNat := by unfold tapLen; rw [e]; rfl
    rw [e] at hb
    subst hb
    rw [e2] at hn
    obtain ⟨m, rfl⟩ := Int.eq_ofNat_of_zero_le (show 0 ≤ c by omega)
    have hm : n = m := by omega
    subst hm
    exact taperI1 k h.1 h.2.1 n (by omega) (by omega) w
  · have e : tapOk k c = false := decide_eq_false h
    have e2 : tapLen k c = 0 := by unfold tapLen; rw [e]; rfl
    rw [e] at hb
    subst hb
    rw [e2] at hn
    subst hn
    clear e e2
    by_cases hk : 0 ≤ k ∧ k ≤ 3
    · have hc : ¬ (1 ≤ c ∧ c ≤ 16) := by omega
      clear h
      go_enter Try.func14, Try.ntmps14
      go_wp2_with (first | (go_at_call 40; first | (refine (withinI_yes _ _ _ (by omega) (by omega) _).mono ?_; rintro e w' ⟨rfl, rfl⟩) | (refine (withinI_no _ _ _ (by omega) _).mono ?_; rintro e w' ⟨rfl, rfl⟩)) | (go_at_call 48; refine (countI_no _ (by omega) _).mono ?_; rintro e w' ⟨rfl, rfl⟩))
      all_goals go_ret2
      all_goals exact ⟨_, rfl, Own.nil _ _ _ _ _, Below.refl _ _⟩
    · clear h
      go_enter Try.func14, Try.ntmps14
      go_wp2_with (first | (go_at_call 40; first | (refine (withinI_yes _ _ _ (by omega) (by omega) _).mono ?_; rintro e w' ⟨rfl, rfl⟩) | (refine (withinI_no _ _ _ (by omega) _).mono ?_; rintro e w' ⟨rfl, rfl⟩)) | (go_at_call 48; refine (countI_no _ (by omega) _).mono ?_; rintro e w' ⟨rfl, rfl⟩))
      all_goals go_ret2
      all_goals exact ⟨_, rfl, Own.nil _ _ _ _ _, Below.refl _ _⟩
end Go.Proofs.Ytbmbgailhiepbaa
