/- The draws: NextSeed's step, draw, and the symbol's half, by contracts. -/
import Derived.Test.YtbmbgailhiepbaaRows
import Derived.Test.YtbmbgailhiepbaaMem
import Derived.BigQuiet
namespace Go.Proofs.Ytbmbgailhiepbaa
open Go.RowKit

def nx (n : Int) : Int := (1103515245 * n + 12345) % 2147483648
def dr (s i : Int) : Int := (nx (nx ((s + 40503 * i) % 2147483648))) / 65536
def hf (k : Int) : Nat := if k % 2 = 1 then 3204448256 else 1056964608

theorem tmod_in (a : Int) : 0 ≤ a % 2147483648 ∧ a % 2147483648 ≤ 2147483647 := by omega
theorem nx_in (n : Int) : 0 ≤ nx n ∧ nx n ≤ 2147483647 := tmod_in _
theorem dr_in (s i : Int) : 0 ≤ dr s i ∧ dr s i ≤ 32767 := by
  unfold dr
  have h1 := nx_in (nx ((s + 40503 * i) % 2147483648))
  omega

set_option maxHeartbeats 400000 in
theorem nextS (n : Int) (h0 : 0 ≤ n) (h1 : n ≤ 2147483647) (w : World) :
    Calls Try.prog 88 #[.int .i64 n] w fun e w' => e = .returned (.int .i64 (nx n)) ∧ w = w' := by
  go_enter Try.func88, Try.ntmps88
  go_wp2
  all_goals go_ret
  all_goals exact ⟨rfl, rfl⟩

set_option maxHeartbeats 400000 in
theorem nextI (n : Int) (h0 : 0 ≤ n) (h1 : n ≤ 2147483647) (w : World) :
    Calls Try.prog 89 #[.int .i64 n] w fun e w' => e = .returned (.int .i64 (nx n)) ∧ w = w' := by
  go_enter Try.func89, Try.ntmps89
  go_wp2
  all_goals go_ret
  all_goals exact ⟨rfl, rfl⟩

set_option maxHeartbeats 400000 in
theorem drawS (s i : Int) (h0 : 0 ≤ s) (h1 : s ≤ 2147483647) (h2 : 0 ≤ i) (h3 : i ≤ 1000000000) (w : World) :
    Calls Try.prog 67 #[.int .i64 s, .int .i64 i] w fun e w' => e = .returned (.int .i64 (dr s i)) ∧ w = w' := by
  have q1 := tmod_in (s + 40503 * i)
  have q2 := nx_in ((s + 40503 * i) % 2147483648)
  have q3 := nx_in (nx ((s + 40503 * i) % 2147483648))
  go_enter Try.func67, Try.ntmps67
  go_wp2_with (go_at_call 88; refine (nextS _ (by omega) (by omega) _).mono ?_; rintro e w' ⟨rfl, rfl⟩)
  all_goals go_ret
  all_goals exact ⟨rfl, rfl⟩

set_option maxHeartbeats 400000 in
theorem drawI (s i : Int) (h0 : 0 ≤ s) (h1 : s ≤ 2147483647) (h2 : 0 ≤ i) (h3 : i ≤ 1000000000) (w : World) :
    Calls Try.prog 69 #[.int .i64 s, .int .i64 i] w fun e w' => e = .returned (.int .i64 (dr s i)) ∧ w = w' := by
  have q1 := tmod_in (s + 40503 * i)
  have q2 := nx_in ((s + 40503 * i) % 2147483648)
  have q3 := nx_in (nx ((s + 40503 * i) % 2147483648))
  go_enter Try.func69, Try.ntmps69
  go_wp2_with (go_at_call 89; refine (nextI _ (by omega) (by omega) _).mono ?_; rintro e w' ⟨rfl, rfl⟩)
  all_goals go_ret
  all_goals exact ⟨rfl, rfl⟩
set_option maxHeartbeats 400000 in
theorem halfI (k : Int) (h0 : 0 ≤ k) (w : World) :
    Calls Try.prog 70 #[.int .i64 k] w fun e w' => e = .returned (.float .f32 (hf k)) ∧ w = w' := by
  by_cases h : k % 2 = 1
  · have e1 : hf k = 3204448256 := if_pos h
    rw [e1]
    clear e1
    go_enter Try.func70, Try.ntmps70
    go_wp2
    all_goals go_ret
    all_goals exact ⟨rfl, rfl⟩
  · have e1 : hf k = 1056964608 := if_neg h
    rw [e1]
    clear e1
    go_enter Try.func70, Try.ntmps70
    go_wp2
    all_goals go_ret
    all_goals exact ⟨rfl, rfl⟩

def sym (s i : Int) : Value := .complex .f32 (hf (dr s (2 * i) / 16384)) (hf (dr s (2 * i) / 8192))

set_option maxHeartbeats 400000 in
theorem symbolI (s i : Int) (h0 : 0 ≤ s) (h1 : s ≤ 2147483647) (h2 : 0 ≤ i) (h3 : i ≤ 1000000) (w : World) :
    Calls Try.prog 44 #[.int .i64 s, .int .i64 i] w fun e w' => e = .returned (sym s i) ∧ w = w' := by
  have q1 := dr_in s (2 * i)
  go_enter Try.func44, Try.ntmps44
  go_wp2_with (first | (go_at_call 69; refine (drawI _ _ (by omega) (by omega) (by omega) (by omega) _).mono ?_; rintro e w' ⟨rfl, rfl⟩) | (go_at_call 70; refine (halfI _ (by omega) _).mono ?_; rintro e w' ⟨rfl, rfl⟩))
  all_goals go_ret
  all_goals exact ⟨rfl, rfl⟩

set_option maxHeartbeats 400000 in
theorem symbolS (s i : Int) (h0 : 0 ≤ s) (h1 : s ≤ 2147483647) (h2 : 0 ≤ i) (h3 : i ≤ 1000000) (w : World) :
    Calls Try.prog 43 #[.int .i64 s, .int .i64 i] w fun e w' => e = .returned (sym s i) ∧ w = w' := by
  have q1 := dr_in s (2 * i)
  unfold sym
  by_cases k1 : dr s (2 * i) / 16384 % 2 = 1
  · have e1 : hf (dr s (2 * i) / 16384) = 3204448256 := if_pos k1
    rw [e1]
    clear e1
    by_cases k2 : dr s (2 * i) / 8192 % 2 = 1
    · have e2 : hf (dr s (2 * i) / 8192) = 3204448256 := if_pos k2
      rw [e2]
      clear e2
      go_enter Try.func43, Try.ntmps43
      go_wp2_with (go_at_call 67; refine (drawS _ _ (by omega) (by omega) (by omega) (by omega) _).mono ?_; rintro e w' ⟨rfl, rfl⟩)
      all_goals go_ret
      all_goals exact ⟨rfl, rfl⟩
    · have e2 : hf (dr s (2 * i) / 8192) = 1056964608 := if_neg k2
      rw [e2]
      clear e2
      go_enter Try.func43, Try.ntmps43
      go_wp2_with (go_at_call 67; refine (drawS _ _ (by omega) (by omega) (by omega) (by omega) _).mono ?_; rintro e w' ⟨rfl, rfl⟩)
      all_goals go_ret
      all_goals exact ⟨rfl, rfl⟩
  · have e1 : hf (dr s (2 * i) / 16384) = 1056964608 := if_neg k1
    rw [e1]
    clear e1
    by_cases k2 : dr s (2 * i) / 8192 % 2 = 1
    · have e2 : hf (dr s (2 * i) / 8192) = 3204448256 := if_pos k2
      rw [e2]
      clear e2
      go_enter Try.func43, Try.ntmps43
      go_wp2_with (go_at_call 67; refine (drawS _ _ (by omega) (by omega) (by omega) (by omega) _).mono ?_; rintro e w' ⟨rfl, rfl⟩)
      all_goals go_ret
      all_goals exact ⟨rfl, rfl⟩
    · have e2 : hf (dr s (2 * i) / 8192) = 1056964608 := if_neg k2
      rw [e2]
      clear e2
      go_enter Try.func43, Try.ntmps43
      go_wp2_with (go_at_call 67; refine (drawS _ _ (by omega) (by omega) (by omega) (by omega) _).mono ?_; rintro e w' ⟨rfl, rfl⟩)
      all_goals go_ret
      all_goals exact ⟨rfl, rfl⟩

def symOk (s i : Int) : Bool := decide (0 ≤ s ∧ s ≤ 2147483647 ∧ 0 ≤ i ∧ i ≤ 1000000)
def symOf (s i : Int) : Value := if symOk s i then .tuple #[sym s i, .bool true] else .tuple #[.complex .f32 0 0, .bool false]

theorem symOf_no {s i : Int} (h : ¬ (0 ≤ s ∧ s ≤ 2147483647 ∧ 0 ≤ i ∧ i ≤ 1000000)) : symOf s i = .tuple #[.complex .f32 0 0, .bool false] := by
  have : symOk s i = false := decide_eq_false h
  simp [symOf, this]
theorem symOf_yes {s i : Int} (h : 0 ≤ s ∧ s ≤ 2147483647 ∧ 0 ≤ i ∧ i ≤ 1000000) : symOf s i = .tuple #[sym s i, .bool true] := by
  have : symOk s i = true := decide_eq_true h
  simp [symOf, this]

set_option maxHeartbeats 800000 in
theorem symbolOfS (s i : Int) (w : World) :
    Calls Try.prog 11 #[.int .i64 s, .int .i64 i] w fun e w' => e = .returned (symOf s i) ∧ w = w' := by
  by_cases c0 : 0 ≤ s
  · by_cases c1 : s ≤ 2147483647
    · by_cases c2 : 0 ≤ i
      · by_cases c3 : i ≤ 1000000
        · rw [symOf_yes ⟨c0, c1, c2, c3⟩]
          go_enter Try.func11, Try.ntmps11
          go_wp2_with (first | (go_at_call 43; refine (symbolS _ _ (by omega) (by omega) (by omega) (by omega) _).mono ?_; rintro e w' ⟨rfl, rfl⟩) | go_in)
          all_goals go_ret2
          all_goals exact ⟨rfl, rfl⟩
        · rw [symOf_no (by omega)]
          go_enter Try.func11, Try.ntmps11
          go_wp2_with (first | (go_at_call 43; refine (symbolS _ _ (by omega) (by omega) (by omega) (by omega) _).mono ?_; rintro e w' ⟨rfl, rfl⟩) | go_in)
          all_goals go_ret2
          all_goals exact ⟨rfl, rfl⟩
      · rw [symOf_no (by omega)]
        go_enter Try.func11, Try.ntmps11
        go_wp2_with (first | (go_at_call 43; refine (symbolS _ _ (by omega) (by omega) (by omega) (by omega) _).mono ?_; rintro e w' ⟨rfl, rfl⟩) | go_in)
        all_goals go_ret2
        all_goals exact ⟨rfl, rfl⟩
    · rw [symOf_no (by omega)]
      go_enter Try.func11, Try.ntmps11
      go_wp2_with (first | (go_at_call 43; refine (symbolS _ _ (by omega) (by omega) (by omega) (by omega) _).mono ?_; rintro e w' ⟨rfl, rfl⟩) | go_in)
      all_goals go_ret2
      all_goals exact ⟨rfl, rfl⟩
  · rw [symOf_no (by omega)]
    go_enter Try.func11, Try.ntmps11
    go_wp2_with (first | (go_at_call 43; refine (symbolS _ _ (by omega) (by omega) (by omega) (by omega) _).mono ?_; rintro e w' ⟨rfl, rfl⟩) | go_in)
    all_goals go_ret2
    all_goals exact ⟨rfl, rfl⟩

set_option maxHeartbeats 800000 in
theorem symbolOfI (s i : Int) (w : World) :
    Calls Try.prog 12 #[.int .i64 s, .int .i64 i] w fun e w' => e = .returned (symOf s i) ∧ w = w' := by
  by_cases c0 : 0 ≤ s
  · by_cases c1 : s ≤ 2147483647
    · by_cases c2 : 0 ≤ i
      · by_cases c3 : i ≤ 1000000
        · rw [symOf_yes ⟨c0, c1, c2, c3⟩]
          go_enter Try.func12, Try.ntmps12
          go_wp2_with (first | (go_at_call 44; refine (symbolI _ _ (by omega) (by omega) (by omega) (by omega) _).mono ?_; rintro e w' ⟨rfl, rfl⟩) | go_in)
          all_goals go_ret2
          all_goals exact ⟨rfl, rfl⟩
        · rw [symOf_no (by omega)]
          go_enter Try.func12, Try.ntmps12
          go_wp2_with (first | (go_at_call 44; refine (symbolI _ _ (by omega) (by omega) (by omega) (by omega) _).mono ?_; rintro e w' ⟨rfl, rfl⟩) | go_in)
          all_goals go_ret2
          all_goals exact ⟨rfl, rfl⟩
      · rw [symOf_no (by omega)]
        go_enter Try.func12, Try.ntmps12
        go_wp2_with (first | (go_at_call 44; refine (symbolI _ _ (by omega) (by omega) (by omega) (by omega) _).mono ?_; rintro e w' ⟨rfl, rfl⟩) | go_in)
        all_goals go_ret2
        all_goals exact ⟨rfl, rfl⟩
    · rw [symOf_no (by omega)]
      go_enter Try.func12, Try.ntmps12
      go_wp2_with (first | (go_at_call 44; refine (symbolI _ _ (by omega) (by omega) (by omega) (by omega) _).mono ?_; rintro e w' ⟨rfl, rfl⟩) | go_in)
      all_goals go_ret2
      all_goals exact ⟨rfl, rfl⟩
  · rw [symOf_no (by omega)]
    go_enter Try.func12, Try.ntmps12
    go_wp2_with (first | (go_at_call 44; refine (symbolI _ _ (by omega) (by omega) (by omega) (by omega) _).mono ?_; rintro e w' ⟨rfl, rfl⟩) | go_in)
    all_goals go_ret2
    all_goals exact ⟨rfl, rfl⟩

end Go.Proofs.Ytbmbgailhiepbaa
