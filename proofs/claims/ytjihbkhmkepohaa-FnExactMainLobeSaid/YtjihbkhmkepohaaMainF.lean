/- The walks of MainLobe. -/
import Derived.Test.YtjihbkhmkepohaaMainW
namespace Go.Proofs.Ytjihbkhmkepohaa
open Go.RowKit

set_option maxHeartbeats 1000000 in
theorem specMainLobe_no (ad : Option Addr) (n cap : Nat) (a : Int) (w : World) (hn : n ≤ 1048576) (ha0 : -9223372036854775808 ≤ a) (ha1 : a ≤ 9223372036854775807) (h : ¬ (1 ≤ n ∧ n ≤ 129 ∧ 0 ≤ a ∧ a < n)) :
    Calls Try.prog 20 #[.slice ad n cap, .int .i64 a] w fun e w' => e = .returned (.tuple #[.int .i64 0, .int .i64 0, .bool false]) ∧ ∃ m, w' = w.drewN m := by
  by_cases h1 : (1 : Int) ≤ n
  · by_cases h2 : (n : Int) ≤ 129
    · by_cases h3 : 0 ≤ a
      · have h4 : ¬ a ≤ (n : Int) - 1 := by omega
        clear h
        go_enter Try.func20, Try.ntmps20
        go_wp2
        go_ret3
        exact ⟨rfl, 0, rfl⟩
      · clear h
        go_enter Try.func20, Try.ntmps20
        go_wp2
        go_ret3
        exact ⟨rfl, 0, rfl⟩
    · clear h
      go_enter Try.func20, Try.ntmps20
      go_wp2
      go_ret3
      exact ⟨rfl, 0, rfl⟩
  · clear h
    go_enter Try.func20, Try.ntmps20
    go_wp2
    go_ret3
    exact ⟨rfl, 0, rfl⟩

set_option maxHeartbeats 1000000 in
theorem specMainLobe_yes (ad : Option Addr) (n cap at0 : Nat) (f : Nat → Nat) (w : World) (hr : Rd w ad n (fun j => .float .f32 (f j))) (h1 : (1 : Int) ≤ n) (h2 : (n : Int) ≤ 129) (hat : (at0 : Int) < n) :
    Calls Try.prog 20 #[.slice ad n cap, .int .i64 at0] w fun e w' => e = .returned (.tuple #[.int .i64 (lowEnd (mainDown f) at0), .int .i64 (upEnd (mainUp f) n at0), .bool true]) ∧ ∃ m, w' = w.drewN m := by
  have HR := Lib.hid hr
  have hat2 : (at0 : Int) ≤ (n : Int) - 1 := by omega
  have hat3 : at0 < n := by omega
  clear hr
  go_enter Try.func20, Try.ntmps20
  go_wp2_with (first | (go_at_call 39; refine (l03Main_any ad n cap at0 f _ HR.out (by omega) hat3).mono ?_; rintro e w' ⟨rfl, m, rfl⟩) | go_in)
  go_ret3
  exact ⟨rfl, _, rfl⟩

set_option maxHeartbeats 1000000 in
theorem implMainLobe_no (ad : Option Addr) (n cap : Nat) (a : Int) (w : World) (hn : n ≤ 1048576) (ha0 : -9223372036854775808 ≤ a) (ha1 : a ≤ 9223372036854775807) (h : ¬ (1 ≤ n ∧ n ≤ 129 ∧ 0 ≤ a ∧ a < n)) :
    Calls Try.prog 21 #[.slice ad n cap, .int .i64 a] w fun e w' => e = .returned (.tuple #[.int .i64 0, .int .i64 0, .bool false]) ∧ ∃ m, w' = w.drewN m := by
  by_cases h1 : (1 : Int) ≤ n
  · by_cases h2 : (n : Int) ≤ 129
    · by_cases h3 : 0 ≤ a
      · have h4 : ¬ a ≤ (n : Int) - 1 := by omega
        clear h
        go_enter Try.func21, Try.ntmps21
        go_wp2
        go_ret3
        exact ⟨rfl, 0, rfl⟩
      · clear h
        go_enter Try.func21, Try.ntmps21
        go_wp2
        go_ret3
        exact ⟨rfl, 0, rfl⟩
    · clear h
      go_enter Try.func21, Try.ntmps21
      go_wp2
      go_ret3
      exact ⟨rfl, 0, rfl⟩
  · clear h
    go_enter Try.func21, Try.ntmps21
    go_wp2
    go_ret3
    exact ⟨rfl, 0, rfl⟩

set_option maxHeartbeats 1000000 in
theorem implMainLobe_yes (ad : Option Addr) (n cap at0 : Nat) (f : Nat → Nat) (w : World) (hr : Rd w ad n (fun j => .float .f32 (f j))) (h1 : (1 : Int) ≤ n) (h2 : (n : Int) ≤ 129) (hat : (at0 : Int) < n) :
    Calls Try.prog 21 #[.slice ad n cap, .int .i64 at0] w fun e w' => e = .returned (.tuple #[.int .i64 (lowEnd (mainDown f) at0), .int .i64 (upEnd (mainUp f) n at0), .bool true]) ∧ ∃ m, w' = w.drewN m := by
  have HR := Lib.hid hr
  have hat2 : (at0 : Int) ≤ (n : Int) - 1 := by omega
  have hat3 : at0 < n := by omega
  clear hr
  go_enter Try.func21, Try.ntmps21
  go_wp2_with (first | (go_at_call 40; refine (mainLobe_any ad n cap at0 f _ HR.out (by omega) hat3).mono ?_; rintro e w' ⟨rfl, m, rfl⟩) | go_in)
  go_ret3
  exact ⟨rfl, _, rfl⟩
end Go.Proofs.Ytjihbkhmkepohaa
