/- eqInt64S, markInt64S, heldInt64S -/
import Derived.Test.YtjihbkhmkepohaaRows
import Derived.Test.YtjihbkhmkepohaaMem
import Derived.Test.YtjihbkhmkepohaaFlq
import Derived.BigQuiet
namespace Go.Proofs.Ytjihbkhmkepohaa
open Go.RowKit

set_option maxHeartbeats 400000 in
theorem eqI_any (ad ad2 : Option Addr) (n cap cap2 : Nat) (f : Nat → Int) (w : World) (hr : Rd w ad n (fun j => .int .i64 (f j))) (hr2 : Rd w ad2 n (fun j => .int .i64 (f j))) (hn : n ≤ 16777216) :
    Calls Try.prog 26 #[.slice ad n cap, .slice ad2 n cap2] w fun e w' => e = .returned (.bool true) ∧ ∃ m, w' = w.drewN m := by
  have HR := Lib.hid hr
  have HR2 := Lib.hid hr2
  clear hr hr2
  go_enter Try.func26, Try.ntmps26
  go_wp2
  go_loopw [5] (fun i wr => ∃ k : Nat, k ≤ n ∧ i = .int .i64 k ∧ ∃ m, wr = w.drewN m) (fun i _ => n - (intOf i).toNat)
  case atStart => exact ⟨0, Nat.zero_le _, rfl, 0, rfl⟩
  case round =>
    obtain ⟨k, hk, rfl, m, rfl⟩ := hrel
    by_cases hlt : k < n
    · obtain ⟨b, off, rfl, hb, hc⟩ := HR.out.at hlt
      obtain ⟨b2, off2, rfl, hb2, hc2⟩ := HR2.out.at hlt
      have hck := hc k hlt
      have hck2 := hc2 k hlt
      clear hc hc2
      go_wp2
      go_quiet (fail)
      go_wp2
      go_roundw
      case rel => exact ⟨k + 1, by omega, by go_num, _, rfl⟩
      case measure => simp [intOf]; omega
    · have : k = n := by omega
      subst this
      go_wp2
      go_ret
      exact ⟨rfl, m, rfl⟩

theorem markI_none (k : Int) (w : World) :
    Calls Try.prog 28 #[.slice none 0 0, .int .i64 k] w fun e w' => e = .returned (.int .i64 k) ∧ w' = w := by
  go_enter Try.func28, Try.ntmps28
  go_wp2
  refine wp_loop_rounds 1 ?_
  rw [rounds_succ]
  go_wp2
  go_ret
  exact ⟨rfl, rfl⟩

set_option maxHeartbeats 400000 in
theorem markI_some (g n cap : Nat) (f : Nat → Value) (k : Int) (w : World) (lo hi : Nat) (ho : Own w lo hi 2 (.slice (some ⟨g, 0, none⟩) n cap) n f) (hn : n ≤ 16777216) (hk0 : 0 ≤ k) (hk1 : k ≤ 1099511627776) :
    Calls Try.prog 28 #[.slice (some ⟨g, 0, none⟩) n cap, .int .i64 k] w fun e w' => e = .returned (.int .i64 (k + n)) ∧ Own w' lo hi 2 (.slice (some ⟨g, 0, none⟩) n cap) n (fun j => .int .i64 (k + (j : Int))) ∧ Kept w w' lo hi := by
  go_enter Try.func28, Try.ntmps28
  go_wp2
  go_loopw [1, 5] (fun q i wr => ∃ m : Nat, m ≤ n ∧ i = .int .i64 m ∧ q = .int .i64 (k + m) ∧ Own wr lo hi 2 (.slice (some ⟨g, 0, none⟩) n cap) n (fun j => if j < m then .int .i64 (k + (j : Int)) else f j) ∧ Kept w wr lo hi) (fun _ i _ => n - (intOf i).toNat)
  case atStart => exact ⟨0, Nat.zero_le _, rfl, by simp, by simpa using ho, Kept.refl _ _ _⟩
  case round =>
    obtain ⟨m, hm, rfl, rfl, how, hkw⟩ := hrel
    clear ho
    by_cases hlt : m < n
    · have hold := how.cell hlt
      have hfr := how.frozen m
      have HS := Lib.hid (how.store m (.int .i64 (k + (m : Int))))
      clear how
      go_wp2
      go_roundw
      case rel =>
        refine ⟨m + 1, by omega, by go_num, by go_num, HS.out.1.congr (fun j _ => ?_), hkw.trans HS.out.2⟩
        by_cases h1 : j = m
        · subst h1; simp
        · simp [h1, show (j < m + 1) = (j < m) by simp; omega]
      case measure => simp [intOf]; omega
    · have : m = n := by omega
      subst this
      go_wp2
      go_ret
      exact ⟨rfl, how.congr (fun j hj => by simp [hj]), hkw⟩

theorem markI_any (v : Value) (n : Nat) (f : Nat → Value) (k : Int) (w : World) (lo hi : Nat) (ho : Own w lo hi 2 v n f) (hn : n ≤ 16777216) (hk0 : 0 ≤ k) (hk1 : k ≤ 1099511627776) :
    Calls Try.prog 28 #[v, .int .i64 k] w fun e w' => e = .returned (.int .i64 (k + n)) ∧ Own w' lo hi 2 v n (fun j => .int .i64 (k + (j : Int))) ∧ Kept w w' lo hi := by
  rcases ho.lt with ⟨rfl, rfl⟩ | ⟨g, cap, rfl, _⟩
  · refine (markI_none k w).mono ?_
    rintro e w' ⟨rfl, rfl⟩
    exact ⟨by simp, Own.nil _ _ _ _ _, Kept.refl _ _ _⟩
  · exact markI_some g n cap f k w lo hi ho hn hk0 hk1

theorem heldI_none (k : Int) (w : World) :
    Calls Try.prog 29 #[.slice none 0 0, .int .i64 k] w fun e w' => e = .returned (.int .i64 k) ∧ w' = w := by
  go_enter Try.func29, Try.ntmps29
  go_wp2
  refine wp_loop_rounds 1 ?_
  rw [rounds_succ]
  go_wp2
  go_ret
  exact ⟨rfl, rfl⟩

set_option maxHeartbeats 400000 in
theorem heldI_some (g n cap : Nat) (k : Int) (w : World) (lo hi : Nat) (ho : Own w lo hi 2 (.slice (some ⟨g, 0, none⟩) n cap) n (fun j => .int .i64 (k + (j : Int)))) (hn : n ≤ 16777216) (hk0 : 0 ≤ k) (hk1 : k ≤ 1099511627776) :
    Calls Try.prog 29 #[.slice (some ⟨g, 0, none⟩) n cap, .int .i64 k] w fun e w' => e = .returned (.int .i64 (k + n)) ∧ ∃ m, w' = w.drewN m := by
  have HO := Lib.hid ho
  clear ho
  go_enter Try.func29, Try.ntmps29
  go_wp2
  go_loopw [1, 5] (fun q i wr => ∃ m : Nat, m ≤ n ∧ i = .int .i64 m ∧ q = .int .i64 (k + m) ∧ ∃ d, wr = w.drewN d) (fun _ i _ => n - (intOf i).toNat)
  case atStart => exact ⟨0, Nat.zero_le _, rfl, by simp, 0, rfl⟩
  case round =>
    obtain ⟨m, hm, rfl, rfl, d, rfl⟩ := hrel
    by_cases hlt : m < n
    · have hold := HO.out.cell hlt
      go_wp2
      go_roundw
      case rel => exact ⟨m + 1, by omega, by go_num, by go_num, _, rfl⟩
      case measure => simp [intOf]; omega
    · have : m = n := by omega
      subst this
      go_wp2
      go_ret
      exact ⟨rfl, _, rfl⟩

theorem heldI_any (v : Value) (n : Nat) (k : Int) (w : World) (lo hi : Nat) (ho : Own w lo hi 2 v n (fun j => .int .i64 (k + (j : Int)))) (hn : n ≤ 16777216) (hk0 : 0 ≤ k) (hk1 : k ≤ 1099511627776) :
    Calls Try.prog 29 #[v, .int .i64 k] w fun e w' => e = .returned (.int .i64 (k + n)) ∧ ∃ m, w' = w.drewN m := by
  rcases ho.lt with ⟨rfl, rfl⟩ | ⟨g, cap, rfl, _⟩
  · refine (heldI_none k w).mono ?_
    rintro e w' ⟨rfl, rfl⟩
    exact ⟨by simp, 0, rfl⟩
  · exact heldI_some g n cap k w lo hi ho hn hk0 hk1
end Go.Proofs.Ytjihbkhmkepohaa
