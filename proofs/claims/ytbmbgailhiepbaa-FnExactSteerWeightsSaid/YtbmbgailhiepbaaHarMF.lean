/- markFloat32S -/
import Derived.Test.YtbmbgailhiepbaaRows
import Derived.Test.YtbmbgailhiepbaaMem
import Derived.Test.YtbmbgailhiepbaaFlq
import Derived.BigQuiet
namespace Go.Proofs.Ytbmbgailhiepbaa
open Go.RowKit

theorem markF_none (k : Int) (w : World) :
    Calls Try.prog 16 #[.slice none 0 0, .int .i64 k] w fun e w' => e = .returned (.int .i64 k) ∧ w' = w := by
  go_enter Try.func16, Try.ntmps16
  go_wp2
  refine wp_loop_rounds 1 ?_
  rw [rounds_succ]
  go_wp2
  go_ret
  exact ⟨rfl, rfl⟩

set_option maxHeartbeats 400000 in
theorem markF_some (g n cap : Nat) (f : Nat → Value) (k : Int) (w : World) (lo hi : Nat) (ho : Own w lo hi 22 (.slice (some ⟨g, 0, none⟩) n cap) n f) (hn : n ≤ 16777216) (hk0 : 0 ≤ k) (hk1 : k ≤ 1099511627776) :
    Calls Try.prog 16 #[.slice (some ⟨g, 0, none⟩) n cap, .int .i64 k] w fun e w' => e = .returned (.int .i64 (k + n)) ∧ Own w' lo hi 22 (.slice (some ⟨g, 0, none⟩) n cap) n (fun j => .float .f32 (floatOfInt .f32 (k + (j : Int)))) ∧ Kept w w' lo hi := by
  go_enter Try.func16, Try.ntmps16
  go_wp2
  go_loopw [1, 5] (fun q i wr => ∃ m : Nat, m ≤ n ∧ i = .int .i64 m ∧ q = .int .i64 (k + m) ∧ Own wr lo hi 22 (.slice (some ⟨g, 0, none⟩) n cap) n (fun j => if j < m then .float .f32 (floatOfInt .f32 (k + (j : Int))) else f j) ∧ Kept w wr lo hi) (fun _ i _ => n - (intOf i).toNat)
  case atStart => exact ⟨0, Nat.zero_le _, rfl, by simp, by simpa using ho, Kept.refl _ _ _⟩
  case round =>
    obtain ⟨m, hm, rfl, rfl, how, hkw⟩ := hrel
    clear ho
    by_cases hlt : m < n
    · have hold := how.cell hlt
      have hfr := how.frozen m
      have HS := Lib.hid (how.store m (.float .f32 (floatOfInt .f32 (k + (m : Int)))))
      clear how
      go_wp2
      go_roundw
      case rel =>
        refine ⟨m + 1, by omega, by go_num, by go_num, HS.out.1.congr (fun j _ => ?_), hkw.trans HS.out.2⟩
        by_cases h1 : j = m
        · subst h1; simp
        · simp [h1, show (j < m + 1) = (j < m) by simp; omega]
      case measure => simp [intOf]; omega
    · have : m = n := by omega
      subst this
      go_wp2
      go_ret
      exact ⟨rfl, how.congr (fun j hj => by simp [hj]), hkw⟩

theorem markF_any (v : Value) (n : Nat) (f : Nat → Value) (k : Int) (w : World) (lo hi : Nat) (ho : Own w lo hi 22 v n f) (hn : n ≤ 16777216) (hk0 : 0 ≤ k) (hk1 : k ≤ 1099511627776) :
    Calls Try.prog 16 #[v, .int .i64 k] w fun e w' => e = .returned (.int .i64 (k + n)) ∧ Own w' lo hi 22 v n (fun j => .float .f32 (floatOfInt .f32 (k + (j : Int)))) ∧ Kept w w' lo hi := by
  rcases ho.lt with ⟨rfl, rfl⟩ | ⟨g, cap, rfl, _⟩
  · refine (markF_none k w).mono ?_
    rintro e w' ⟨rfl, rfl⟩
    exact ⟨by simp, Own.nil _ _ _ _ _, Kept.refl _ _ _⟩
  · exact markF_some g n cap f k w lo hi ho hn hk0 hk1
end Go.Proofs.Ytbmbgailhiepbaa
