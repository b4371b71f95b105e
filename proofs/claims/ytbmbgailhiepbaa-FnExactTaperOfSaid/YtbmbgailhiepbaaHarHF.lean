/- heldFloat32S -/
import Derived.Test.YtbmbgailhiepbaaRows
import Derived.Test.YtbmbgailhiepbaaMem
import Derived.Test.YtbmbgailhiepbaaFlq
import Derived.BigQuiet
namespace Go.Proofs.Ytbmbgailhiepbaa
open Go.RowKit Ieee

theorem int_self (q : Int) : (FloatKind.f32.format.order (floatOfInt .f32 q) (floatOfInt .f32 q) != some .eq) = false := by
  have h : FloatKind.f32.format.order (floatOfInt .f32 q) (floatOfInt .f32 q) = some .eq := order_self (show (FloatKind.f32.format.read (FloatKind.f32.format.write (.number (decide (q < 0)) q.natAbs 0))).isNaN = false from write_some _ rfl)
  rw [h]; rfl

theorem heldF_none (k : Int) (w : World) :
    Calls Try.prog 17 #[.slice none 0 0, .int .i64 k] w fun e w' => e = .returned (.int .i64 k) ∧ w' = w := by
  go_enter Try.func17, Try.ntmps17
  go_wp2
  refine wp_loop_rounds 1 ?_
  rw [rounds_succ]
  go_wp2
  go_ret
  exact ⟨rfl, rfl⟩

set_option maxHeartbeats 400000 in
theorem heldF_some (g n cap : Nat) (k : Int) (w : World) (lo hi : Nat) (ho : Own w lo hi 22 (.slice (some ⟨g, 0, none⟩) n cap) n (fun j => .float .f32 (floatOfInt .f32 (k + (j : Int))))) (hn : n ≤ 16777216) (hk0 : 0 ≤ k) (hk1 : k ≤ 1099511627776) :
    Calls Try.prog 17 #[.slice (some ⟨g, 0, none⟩) n cap, .int .i64 k] w fun e w' => e = .returned (.int .i64 (k + n)) ∧ ∃ m, w' = w.drewN m := by
  have HO := Lib.hid ho
  clear ho
  go_enter Try.func17, Try.ntmps17
  go_wp2
  go_loopw [1, 5] (fun q i wr => ∃ m : Nat, m ≤ n ∧ i = .int .i64 m ∧ q = .int .i64 (k + m) ∧ ∃ d, wr = w.drewN d) (fun _ i _ => n - (intOf i).toNat)
  case atStart => exact ⟨0, Nat.zero_le _, rfl, by simp, 0, rfl⟩
  case round =>
    obtain ⟨m, hm, rfl, rfl, d, rfl⟩ := hrel
    by_cases hlt : m < n
    · have hold := HO.out.cell hlt
      have hself := int_self (k + (m : Int))
      go_wp2
      go_roundw
      case rel => exact ⟨m + 1, by omega, by go_num, by go_num, _, rfl⟩
      case measure => simp [intOf]; omega
    · have : m = n := by omega
      subst this
      go_wp2
      go_ret
      exact ⟨rfl, _, rfl⟩

theorem heldF_any (v : Value) (n : Nat) (k : Int) (w : World) (lo hi : Nat) (ho : Own w lo hi 22 v n (fun j => .float .f32 (floatOfInt .f32 (k + (j : Int))))) (hn : n ≤ 16777216) (hk0 : 0 ≤ k) (hk1 : k ≤ 1099511627776) :
    Calls Try.prog 17 #[v, .int .i64 k] w fun e w' => e = .returned (.int .i64 (k + n)) ∧ ∃ m, w' = w.drewN m := by
  rcases ho.lt with ⟨rfl, rfl⟩ | ⟨g, cap, rfl, _⟩
  · refine (heldF_none k w).mono ?_
    rintro e w' ⟨rfl, rfl⟩
    exact ⟨by simp, 0, rfl⟩
  · exact heldF_some g n cap k w lo hi ho hn hk0 hk1
end Go.Proofs.Ytbmbgailhiepbaa
