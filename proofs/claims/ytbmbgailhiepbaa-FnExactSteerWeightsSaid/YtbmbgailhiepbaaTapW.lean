/- The program's TaperOf, by its contract. -/
import Derived.Test.YtbmbgailhiepbaaTapI
import Derived.Test.YtbmbgailhiepbaaPush
namespace Go.Proofs.Ytbmbgailhiepbaa
open Go.RowKit Ieee

theorem info_float : (Try.prog.info? 22).map (fun i => (i.zero, i.size, i.bytes)) = some (some (.float .f32 0), 1, 4) := by kernel_rfl

theorem withinI_yes (a lo hi : Int) (h1 : lo ≤ a) (h2 : a ≤ hi) (w : World) :
    Calls Try.prog 40 #[.int .i64 a, .int .i64 lo, .int .i64 hi] w fun e w' => e = .returned (.bool true) ∧ w = w' := by
  go_enter Try.func40, Try.ntmps40
  go_wp2
  all_goals go_ret
  all_goals exact ⟨rfl, rfl⟩
theorem withinI_no (a lo hi : Int) (h : ¬ (lo ≤ a ∧ a ≤ hi)) (w : World) :
    Calls Try.prog 40 #[.int .i64 a, .int .i64 lo, .int .i64 hi] w fun e w' => e = .returned (.bool false) ∧ w = w' := by
  by_cases h1 : lo ≤ a
  · have h2 : ¬ a ≤ hi := by omega
    go_enter Try.func40, Try.ntmps40
    go_wp2
    all_goals go_ret
    all_goals exact ⟨rfl, rfl⟩
  · go_enter Try.func40, Try.ntmps40
    go_wp2
    all_goals go_ret
    all_goals exact ⟨rfl, rfl⟩

theorem inS_yes (a lo hi : Int) (h1 : lo ≤ a) (h2 : a ≤ hi) (w : World) :
    Calls Try.prog 36 #[.int .i64 a, .int .i64 lo, .int .i64 hi] w fun e w' => e = .returned (.bool true) ∧ w = w' := by
  go_enter Try.func36, Try.ntmps36
  go_wp2
  all_goals go_ret
  all_goals exact ⟨rfl, rfl⟩
theorem inS_no (a lo hi : Int) (h : ¬ (lo ≤ a ∧ a ≤ hi)) (w : World) :
    Calls Try.prog 36 #[.int .i64 a, .int .i64 lo, .int .i64 hi] w fun e w' => e = .returned (.bool false) ∧ w = w' := by
  by_cases h1 : lo ≤ a
  · have h2 : ¬ a ≤ hi := by omega
    go_enter Try.func36, Try.ntmps36
    go_wp2
    all_goals go_ret
    all_goals exact ⟨rfl, rfl⟩
  · go_enter Try.func36, Try.ntmps36
    go_wp2
    all_goals go_ret
    all_goals exact ⟨rfl, rfl⟩

theorem countI_yes (n : Int) (h1 : 1 ≤ n) (h2 : n ≤ 16) (w : World) :
    Calls Try.prog 48 #[.int .i64 n] w fun e w' => e = .returned (.bool true) ∧ w = w' := by
  go_enter Try.func48, Try.ntmps48
  go_wp2_with (go_at_call 40; refine (withinI_yes _ _ _ (by omega) (by omega) _).mono ?_; rintro e w' ⟨rfl, rfl⟩)
  all_goals go_ret
  all_goals exact ⟨rfl, rfl⟩
theorem countI_no (n : Int) (h : ¬ (1 ≤ n ∧ n ≤ 16)) (w : World) :
    Calls Try.prog 48 #[.int .i64 n] w fun e w' => e = .returned (.bool false) ∧ w = w' := by
  go_enter Try.func48, Try.ntmps48
  go_wp2_with (go_at_call 40; refine (withinI_no _ _ _ (by omega) _).mono ?_; rintro e w' ⟨rfl, rfl⟩)
  all_goals go_ret
  all_goals exact ⟨rfl, rfl⟩

set_option maxRecDepth 100000 in
set_option maxHeartbeats 2000000 in
theorem taperI1 (k : Int) (hk0 : 0 ≤ k) (hk3 : k ≤ 3) (n : Nat) (hn : n < 17) (h1 : 1 ≤ n) (w : World) :
    Calls Try.prog 14 #[.int .i64 k, .int .i64 n] w fun e w' => ∃ v, e = .returned (.tuple #[v, .bool true]) ∧ Own w' w.heap.size w'.heap.size 22 v n (fun j => .float .f32 (el k n j)) ∧ Below w.heap.size w w' := by
  have hn1 : (1 : Int) ≤ n := by omega
  have hn2 : (n : Int) ≤ 16 := by omega
  obtain ⟨i0, hi, hz0, hz1, hz2⟩ := info_parts info_float
  go_enter Try.func14, Try.ntmps14
  go_wp2_with (first | (go_at_call 40; refine (withinI_yes _ _ _ (by omega) (by omega) _).mono ?_; rintro e w' ⟨rfl, rfl⟩) | (go_at_call 48; refine (countI_yes _ (by omega) (by omega) _).mono ?_; rintro e w' ⟨rfl, rfl⟩))
  go_loopw [6, 18] (fun v i wr => ∃ j : Nat, j ≤ n ∧ i = .int .i64 j ∧ Hid (Own wr w.heap.size wr.heap.size 22 v j (fun j => .float .f32 (el k n j))) ∧ Hid (Below w.heap.size w wr)) (fun _ i _ => n - (intOf i).toNat)
  case atStart => exact ⟨0, Nat.zero_le _, rfl, Lib.hid (Own.empty _ _ _), Lib.hid (below_alloc _ _)⟩
  case round =>
    obtain ⟨j, hj, rfl, HOW, HBW⟩ := hrel
    by_cases hlt : j < n
    · have cT := fun u => taperAtI k hk0 hk3 n j hn h1 hlt u
      have hel : Value.float .f32 (el k n j) = (fun j => Value.float .f32 (el k n j)) j := rfl
      have HEL := Lib.hid hel
      clear hel
      generalize hE : el k n j = E at cT
      have HE := Lib.hid hE
      clear hE
      go_wp2_with (first | (go_at_call 49; refine (cT _).mono ?_; rintro e w' ⟨rfl, rfl⟩) | (at_builtin; refine wpList_push _ rfl _ _ 31 rfl 22 i0 (.float .f32 0) 4 Try.underlying31 hi hz0 hz1 hz2 rfl (by omega) _ (.float .f32 E) j _ _ _ (fun q => .float .f32 (el k n q)) rfl rfl (by exact HOW.out) (fun q hq => rfl) (by have := HE.out; show Value.float .f32 (el k n j) = _; rw [this]) rfl (by omega) (by exact HBW.out.size) ?_; intro v' w2 ho2 hb2; have HO2 := Lib.hid ho2; have HB2 := Lib.hid hb2; clear ho2 hb2))
      go_wp2
      go_roundw
      case rel => exact ⟨j + 1, by omega, by go_num, HO2, Lib.hid (HBW.out.trans HB2.out)⟩
      case measure => simp [intOf]; omega
    · have : j = n := by omega
      subst this
      go_wp2
      go_ret2
      exact ⟨_, rfl, HOW.out, HBW.out⟩
end Go.Proofs.Ytbmbgailhiepbaa
