/- toInt64S, eqInt64S, markInt64S -/
import Derived.Test.YtbmbgailhiepbaaRows
import Derived.Test.YtbmbgailhiepbaaMem
import Derived.Test.YtbmbgailhiepbaaFlq
import Derived.BigQuiet
namespace Go.Proofs.Ytbmbgailhiepbaa
open Go.RowKit

theorem info_j64 : (Try.prog.info? 2).map (fun i => (i.zero, i.size, i.bytes)) = some (some (.int .i64 0), 1, 8) := by kernel_rfl

set_option maxHeartbeats 400000 in
theorem toI_any (ad : Option Addr) (n cap : Nat) (f : Nat → Int) (w : World) (hr : Rd w ad n (fun j => .int .i64 (f j))) (hn : n ≤ 1048576) :
    Calls Try.prog 19 #[.slice ad n cap] w fun e w' => ∃ v, e = .returned v ∧ Own w' w.heap.size w'.heap.size 2 v n (fun j => .int .i64 (f j)) ∧ Below w.heap.size w w' := by
  obtain ⟨i0, hi, hz0, hz1, hz2⟩ := info_parts info_j64
  go_enter Try.func19, Try.ntmps19
  go_wp2_with (at_make; refine wpList_make_full _ rfl _ _ 36 rfl w.heap.size 2 i0 (.int .i64 0) 1 Try.underlying36 hi hz0 hz1 _ _ _ _ n rfl rfl rfl rfl (by rw [hz2]; omega) (by unfold maxLen; omega) (Nat.le_refl _) ?_; intro w1 hown hgrow)
  have ho := Own.made hown
  have hb1 : Below w.heap.size w w1 := (Below.refl _ _).grown hgrow (Nat.le_refl _) (by intro k hk; cases hk)
  clear hown hgrow
  go_loopw [4] (fun i wr => ∃ k : Nat, k ≤ n ∧ i = .int .i64 k ∧ Own wr w.heap.size wr.heap.size 2 (.slice (some ⟨w.heap.size, 0, none⟩) n n) n (fun j => .int .i64 (if j < k then f j else 0)) ∧ Below w.heap.size w wr) (fun i _ => n - (intOf i).toNat)
  case atStart => exact ⟨0, Nat.zero_le _, rfl, by simpa using ho, hb1⟩
  case round =>
    obtain ⟨k, hk, rfl, how, hbw⟩ := hrel
    have hr2 := hr.below hbw
    clear ho hb1 hr
    by_cases hlt : k < n
    · obtain ⟨b, off, rfl, hb, hc⟩ := hr2.at hlt
      have hck := hc k hlt
      have hold := how.cell hlt
      have hfr := how.frozen k
      have hS := how.store k (.int .i64 (f k))
      clear hc hr2
      go_wp2
      go_roundw
      case rel =>
        refine ⟨k + 1, by omega, by go_num, ?_, hbw.setCell (Nat.le_refl _) _⟩
        have := hS.1.wider (Nat.le_refl _) (show wr.heap.size ≤ (wr.setCell ⟨w.heap.size, k, none⟩ (.int .i64 (f k))).heap.size from hS.2.size)
        refine this.congr (fun j _ => ?_)
        by_cases h1 : j = k
        · subst h1; simp
        · simp [h1, show (j < k + 1) = (j < k) by simp; omega]
      case measure => simp [intOf]; omega
    · have : k = n := by omega
      subst this
      go_wp2
      go_ret
      exact ⟨_, rfl, how.congr (fun j hj => by simp [hj]), hbw⟩


set_option maxHeartbeats 400000 in
theorem eqI_any (ad ad2 : Option Addr) (n cap cap2 : Nat) (f : Nat → Int) (w : World) (hr : Rd w ad n (fun j => .int .i64 (f j))) (hr2 : Rd w ad2 n (fun j => .int .i64 (f j))) (hn : n ≤ 16777216) :
    Calls Try.prog 22 #[.slice ad n cap, .slice ad2 n cap2] w fun e w' => e = .returned (.bool true) ∧ ∃ m, w' = w.drewN m := by
  have HR := Lib.hid hr
  have HR2 := Lib.hid hr2
  clear hr hr2
  go_enter Try.func22, Try.ntmps22
  go_wp2
  go_loopw [5] (fun i wr => ∃ k : Nat, k ≤ n ∧ i = .int .i64 k ∧ ∃ m, wr = w.drewN m) (fun i _ => n - (intOf i).toNat)
  case atStart => exact ⟨0, Nat.zero_le _, rfl, 0, rfl⟩
  case round =>
    obtain ⟨k, hk, rfl, m, rfl⟩ := hrel
    by_cases hlt : k < n
    · obtain ⟨b, off, rfl, hb, hc⟩ := HR.out.at hlt
      obtain ⟨b2, off2, rfl, hb2, hc2⟩ := HR2.out.at hlt
      have hck := hc k hlt
      have hck2 := hc2 k hlt
      clear hc hc2
      go_wp2
      go_quiet (fail)
      go_wp2
      go_roundw
      case rel => exact ⟨k + 1, by omega, by go_num, _, rfl⟩
      case measure => simp [intOf]; omega
    · have : k = n := by omega
      subst this
      go_wp2
      go_ret
      exact ⟨rfl, m, rfl⟩

theorem markI_none (k : Int) (w : World) :
    Calls Try.prog 23 #[.slice none 0 0, .int .i64 k] w fun e w' => e = .returned (.int .i64 k) ∧ w' = w := by
  go_enter Try.func23, Try.ntmps23
  go_wp2
  refine wp_loop_rounds 1 ?_
  rw [rounds_succ]
  go_wp2
  go_ret
  exact ⟨rfl, rfl⟩

set_option maxHeartbeats 400000 in
theorem markI_some (g n cap : Nat) (f : Nat → Value) (k : Int) (w : World) (lo hi : Nat) (ho : Own w lo hi 2 (.slice (some ⟨g, 0, none⟩) n cap) n f) (hn : n ≤ 16777216) (hk0 : 0 ≤ k) (hk1 : k ≤ 1099511627776) :
    Calls Try.prog 23 #[.slice (some ⟨g, 0, none⟩) n cap, .int .i64 k] w fun e w' => e = .returned (.int .i64 (k + n)) ∧ Own w' lo hi 2 (.slice (some ⟨g, 0, none⟩) n cap) n (fun j => .int .i64 (k + (j : Int))) ∧ Kept w w' lo hi := by
  go_enter Try.func23, Try.ntmps23
  go_wp2
  go_loopw [1, 5] (fun q i wr => ∃ m : Nat, m ≤ n ∧ i = .int .i64 m ∧ q = .int .i64 (k + m) ∧ Own wr lo hi 2 (.slice (some ⟨g, 0, none⟩) n cap) n (fun j => if j < m then .int .i64 (k + (j : Int)) else f j) ∧ Kept w wr lo hi) (fun _ i _ => n - (intOf i).toNat)
  case atStart => exact ⟨0, Nat.zero_le _, rfl, by simp, by simpa using ho, Kept.refl _ _ _⟩
  case round =>
    obtain ⟨m, hm, rfl, rfl, how, hkw⟩ := hrel
    clear ho
    by_cases hlt : m < n
    · have hold := how.cell hlt
      have hfr := how.frozen m
      have HS := Lib.hid (how.store m (.int .i64 (k + (m : Int))))
      clear how
      go_wp2
      go_roundw
      case rel =>
        refine ⟨m + 1, by omega, by go_num, by go_num, HS.out.1.congr (fun j _ => ?_), hkw.trans HS.out.2⟩
        by_cases h1 : j = m
        · subst h1; simp
        · simp [h1, show (j < m + 1) = (j < m) by simp; omega]
      case measure => simp [intOf]; omega
    · have : m = n := by omega
      subst this
      go_wp2
      go_ret
      exact ⟨rfl, how.congr (fun j hj => by simp [hj]), hkw⟩

theorem markI_any (v : Value) (n : Nat) (f : Nat → Value) (k : Int) (w : World) (lo hi : Nat) (ho : Own w lo hi 2 v n f) (hn : n ≤ 16777216) (hk0 : 0 ≤ k) (hk1 : k ≤ 1099511627776) :
    Calls Try.prog 23 #[v, .int .i64 k] w fun e w' => e = .returned (.int .i64 (k + n)) ∧ Own w' lo hi 2 v n (fun j => .int .i64 (k + (j : Int))) ∧ Kept w w' lo hi := by
  rcases ho.lt with ⟨rfl, rfl⟩ | ⟨g, cap, rfl, _⟩
  · refine (markI_none k w).mono ?_
    rintro e w' ⟨rfl, rfl⟩
    exact ⟨by simp, Own.nil _ _ _ _ _, Kept.refl _ _ _⟩
  · exact markI_some g n cap f k w lo hi ho hn hk0 hk1

end Go.Proofs.Ytbmbgailhiepbaa
