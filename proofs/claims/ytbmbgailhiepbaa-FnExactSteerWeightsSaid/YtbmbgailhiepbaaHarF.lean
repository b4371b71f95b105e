/- Contracts of the harness's functions on slices of float32. -/
import Derived.Test.YtbmbgailhiepbaaRows
import Derived.Test.YtbmbgailhiepbaaMem
import Derived.BigQuiet
namespace Go.Proofs.Ytbmbgailhiepbaa
open Go.RowKit

theorem info_f32 : (Try.prog.info? 22).map (fun i => (i.zero, i.size, i.bytes)) = some (some (.float .f32 0), 1, 4) := by kernel_rfl

set_option maxHeartbeats 400000 in
theorem toF_any (ad : Option Addr) (n cap : Nat) (f : Nat → Nat) (w : World) (hr : Rd w ad n (fun j => .float .f32 (f j))) (hn : n ≤ 1048576) :
    Calls Try.prog 30 #[.slice ad n cap] w fun e w' => ∃ v, e = .returned v ∧ Own w' w.heap.size w'.heap.size 22 v n (fun j => .float .f32 (f j)) ∧ Below w.heap.size w w' := by
  obtain ⟨i0, hi, hz0, hz1, hz2⟩ := info_parts info_f32
  go_enter Try.func30, Try.ntmps30
  go_wp2_with (at_make; refine wpList_make_full _ rfl _ _ 31 rfl w.heap.size 22 i0 (.float .f32 0) 1 Try.underlying31 hi hz0 hz1 _ _ _ _ n rfl rfl rfl rfl (by rw [hz2]; omega) (by unfold maxLen; omega) (Nat.le_refl _) ?_; intro w1 hown hgrow)
  have ho := Own.made hown
  have hb1 : Below w.heap.size w w1 := (Below.refl _ _).grown hgrow (Nat.le_refl _) (by intro k hk; cases hk)
  clear hown hgrow
  go_loopw [4] (fun i wr => ∃ k : Nat, k ≤ n ∧ i = .int .i64 k ∧ Own wr w.heap.size wr.heap.size 22 (.slice (some ⟨w.heap.size, 0, none⟩) n n) n (fun j => .float .f32 (if j < k then f j else 0)) ∧ Below w.heap.size w wr) (fun i _ => n - (intOf i).toNat)
  case atStart => exact ⟨0, Nat.zero_le _, rfl, by simpa using ho, hb1⟩
  case round =>
    obtain ⟨k, hk, rfl, how, hbw⟩ := hrel
    have hr2 := hr.below hbw
    clear ho hb1 hr
    by_cases hlt : k < n
    · obtain ⟨b, off, rfl, hb, hc⟩ := hr2.at hlt
      have hck := hc k hlt
      have hold := how.cell hlt
      have hfr := how.frozen k
      have hS := how.store k (.float .f32 (f k))
      clear hc hr2
      go_wp2
      go_roundw
      case rel =>
        refine ⟨k + 1, by omega, by go_num, ?_, hbw.setCell (Nat.le_refl _) _⟩
        have := hS.1.wider (Nat.le_refl _) (show wr.heap.size ≤ (wr.setCell ⟨w.heap.size, k, none⟩ (.float .f32 (f k))).heap.size from hS.2.size)
        refine this.congr (fun j _ => ?_)
        by_cases h1 : j = k
        · subst h1; simp
        · simp [h1, show (j < k + 1) = (j < k) by simp; omega]
      case measure => simp [intOf]; omega
    · have : k = n := by omega
      subst this
      go_wp2
      go_ret
      exact ⟨_, rfl, how.congr (fun j hj => by simp [hj]), hbw⟩
end Go.Proofs.Ytbmbgailhiepbaa
