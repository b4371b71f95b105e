/- eqFloat32S's contract. -/
import Derived.Test.YtbmbgailhiepbaaHarS
import Derived.Deep.RegionWith
namespace Go.Proofs.Ytbmbgailhiepbaa
open Go.RowKit

set_option maxHeartbeats 1000000 in
theorem eqF_any (ad ad2 : Option Addr) (n cap cap2 : Nat) (f g : Nat → Nat) (w : World) (hr : Rd w ad n (fun j => .float .f32 (f j))) (hr2 : Rd w ad2 n (fun j => .float .f32 (g j))) (hn : n ≤ 1048576)
    (hfg : ∀ j, j < n → cf .f32 (f j) = cf .f32 (g j)) :
    Calls Try.prog 15 #[.slice ad n cap, .slice ad2 n cap2] w fun e w' => e = .returned (.bool true) ∧ ∃ m, w' = w.drewN m := by
  have HF := Lib.hid hfg
  have HR := Lib.hid hr
  have HR2 := Lib.hid hr2
  clear hfg hr hr2
  go_enter Try.func15, Try.ntmps15
  go_wp2
  go_loopw [5] (fun i wr => ∃ k : Nat, k ≤ n ∧ i = .int .i64 k ∧ ∃ m, wr = w.drewN m) (fun i _ => n - (intOf i).toNat)
  case atStart => exact ⟨0, Nat.zero_le _, rfl, 0, rfl⟩
  case round =>
    obtain ⟨k, hk, rfl, m, rfl⟩ := hrel
    by_cases hlt : k < n
    · obtain ⟨b, off, rfl, hb, hc⟩ := HR.out.at hlt
      obtain ⟨b2, off2, rfl, hb2, hc2⟩ := HR2.out.at hlt
      have hck := hc k hlt
      have hck2 := hc2 k hlt
      have HK := Lib.hid (HF.out k hlt)
      clear hc hc2
      have hcv1 := fun u : World => run_widen (P := Try.prog) 22 63 (by rw [Try.underlying22]; rfl) Try.underlying63 (f k) u
      have hcv2 := fun u : World => run_widen (P := Try.prog) 22 63 (by rw [Try.underlying22]; rfl) Try.underlying63 (g k) u
      go_wp2_with fail
      go_region_with (go_at_call 42; refine (sameFloat_any _ _ _ (by rw [wb_cf, wb_cf, HK.out])).mono ?_; rintro e w' ⟨rfl, rfl⟩)
      all_goals go_wp2
      all_goals go_roundw
      all_goals first
        | exact ⟨k + 1, by omega, by go_num, _, rfl⟩
        | (simp [intOf]; omega)
    · have : k = n := by omega
      subst this
      go_wp2
      go_ret
      exact ⟨rfl, m, rfl⟩
end Go.Proofs.Ytbmbgailhiepbaa
