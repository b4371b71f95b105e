/- eqComplex64S -/
import Derived.Test.YtbmbgailhiepbaaRows
import Derived.Test.YtbmbgailhiepbaaMem
import Derived.Test.YtbmbgailhiepbaaFlq
import Derived.Test.YtbmbgailhiepbaaHarC
import Derived.Test.YtbmbgailhiepbaaMarkC
import Derived.Deep.RegionWith
import Derived.Laws.Cover3
import Derived.BigQuiet
namespace Go.Proofs.Ytbmbgailhiepbaa
open Go.RowKit

set_option maxHeartbeats 1000000 in
theorem eqC_any (ad ad2 : Option Addr) (n cap cap2 : Nat) (f g f2 g2 : Nat → Nat) (w : World) (hr : Rd w ad n (fun j => .complex .f32 (f j) (g j))) (hr2 : Rd w ad2 n (fun j => .complex .f32 (f2 j) (g2 j))) (hn : n ≤ 1048576)
    (hf : ∀ j, j < n → cf .f32 (f j) = cf .f32 (f2 j)) (hg : ∀ j, j < n → cf .f32 (g j) = cf .f32 (g2 j)) :
    Calls Try.prog 21 #[.slice ad n cap, .slice ad2 n cap2] w fun e w' => e = .returned (.bool true) ∧ ∃ m, w' = w.drewN m := by
  have HF := Lib.hid hf
  have HG := Lib.hid hg
  have HR := Lib.hid hr
  have HR2 := Lib.hid hr2
  clear hf hg hr hr2
  go_enter Try.func21, Try.ntmps21
  go_wp2
  go_loopw [5] (fun i wr => ∃ k : Nat, k ≤ n ∧ i = .int .i64 k ∧ ∃ m, wr = w.drewN m) (fun i _ => n - (intOf i).toNat)
  case atStart => exact ⟨0, Nat.zero_le _, rfl, 0, rfl⟩
  case round =>
    obtain ⟨k, hk, rfl, m, rfl⟩ := hrel
    by_cases hlt : k < n
    · obtain ⟨b, off, rfl, hb, hc⟩ := HR.out.at hlt
      obtain ⟨b2, off2, rfl, hb2, hc2⟩ := HR2.out.at hlt
      have hck := hc k hlt
      have hck2 := hc2 k hlt
      have HK := Lib.hid (HF.out k hlt)
      have HL := Lib.hid (HG.out k hlt)
      clear hc hc2
      have hcv1 := fun u : World => run_cwiden (P := Try.prog) 23 27 (by rw [Try.underlying23]; rfl) Try.underlying27 (f k) (g k) u
      have hcv2 := fun u : World => run_cwiden (P := Try.prog) 23 27 (by rw [Try.underlying23]; rfl) Try.underlying27 (f2 k) (g2 k) u
      go_wp2_with fail
      go_region_with (go_at_call 10; refine (sameComplex_any _ _ _ _ _ (by rw [wb_cf, wb_cf, HK.out]) (by rw [wb_cf, wb_cf, HL.out])).mono ?_; rintro e w' ⟨rfl, rfl⟩)
      all_goals go_wp2
      all_goals go_roundw
      all_goals first
        | exact ⟨k + 1, by omega, by go_num, _, rfl⟩
        | (simp [intOf]; omega)
    · have : k = n := by omega
      subst this
      go_wp2
      go_ret
      exact ⟨rfl, m, rfl⟩
end Go.Proofs.Ytbmbgailhiepbaa
