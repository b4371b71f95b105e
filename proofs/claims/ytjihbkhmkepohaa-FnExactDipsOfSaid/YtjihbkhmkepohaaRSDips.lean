/- The walk of l03Runs, as DipsOf calls it. -/
import Derived.Test.YtjihbkhmkepohaaRows
import Derived.Test.YtjihbkhmkepohaaInfoI
import Derived.Test.YtjihbkhmkepohaaPush
import Derived.Test.YtjihbkhmkepohaaRunsP
import Derived.BigQuiet
namespace Go.Proofs.Ytjihbkhmkepohaa
open Go.RowKit

set_option maxHeartbeats 20000000 in
set_option maxRecDepth 100000 in
theorem specRunsDips (ad : Option Addr) (n cap : Nat) (f : Nat → Nat) (w : World) (hr : Rd w ad n (fun j => .float .f32 (f j))) (hn1 : 1 ≤ n) (hn2 : n ≤ 129) :
    Calls Try.prog 42 #[.slice ad n cap, .bool false] w fun e w' => ∃ v, e = .returned v ∧ Own w' w.heap.size w'.heap.size 2 v (runsF false f n (n + 1) 0).length (fun j => .int .i64 (atL (runsF false f n (n + 1) 0) j)) ∧ Below w.heap.size w w' := by
  obtain ⟨i0, hi, hz0, hz1, hz2⟩ := info_parts info_i64
  obtain ⟨b, off, rfl, hb, hc⟩ := hr.at (k := 0) (by omega)
  have HC := Lib.hid hc
  clear hr hc
  go_enter Try.func42, Try.ntmps42
  go_wp2
  go_loopw [5, 6, 7, 8] (fun out i _ _ wr => ∃ (k d : Nat) (A : List Int), k ≤ n ∧ n + 1 ≤ k + d ∧ A.length ≤ k ∧ i = .int .i64 k ∧ Hid (Own wr w.heap.size wr.heap.size 2 out A.length (fun j => .int .i64 (atL A j))) ∧ Hid (A ++ runsF false f n d k = runsF false f n (n + 1) 0) ∧ Below w.heap.size w wr) (fun _ i _ _ _ => n - (intOf i).toNat)
  case atStart => exact ⟨0, n + 1, [], Nat.zero_le _, by omega, Nat.le_refl _, rfl, Lib.hid (Own.empty _ _ _), Lib.hid (by simp), below_alloc _ _⟩
  case round =>
    obtain ⟨k, d, A, hk, hd, hAk, rfl, HOW, HT, hbw⟩ := hrel
    have HBW := Lib.hid hbw
    have HCW := Lib.hid (show ∀ j, j < n → wr.cell? ⟨b, off + j, none⟩ = some (.float .f32 (f j)) from fun j hj => (hbw.cell (p := ⟨b, off + j, none⟩) hb).trans (HC.out j hj))
    clear hbw
    by_cases hlt : k < n
    · obtain ⟨d, rfl⟩ : ∃ q, d = q + 1 := ⟨d - 1, by omega⟩
      have hck := HCW.out k hlt
      cases h1n : (FloatKind.f32.format.order (f k) (f k) != some .eq) with
      | true =>
        have h1 : (FloatKind.f32.format.order (f k) (f k) == some .eq) = false := by simpa [bne] using h1n
        have HFINE := Lib.hid (show fineRun false f n k = false from fine_nan h1)
        have HE := Lib.hid (show runEnd f n k = k + 1 from runEnd_nan h1)
        clear h1
        go_wp2
        go_quiet (fail)
        go_wp2
        go_roundw
        case rel => (try simp only [World.drewN_drewN]); exact ⟨k + 1, d, A, by omega, by omega, by omega, by go_num, Lib.hid (HOW.out.drewN _), Lib.hid (by rw [← HT.out, runsF_skip hlt (HFINE.out), HE.out]), below_drewN HBW.out _⟩
        case measure => simp [intOf]; omega
      | false =>
        have h1 : (FloatKind.f32.format.order (f k) (f k) == some .eq) = true := by simpa [bne] using h1n
        go_wp2
        go_quiet (fail)
        go_wp2
        go_loopw [7] (fun e ws => ∃ j : Nat, k ≤ j ∧ j < n ∧ e = .int .i64 j ∧ Hid (upEnd (sameAs f k) n j = upEnd (sameAs f k) n k) ∧ ∃ m, ws = wr.drewN m) (fun e _ => n - (intOf e).toNat)
        case atStart => exact ⟨k, Nat.le_refl _, hlt, rfl, Lib.hid rfl, by first | exact ⟨_, rfl⟩ | exact ⟨_, World.drewN_drewN ..⟩⟩
        case round =>
          obtain ⟨j, hj, hjn, rfl, HU, m, rfl⟩ := hrel
          have hj2 : j + 1 ≤ n := by omega
          by_cases hup : j + 1 < n
          · have hup2 : (j : Int) + 1 < n := by omega
            have hcj := HCW.out (j + 1) hup
            cases hs : (FloatKind.f32.format.order (f (j + 1)) (f k) == some .eq) with
            | true =>
              go_wp2
              go_quiet (fail)
              go_wp2
              go_roundw
              case rel => exact ⟨j + 1, by omega, hup, by go_num, Lib.hid (by rw [← HU.out, upEnd_go hup (show sameAs f k j = true from hs)]), _, rfl⟩
              case measure => simp [intOf]; omega
            | false =>
              go_wp2
              go_quiet (fail)
              have HE := Lib.hid (show runEnd f n k = j + 1 from by unfold runEnd; rw [← HU.out, upEnd_stop (show sameAs f k j = false from hs)])
              clear hs HU
              by_cases hk0 : k = 0
              · have hz : ¬ (0 : Int) < k := by omega
                have hkz : ¬ 0 < k := by omega
                have HK0 := Lib.hid hk0
                clear hk0
                cases hr : (FloatKind.f32.format.order (f (j + 1)) (f k) == some .gt) with
                | false =>
                  have HFINE := Lib.hid (show fineRun false f n k = false from fine_right HE.out hr hup)
                  go_wp2
                  go_quiet (fail)
                  go_wp2
                  go_roundw
                  case rel => (try simp only [World.drewN_drewN]); exact ⟨j + 1, d, A, hj2, by omega, by omega, by go_num, Lib.hid (HOW.out.drewN _), Lib.hid (by rw [← HT.out, runsF_skip hlt (HFINE.out), HE.out]), below_drewN HBW.out _⟩
                  case measure => simp [intOf]; omega
                | true =>
                  have HFINE := Lib.hid (show fineRun false f n k = true from fine_yes HE.out h1 (.inl HK0.out) (.inr hr))
                  go_wp2
                  go_quiet (fail)
                  go_wp2_with (at_builtin; refine wpList_push _ rfl _ _ 37 rfl 2 i0 (.int .i64 0) 8 Try.underlying37 hi hz0 hz1 hz2 rfl (by omega) _ (.int .i64 k) A.length _ _ _ (fun q => .int .i64 (atL (A ++ [(k : Int)]) q)) rfl rfl (by first | exact HOW.out.drewN _ | exact (HOW.out.drewN _).drewN _ | exact ((HOW.out.drewN _).drewN _).drewN _ | exact (((HOW.out.drewN _).drewN _).drewN _).drewN _) (fun q hq => by rw [atL_append _ _ _ hq]) (by rw [atL_last]) rfl (by omega) (by exact HBW.out.size) ?_; intro v' w2 ho2 hb2; have HO2 := Lib.hid ho2; have HB2 := Lib.hid hb2; clear ho2 hb2)
                  go_wp2
                  go_roundw
                  case rel => (try simp only [World.drewN_drewN]); exact ⟨j + 1, d, A ++ [(k : Int)], hj2, by omega, by rw [length_snoc]; omega, by go_num, Lib.hid (by rw [length_snoc]; exact HO2.out), Lib.hid (by rw [← HT.out, runsF_take hlt (HFINE.out), HE.out, List.append_assoc]; rfl), (below_drewN HBW.out _).trans HB2.out⟩
                  case measure => simp [intOf]; omega
              · have hkp : (0 : Int) < k := by omega
                have hkp2 : 0 < k := by omega
                have hkn : k - 1 < n := by omega
                have hck2 := HCW.out (k - 1) hkn
                cases hl : (FloatKind.f32.format.order (f (k - 1)) (f k) == some .gt) with
                | false =>
                  have HFINE := Lib.hid (show fineRun false f n k = false from fine_left hl hkp2)
                  go_wp2
                  go_quiet (fail)
                  go_wp2
                  go_quiet (fail)
                  go_wp2
                  go_roundw
                  case rel => (try simp only [World.drewN_drewN]); exact ⟨j + 1, d, A, hj2, by omega, by omega, by go_num, Lib.hid (HOW.out.drewN _), Lib.hid (by rw [← HT.out, runsF_skip hlt (HFINE.out), HE.out]), below_drewN HBW.out _⟩
                  case measure => simp [intOf]; omega
                | true =>
                  cases hr : (FloatKind.f32.format.order (f (j + 1)) (f k) == some .gt) with
                  | false =>
                    have HFINE := Lib.hid (show fineRun false f n k = false from fine_right HE.out hr hup)
                    go_wp2
                    go_quiet (fail)
                    go_wp2
                    go_quiet (fail)
                    go_wp2
                    go_roundw
                    case rel => (try simp only [World.drewN_drewN]); exact ⟨j + 1, d, A, hj2, by omega, by omega, by go_num, Lib.hid (HOW.out.drewN _), Lib.hid (by rw [← HT.out, runsF_skip hlt (HFINE.out), HE.out]), below_drewN HBW.out _⟩
                    case measure => simp [intOf]; omega
                  | true =>
                    have HFINE := Lib.hid (show fineRun false f n k = true from fine_yes HE.out h1 (.inr hl) (.inr hr))
                    go_wp2
                    go_quiet (fail)
                    go_wp2
                    go_quiet (fail)
                    go_wp2_with (at_builtin; refine wpList_push _ rfl _ _ 37 rfl 2 i0 (.int .i64 0) 8 Try.underlying37 hi hz0 hz1 hz2 rfl (by omega) _ (.int .i64 k) A.length _ _ _ (fun q => .int .i64 (atL (A ++ [(k : Int)]) q)) rfl rfl (by first | exact HOW.out.drewN _ | exact (HOW.out.drewN _).drewN _ | exact ((HOW.out.drewN _).drewN _).drewN _ | exact (((HOW.out.drewN _).drewN _).drewN _).drewN _) (fun q hq => by rw [atL_append _ _ _ hq]) (by rw [atL_last]) rfl (by omega) (by exact HBW.out.size) ?_; intro v' w2 ho2 hb2; have HO2 := Lib.hid ho2; have HB2 := Lib.hid hb2; clear ho2 hb2)
                    go_wp2
                    go_roundw
                    case rel => (try simp only [World.drewN_drewN]); exact ⟨j + 1, d, A ++ [(k : Int)], hj2, by omega, by rw [length_snoc]; omega, by go_num, Lib.hid (by rw [length_snoc]; exact HO2.out), Lib.hid (by rw [← HT.out, runsF_take hlt (HFINE.out), HE.out, List.append_assoc]; rfl), (below_drewN HBW.out _).trans HB2.out⟩
                    case measure => simp [intOf]; omega
          · have hup2 : ¬ (j : Int) + 1 < n := by omega
            have hd2 : decide ((j : Int) + 1 < n) = false := decide_eq_false hup2
            go_wp2
            go_quiet (fail)
            have HE := Lib.hid (show runEnd f n k = j + 1 from by unfold runEnd; rw [← HU.out, upEnd_end hup])
            clear HU
            by_cases hk0 : k = 0
            · have hz : ¬ (0 : Int) < k := by omega
              have hkz : ¬ 0 < k := by omega
              have HK0 := Lib.hid hk0
              clear hk0
              have HFINE := Lib.hid (show fineRun false f n k = true from fine_yes HE.out h1 (.inl HK0.out) (.inl (by omega)))
              go_wp2_with (at_builtin; refine wpList_push _ rfl _ _ 37 rfl 2 i0 (.int .i64 0) 8 Try.underlying37 hi hz0 hz1 hz2 rfl (by omega) _ (.int .i64 k) A.length _ _ _ (fun q => .int .i64 (atL (A ++ [(k : Int)]) q)) rfl rfl (by first | exact HOW.out.drewN _ | exact (HOW.out.drewN _).drewN _ | exact ((HOW.out.drewN _).drewN _).drewN _ | exact (((HOW.out.drewN _).drewN _).drewN _).drewN _) (fun q hq => by rw [atL_append _ _ _ hq]) (by rw [atL_last]) rfl (by omega) (by exact HBW.out.size) ?_; intro v' w2 ho2 hb2; have HO2 := Lib.hid ho2; have HB2 := Lib.hid hb2; clear ho2 hb2)
              go_wp2
              go_roundw
              case rel => (try simp only [World.drewN_drewN]); exact ⟨j + 1, d, A ++ [(k : Int)], hj2, by omega, by rw [length_snoc]; omega, by go_num, Lib.hid (by rw [length_snoc]; exact HO2.out), Lib.hid (by rw [← HT.out, runsF_take hlt (HFINE.out), HE.out, List.append_assoc]; rfl), (below_drewN HBW.out _).trans HB2.out⟩
              case measure => simp [intOf]; omega
            · have hkp : (0 : Int) < k := by omega
              have hkp2 : 0 < k := by omega
              have hkn : k - 1 < n := by omega
              have hck2 := HCW.out (k - 1) hkn
              cases hl : (FloatKind.f32.format.order (f (k - 1)) (f k) == some .gt) with
              | false =>
                have HFINE := Lib.hid (show fineRun false f n k = false from fine_left hl hkp2)
                go_wp2
                go_quiet (fail)
                go_wp2
                go_roundw
                case rel => (try simp only [World.drewN_drewN]); exact ⟨j + 1, d, A, hj2, by omega, by omega, by go_num, Lib.hid (HOW.out.drewN _), Lib.hid (by rw [← HT.out, runsF_skip hlt (HFINE.out), HE.out]), below_drewN HBW.out _⟩
                case measure => simp [intOf]; omega
              | true =>
                have HFINE := Lib.hid (show fineRun false f n k = true from fine_yes HE.out h1 (.inr hl) (.inl (by omega)))
                go_wp2
                go_quiet (fail)
                go_wp2_with (at_builtin; refine wpList_push _ rfl _ _ 37 rfl 2 i0 (.int .i64 0) 8 Try.underlying37 hi hz0 hz1 hz2 rfl (by omega) _ (.int .i64 k) A.length _ _ _ (fun q => .int .i64 (atL (A ++ [(k : Int)]) q)) rfl rfl (by first | exact HOW.out.drewN _ | exact (HOW.out.drewN _).drewN _ | exact ((HOW.out.drewN _).drewN _).drewN _ | exact (((HOW.out.drewN _).drewN _).drewN _).drewN _) (fun q hq => by rw [atL_append _ _ _ hq]) (by rw [atL_last]) rfl (by omega) (by exact HBW.out.size) ?_; intro v' w2 ho2 hb2; have HO2 := Lib.hid ho2; have HB2 := Lib.hid hb2; clear ho2 hb2)
                go_wp2
                go_roundw
                case rel => (try simp only [World.drewN_drewN]); exact ⟨j + 1, d, A ++ [(k : Int)], hj2, by omega, by rw [length_snoc]; omega, by go_num, Lib.hid (by rw [length_snoc]; exact HO2.out), Lib.hid (by rw [← HT.out, runsF_take hlt (HFINE.out), HE.out, List.append_assoc]; rfl), (below_drewN HBW.out _).trans HB2.out⟩
                case measure => simp [intOf]; omega
    · have : k = n := by omega
      subst this
      go_wp2
      go_ret
      have := HT.out
      rw [runsF_end, List.append_nil] at this
      exact ⟨_, rfl, by rw [← this]; exact HOW.out, HBW.out⟩
end Go.Proofs.Ytjihbkhmkepohaa
