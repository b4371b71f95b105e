/- l02Is of the reference, by its contract. -/
import Derived.Test.YtbmbgailhiepbaaSteI
namespace Go.Proofs.Ytbmbgailhiepbaa
open Go.RowKit

set_option maxRecDepth 100000 in
set_option maxHeartbeats 4000000 in
theorem validS (ad : Option Addr) (n cap : Nat) (x y : Nat → Int) (w : World) (hr : RdP w ad n x y) (hn : n ≤ 1048576) :
    Calls Try.prog 57 #[.slice ad n cap] w fun e w' => e = .returned (.bool (vP x y n)) ∧ Below w.heap.size w w' := by
  have HR := Lib.hid hr
  clear hr
  by_cases hc : 1 ≤ n ∧ n ≤ 16
  · have HV := Lib.hid (show vP x y n = okFrom x y n 0 by unfold vP; rw [decide_eq_true hc]; rfl)
    have hc1 : (1 : Int) ≤ n := by omega
    have hc2 : (n : Int) ≤ 16 := by omega
    rw [HV.out]
    clear hc HV
    go_enter Try.func57, Try.ntmps57
    go_wp2_with (go_at_call 36; refine (inS_yes _ _ _ (by omega) (by omega) _).mono ?_; rintro e w' ⟨rfl, rfl⟩)
    go_loopw [3, 4] (fun i _ wr => ∃ k d : Nat, k + d = n ∧ i = .int .i64 k ∧ Hid (okFrom x y n 0 = okFrom x y d k) ∧ Hid (Below w.heap.size w wr)) (fun i _ _ => n - (intOf i).toNat)
    case atStart => exact ⟨0, n, by omega, rfl, Lib.hid rfl, Lib.hid (Below.refl _ _)⟩
    case round =>
      obtain ⟨wo, hwo⟩ : ∃ x, x = wr := ⟨_, rfl⟩
      subst hwo
      obtain ⟨k, d, hk, rfl, HF, HBW⟩ := hrel
      by_cases hlt : k < n
      · obtain ⟨d, rfl⟩ : ∃ q, d = q + 1 := ⟨d - 1, by omega⟩
        have HRW := Lib.hid (HR.out.below HBW.out)
        obtain ⟨b, off, rfl, hb, hc⟩ := HRW.out.at hlt
        have h1 := (hc k hlt).1
        have h2 := (hc k hlt).2
        clear hc
        have cP := fun u => placeS (x k) (y k) u
        have HOK := Lib.hid (show okAt x y k = (inC (x k) && inC (y k) && !decide (0 ≤ firstEq x y (x k) (y k) k 0)) from rfl)
        cases hxy : (inC (x k) && inC (y k)) with
        | false =>
          rw [hxy] at cP
          have HN := Lib.hid (show okFrom x y (d + 1) k = false from okFrom_no (by rw [HOK.out, hxy]; rfl))
          clear hxy
          go_wp2_with (go_at_call 84; refine (cP _).mono ?_; rintro e w2 ⟨rfl, hb2⟩; have HB2 := Lib.hid hb2; clear hb2)
          go_ret
          exact ⟨by rw [HF.out, HN.out]; rfl, below_next HBW.out HB2.out⟩
        | true =>
          rw [hxy] at cP
          have HXY := Lib.hid hxy
          clear hxy
          go_wp2_with (go_at_call 84; refine (cP _).mono ?_; rintro e w2 ⟨rfl, hb2⟩; have HB2 := Lib.hid hb2; clear hb2)
          have HRZ := Lib.hid (HRW.out.below HB2.out)
          clear h1 h2
          go_loopw [4] (fun i wq => ∃ q e m : Nat, q + e = k ∧ i = .int .i64 q ∧ Hid (firstEq x y (x k) (y k) k 0 = firstEq x y (x k) (y k) e q) ∧ wq = w2.drewN m) (fun i _ => k - (intOf i).toNat)
          case atStart => exact ⟨0, k, 0, by omega, rfl, Lib.hid rfl, rfl⟩
          case round =>
            obtain ⟨q, e, m, hq, rfl, HE, rfl⟩ := hrel
            by_cases hlq : q < k
            · obtain ⟨e, rfl⟩ : ∃ z, e = z + 1 := ⟨e - 1, by omega⟩
              have hlqi : (q : Int) < k := by omega
              obtain ⟨b', off', hbe, hb', hc⟩ := HRZ.out.at hlt
              simp only [Option.some.injEq, Addr.mk.injEq, and_true] at hbe
              obtain ⟨rfl, rfl⟩ := hbe
              have h1 := (hc k hlt).1
              have h2 := (hc k hlt).2
              have h3 := (hc q (by omega)).1
              have h4 := (hc q (by omega)).2
              clear hc
              by_cases hx : x k = x q
              · by_cases hy : y k = y q
                · have HS := Lib.hid (show firstEq x y (x k) (y k) (e + 1) q = q from if_pos (decide_eq_true ⟨hx, hy⟩))
                  have HN := Lib.hid (show okFrom x y (d + 1) k = false from okFrom_no (by rw [HOK.out, HXY.out, HE.out, HS.out, decide_eq_true (by omega)]; rfl))
                  have hx' : (x q == x k) = true := by simp [hx]
                  have hy' : (y q == y k) = true := by simp [hy]
                  clear hx hy
                  go_wp2_with fail
                  go_quiet (fail)
                  go_wp2
                  go_ret
                  exact ⟨by rw [HF.out, HN.out]; rfl, below_drewN (below_drewN (below_next HBW.out HB2.out) _) _⟩
                · have HNO : ¬ (x k = x q ∧ y k = y q) := fun h => hy h.2
                  have HS := Lib.hid (show firstEq x y (x k) (y k) (e + 1) q = firstEq x y (x k) (y k) e (q + 1) from if_neg (by unfold samePt; rw [decide_eq_false HNO]; decide))
                  have hx' : (x q == x k) = true := by simp [hx]
                  have hy' : (y q == y k) = false := by simp; exact fun h => hy h.symm
                  clear hx hy HNO
                  go_wp2_with fail
                  go_quiet (fail)
                  go_wp2
                  go_roundw
                  case rel => exact ⟨q + 1, e, _, by omega, by go_num, Lib.hid (by rw [HE.out, HS.out]), by first | rfl | exact World.drewN_drewN ..⟩
                  case measure => simp [intOf]; omega
              · have HNO : ¬ (x k = x q ∧ y k = y q) := fun h => hx h.1
                have HS := Lib.hid (show firstEq x y (x k) (y k) (e + 1) q = firstEq x y (x k) (y k) e (q + 1) from if_neg (by unfold samePt; rw [decide_eq_false HNO]; decide))
                have hx' : (x q == x k) = false := by simp; exact fun h => hx h.symm
                clear hx HNO
                go_wp2_with fail
                go_quiet (fail)
                go_wp2
                go_roundw
                case rel => exact ⟨q + 1, e, _, by omega, by go_num, Lib.hid (by rw [HE.out, HS.out]), by first | rfl | exact World.drewN_drewN ..⟩
                case measure => simp [intOf]; omega
            · have hqk : q = k := by omega
              have he : e = 0 := by omega
              subst hqk
              subst he
              have hnl : ¬ (q : Int) < q := by omega
              have HN := Lib.hid (show okFrom x y (d + 1) q = okFrom x y d (q + 1) from okFrom_yes (by rw [HOK.out, HXY.out, HE.out]; rfl))
              go_wp2
              go_roundw
              case rel => exact ⟨q + 1, d, by omega, by go_num, Lib.hid (by rw [HF.out, HN.out]), Lib.hid (below_drewN (below_next HBW.out HB2.out) _)⟩
              case measure => simp [intOf]; omega
      · have hd : d = 0 := by omega
        subst hd
        go_wp2
        go_ret
        exact ⟨by rw [HF.out]; rfl, HBW.out⟩
  · have HV : vP x y n = false := by unfold vP; rw [decide_eq_false hc]; rfl
    rw [HV]
    clear HV
    go_enter Try.func57, Try.ntmps57
    go_wp2_with (go_at_call 36; refine (inS_no _ _ _ (by omega) _).mono ?_; rintro e w' ⟨rfl, rfl⟩)
    go_ret
    exact ⟨rfl, Below.refl _ _⟩
end Go.Proofs.Ytbmbgailhiepbaa
