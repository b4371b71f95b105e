/- The program's logarithm, by its contract. -/
import Derived.Test.YtjihbkhmkepohaaRows
import Derived.Test.YtjihbkhmkepohaaLogC
import Derived.Test.YtjihbkhmkepohaaMem
import Derived.BigQuiet
import Derived.Deep.RegionWith
namespace Go.Proofs.Ytjihbkhmkepohaa
open Go.RowKit Ieee

set_option maxHeartbeats 4000000 in
theorem naturalLogI (x0 : Nat) (h : Pw (cf .f64 x0) eA eB) (hx : Pw (cf .f64 (dnF 200 x0)) 725 (eL + 1) ∧ Pw (cf .f64 (lnX x0)) 725 (eL + 1) ∧ (lnE x0).natAbs ≤ 512) (w : World) :
    Calls Try.prog 54 #[.float .f64 x0] w fun e w' => e = .returned (.float .f64 (lnL (lnX x0) (lnE x0))) ∧ w = w' := by
  obtain ⟨hx1, hx2, hx3⟩ := hx
  have HF := Lib.hid (lnFacts hx2 (lnE x0) hx3)
  have H1 := Lib.hid (In1.start h)
  have H2 := Lib.hid (In2.start hx1)
  have HE : lnE x0 = (dnN 200 x0 : Int) - (upN 400 (dnF 200 x0) : Int) := rfl
  have HX : lnX x0 = upF 400 (dnF 200 x0) := rfl
  rw [← HX] at H2
  clear hx1 hx2 hx3 h HX
  generalize lnL (lnX x0) (lnE x0) = L at *
  generalize lnE x0 = E at *
  generalize fB .sub (lnX x0) 4607182418800017408 = A1 at *
  generalize fB .add (lnX x0) 4607182418800017408 = B1 at *
  generalize lnQ (lnU (lnX x0)) = Q at *
  generalize lnU (lnX x0) = U at *
  generalize lnS (lnX x0) = S at *
  generalize lnP (lnX x0) = P1 at *
  generalize lnP2 (lnX x0) = P2 at *
  generalize lnEB E = EB at *
  generalize lnX x0 = X at *
  generalize upN 400 (dnF 200 x0) = N2 at *
  generalize dnN 200 x0 = N1 at *
  generalize dnF 200 x0 = X1 at *
  have HE' := Lib.hid HE
  clear HE
  go_enter Try.func54, Try.ntmps54
  go_wp2
  go_loopw [0, 3] (fun x e wr => ∃ j y : Nat, x = .float .f64 y ∧ e = .float .f64 (floatOfInt .f64 (j : Int)) ∧ Hid (In1 X1 N1 j y) ∧ wr = w) (fun _ e _ => (200 - iB (flN e)).toNat)
  case atStart => exact ⟨0, x0, rfl, by rw [cnt_zero], H1, rfl⟩
  case round =>
    obtain ⟨j, y, rfl, rfl, HI, hw⟩ := hrel
    have hw' := hw.symm
    clear hw
    subst hw'
    have hj : j ≤ 128 := HI.out.1
    cases hg : ge15 y with
    | true =>
      obtain ⟨k1, k2⟩ := HI.out.step hg
      have HN := Lib.hid k2
      have o1 := run_fB (P := Try.prog) k1 28
      have o2 := run_fB (P := Try.prog) (cnt_add j (by omega)) 28
      have hg' : (FloatKind.f64.format.order y 4609434218613702656 == some .gt || FloatKind.f64.format.order y 4609434218613702656 == some .eq) = true := hg
      clear k1 k2 hg
      generalize fB .quo y 4611686018427387904 = y2 at *
      go_wp2
      all_goals go_roundw
      case rel => exact ⟨j + 1, y2, rfl, by rw [show ((j + 1 : Nat) : Int) = (j : Int) + 1 by omega], HN, by first | rfl | trivial⟩
      case measure =>
        have e1 := cnt_iB ((j : Int) + 1) (by omega) (by omega)
        have e2 := cnt_iB (j : Int) (by omega) (by omega)
        rw [flN_float, flN_float, e1, e2]
        omega
    | false =>
      obtain ⟨rfl, rfl, hN⟩ := HI.out.stop hg
      have hg' : (FloatKind.f64.format.order y 4609434218613702656 == some .gt || FloatKind.f64.format.order y 4609434218613702656 == some .eq) = false := hg
      clear hg HI H1
      go_wp2
      go_loopw [0, 3] (fun x e wr => ∃ i z : Nat, x = .float .f64 z ∧ e = .float .f64 (floatOfInt .f64 ((j : Int) - (i : Int))) ∧ Hid (In2 X N2 i z) ∧ wr = w) (fun _ e _ => (iB (flN e) + 400).toNat)
      case atStart => exact ⟨0, y, rfl, by simp, H2, rfl⟩
      case round =>
        obtain ⟨i, z, rfl, rfl, HI, hw⟩ := hrel
        have hw' := hw.symm
        clear hw
        subst hw'
        have hi : i ≤ 349 := HI.out.1
        cases hg : lt75 z with
        | true =>
          obtain ⟨k1, k2⟩ := HI.out.step hg
          have HN := Lib.hid k2
          have o1 := run_fB (P := Try.prog) k1 28
          have o2 := run_fB (P := Try.prog) (cnt_sub ((j : Int) - (i : Int)) (by omega) (by omega)) 28
          have hg' : (FloatKind.f64.format.order z 4604930618986332160 == some .lt) = true := hg
          clear k1 k2 hg
          generalize fB .mul z 4611686018427387904 = z2 at *
          go_wp2
          all_goals go_roundw
          case rel => exact ⟨i + 1, z2, rfl, by rw [show (j : Int) - ((i + 1 : Nat) : Int) = (j : Int) - (i : Int) - 1 by omega], HN, by first | rfl | trivial⟩
          case measure =>
            have e1 := cnt_iB ((j : Int) - (i : Int) - 1) (by omega) (by omega)
            have e2 := cnt_iB ((j : Int) - (i : Int)) (by omega) (by omega)
            rw [flN_float, flN_float, e1, e2]
            omega
        | false =>
          obtain ⟨rfl, rfl, hN2⟩ := HI.out.stop hg
          have hg' : (FloatKind.f64.format.order z 4604930618986332160 == some .lt) = false := hg
          clear hg HI H2
          have hE := HE'.out
          rw [← hE]
          obtain ⟨fa, fb, fs, fu, q0, fq, fp, fp2, fe, fl⟩ := HF.out
          have HQ := Lib.hid fq
          have r1 := run_fB (P := Try.prog) fa 28
          have r2 := run_fB (P := Try.prog) fb 28
          have r3 := run_fB (P := Try.prog) fs 28
          have r4 := run_fB (P := Try.prog) fu 28
          have r5 := run_fB (P := Try.prog) fp 28
          have r6 := run_fB (P := Try.prog) fp2 28
          have r7 := run_fB (P := Try.prog) fe 28
          have r8 := run_fB (P := Try.prog) fl 28
          clear fa fb fs fu fq fp fp2 fe fl HF hE HE'
          go_wp2
          go_loopw [6, 7] (fun q c wr => ∃ k : Nat, k ≤ 13 ∧ q = .float .f64 (Q k) ∧ c = .float .f64 (floatOfInt .f64 (25 - 2 * (k : Int))) ∧ wr = w) (fun _ c _ => (iB (flN c) + 2).toNat)
          case atStart => exact ⟨0, by omega, by rw [q0], by rw [cnt_begin], rfl⟩
          case round =>
            obtain ⟨k, hk, rfl, rfl, rfl⟩ := hrel
            by_cases hk1 : k < 13
            · obtain ⟨c, d, g1, g2, g3⟩ := HQ.out k hk1
              obtain ⟨c1, c2⟩ := cnt_two k hk1
              have s1 := run_fB (P := Try.prog) g1 28
              have s2 := run_fB (P := Try.prog) g2 28
              have s3 := run_fB (P := Try.prog) g3 28
              have s4 := run_fB (P := Try.prog) c1 28
              clear g1 g2 g3 c1
              go_wp2
              all_goals go_roundw
              case rel => exact ⟨k + 1, by omega, rfl, by rw [show ((k + 1 : Nat) : Int) = (k : Int) + 1 by omega], by first | rfl | trivial⟩
              case measure =>
                have e1 := cnt_iB (25 - 2 * ((k : Int) + 1)) (by omega) (by omega)
                have e2 := cnt_iB (25 - 2 * (k : Int)) (by omega) (by omega)
                rw [flN_float, flN_float, e1, e2]
                omega
            · have hk0 : k = 13 := by omega
              subst hk0
              have c0 := cnt_end
              go_wp2
              go_ret
              exact ⟨rfl, rfl⟩
end Go.Proofs.Ytjihbkhmkepohaa
