/- the reference's phasor, by its contract. -/
import Derived.Test.YtbmbgailhiepbaaAbs
import Derived.Test.YtbmbgailhiepbaaSinS
import Derived.BigQuiet
import Derived.Deep.RegionWith
import Derived.Laws.Cover3
namespace Go.Proofs.Ytbmbgailhiepbaa
open Go.RowKit Ieee

set_option maxRecDepth 100000 in
set_option maxHeartbeats 1000000 in
theorem phasorS (t : Nat) (h : Bp (cf .f64 t) 51) (w : World) :
    Calls Try.prog 47 #[.float .f64 t] w fun e w' => e = .returned (.complex .f32 (phR t) (phI t)) ∧ w = w' := by
  have g0 := B_sub h h (by omega)
  have d0 := run_fB (P := Try.prog) g0.1 63
  have d1 : (FloatKind.f64.format.order (fB .sub t t) 0 == some .eq) = true := by
    rw [order_cf, g0.2.2, sub_self_zero h]; rfl
  have d1' : (FloatKind.f64.format.order (fB .sub t t) 0 != some .eq) = false := by
    rw [order_cf, g0.2.2, sub_self_zero h]; rfl
  generalize fB .sub t t = t0 at d0 d1 d1'
  have d2 : (FloatKind.f64.format.order t 4841369599423283200 == some .gt || FloatKind.f64.format.order t 4841369599423283200 == some .eq) = false := by
    rw [order_cf, (big_lt h).1]; rfl
  have d3 : (FloatKind.f64.format.order t 14064741636278059008 == some .lt || FloatKind.f64.format.order t 14064741636278059008 == some .eq) = false := by
    rw [order_cf, (big_lt h).2]; rfl
  have s1 : ∀ u, Calls Try.prog 72 #[.float .f64 (pG t)] u fun e w' => e = .returned (.float .f64 (pC t)) ∧ u = w' := fun u => sineS (pG t) ((pG_bp h).2.mono (by omega)) u
  have s2 : ∀ u, Calls Try.prog 72 #[.float .f64 (pF t)] u fun e w' => e = .returned (.float .f64 (pS t)) ∧ u = w' := fun u => sineS (pF t) ((pF_bp h).mono (by omega)) u
  have HP := Lib.hid (p_bp h)
  have HU := Lib.hid (Ub.of (frB_bp h))
  have HG := Lib.hid (pG_bp h).1
  have HN : pN t = qn 9 (frB t) := rfl
  have HF : pF t = qf 9 (frB t) := rfl
  have q1 := run_iB (P := Try.prog) h 63 2 (by rw [Try.underlying63]; rfl) Try.underlying2
  obtain ⟨h1, h2, h3⟩ := iB_frac h
  have q2 := run_fB (P := Try.prog) h2 63
  have q3 := run_fB (P := Try.prog) (B_add h3 bp_one (by omega)).1 63
  have e0 : frB t = if (FloatKind.f64.format.order (fB .sub t (floatOfInt .f64 (iB t))) 0 == some .lt) = true then fB .add (fB .sub t (floatOfInt .f64 (iB t))) 4607182418800017408 else fB .sub t (floatOfInt .f64 (iB t)) := rfl
  generalize fB .sub t (floatOfInt .f64 (iB t)) = f0 at e0 q2 q3
  clear h1 h2 h3
  generalize frB t = fr at *
  clear g0 h
  cases hl : (FloatKind.f64.format.order f0 0 == some .lt) with
  | true =>
    rw [hl, if_pos rfl] at e0
    rw [← e0] at q3
    clear e0
    go_enter Try.func47, Try.ntmps47
    go_wp2
    go_loopw [3, 4] (fun x c wr => ∃ (j : Nat) (f : Nat), j ≤ 8 ∧ c = .int .i64 j ∧ x = .float .f64 f ∧ Ub (cf .f64 f) (8 - j) ∧ qn 9 fr = j + qn (9 - j) f ∧ qf 9 fr = qf (9 - j) f ∧ wr = w) (fun _ c _ => 9 - (intOf c).toNat)
    case atStart => exact ⟨0, fr, by omega, rfl, rfl, HU.out, by simp, rfl, rfl⟩
    case round =>
      obtain ⟨j, f, hj, rfl, rfl, hub, hqn, hqf, rfl⟩ := hrel
      cases hg : geQ f with
      | true =>
        obtain ⟨k1, k2, k3⟩ := quarter_round hub (by omega) hg
        have o1 := run_fB (P := Try.prog) k2 63
        have hg' : (FloatKind.f64.format.order f 4598175219545276416 == some .gt || FloatKind.f64.format.order f 4598175219545276416 == some .eq) = true := hg
        have hqn2 : qn (9 - j) f = 1 + qn (8 - j) (fB .sub f 4598175219545276416) := by
          rw [show 9 - j = (8 - j) + 1 by omega, qn, if_pos hg]
        have hqf2 : qf (9 - j) f = qf (8 - j) (fB .sub f 4598175219545276416) := by
          rw [show 9 - j = (8 - j) + 1 by omega, qf, if_pos hg]
        have HNEW := Lib.hid (show Ub (cf .f64 (fB .sub f 4598175219545276416)) (8 - (j + 1)) ∧ qn 9 fr = (j + 1 : Nat) + qn (9 - (j + 1)) (fB .sub f 4598175219545276416) ∧ qf 9 fr = qf (9 - (j + 1)) (fB .sub f 4598175219545276416) from
          ⟨by rw [show 8 - (j + 1) = 8 - j - 1 by omega]; exact k3, by rw [hqn, hqn2, show 9 - (j + 1) = 8 - j by omega]; omega, by rw [hqf, hqf2, show 9 - (j + 1) = 8 - j by omega]⟩)
        generalize fB .sub f 4598175219545276416 = f2 at o1 HNEW
        clear k2 k3 hqn2 hqf2 hqn hqf hub hg s1 s2
        go_wp2
        all_goals go_roundw
        case rel => exact ⟨j + 1, f2, by omega, by go_num, rfl, HNEW.out.1, HNEW.out.2.1, HNEW.out.2.2, by first | rfl | trivial⟩
        case measure => simp [intOf]; omega
      | false =>
        have hg' : (FloatKind.f64.format.order f 4598175219545276416 == some .gt || FloatKind.f64.format.order f 4598175219545276416 == some .eq) = false := hg
        have hN : pN t = j := by
          rw [HN, hqn, show 9 - j = (8 - j) + 1 by omega, qn, if_neg (by rw [hg]; decide)]; rfl
        have hF : f = pF t := by
          rw [HF, hqf, show 9 - j = (8 - j) + 1 by omega, qf, if_neg (by rw [hg]; decide)]
        subst hF
        clear hg
        by_cases hj1 : j = 1
        · subst hj1
          obtain ⟨z1, z2, z3, z4, z5, z6⟩ := HP.out
          have o1 := run_fB (P := Try.prog) HG.out 63
          have o2 := run_fB (P := Try.prog) z5 63
          have o3 := run_fB (P := Try.prog) z3 63
          have m1 := run_nB (P := Try.prog) z1 (by omega) 63 22 (by rw [Try.underlying63]; rfl) Try.underlying22
          have m2 := run_nB (P := Try.prog) z2 (by omega) 63 22 (by rw [Try.underlying63]; rfl) Try.underlying22
          have m3 := run_nB (P := Try.prog) z4 (by omega) 63 22 (by rw [Try.underlying63]; rfl) Try.underlying22
          have m4 := run_nB (P := Try.prog) z6 (by omega) 63 22 (by rw [Try.underlying63]; rfl) Try.underlying22
          clear z1 z2 z3 z4 z5 z6
          have eR : phR t = nB (pNS t) := by unfold phR; rw [hN]; rfl
          have eI : phI t = nB (pC t) := by unfold phI; rw [hN]; rfl
          clear hN HN HF HP HG HU hqn hqf hub
          generalize nB (pC t) = bC at *
          generalize nB (pS t) = bS at *
          generalize nB (pNC t) = bNC at *
          generalize nB (pNS t) = bNS at *
          generalize pNC t = vNC at *
          generalize pNS t = vNS at *
          generalize pC t = vC at *
          generalize pS t = vS at *
          generalize pG t = vG at *
          generalize pF t = vF at *
          go_wp2_with (first | (go_at_call 72; with_reducible (first | (refine (s1 _).mono ?_; rintro e w' ⟨rfl, rfl⟩) | (refine (s2 _).mono ?_; rintro e w' ⟨rfl, rfl⟩))) | go_in)
          all_goals go_ret
          all_goals exact ⟨by rw [eR, eI]; rfl, rfl⟩
        · by_cases hj2 : j = 2
          · subst hj2
            obtain ⟨z1, z2, z3, z4, z5, z6⟩ := HP.out
            have o1 := run_fB (P := Try.prog) HG.out 63
            have o2 := run_fB (P := Try.prog) z5 63
            have o3 := run_fB (P := Try.prog) z3 63
            have m1 := run_nB (P := Try.prog) z1 (by omega) 63 22 (by rw [Try.underlying63]; rfl) Try.underlying22
            have m2 := run_nB (P := Try.prog) z2 (by omega) 63 22 (by rw [Try.underlying63]; rfl) Try.underlying22
            have m3 := run_nB (P := Try.prog) z4 (by omega) 63 22 (by rw [Try.underlying63]; rfl) Try.underlying22
            have m4 := run_nB (P := Try.prog) z6 (by omega) 63 22 (by rw [Try.underlying63]; rfl) Try.underlying22
            clear z1 z2 z3 z4 z5 z6
            have eR : phR t = nB (pNC t) := by unfold phR; rw [hN]; rfl
            have eI : phI t = nB (pNS t) := by unfold phI; rw [hN]; rfl
            clear hN HN HF HP HG HU hqn hqf hub
            generalize nB (pC t) = bC at *
            generalize nB (pS t) = bS at *
            generalize nB (pNC t) = bNC at *
            generalize nB (pNS t) = bNS at *
            generalize pNC t = vNC at *
            generalize pNS t = vNS at *
            generalize pC t = vC at *
            generalize pS t = vS at *
            generalize pG t = vG at *
            generalize pF t = vF at *
            go_wp2_with (first | (go_at_call 72; with_reducible (first | (refine (s1 _).mono ?_; rintro e w' ⟨rfl, rfl⟩) | (refine (s2 _).mono ?_; rintro e w' ⟨rfl, rfl⟩))) | go_in)
            all_goals go_ret
            all_goals exact ⟨by rw [eR, eI]; rfl, rfl⟩
          · by_cases hj3 : j = 3
            · subst hj3
              obtain ⟨z1, z2, z3, z4, z5, z6⟩ := HP.out
              have o1 := run_fB (P := Try.prog) HG.out 63
              have o2 := run_fB (P := Try.prog) z5 63
              have o3 := run_fB (P := Try.prog) z3 63
              have m1 := run_nB (P := Try.prog) z1 (by omega) 63 22 (by rw [Try.underlying63]; rfl) Try.underlying22
              have m2 := run_nB (P := Try.prog) z2 (by omega) 63 22 (by rw [Try.underlying63]; rfl) Try.underlying22
              have m3 := run_nB (P := Try.prog) z4 (by omega) 63 22 (by rw [Try.underlying63]; rfl) Try.underlying22
              have m4 := run_nB (P := Try.prog) z6 (by omega) 63 22 (by rw [Try.underlying63]; rfl) Try.underlying22
              clear z1 z2 z3 z4 z5 z6
              have eR : phR t = nB (pS t) := by unfold phR; rw [hN]; rfl
              have eI : phI t = nB (pNC t) := by unfold phI; rw [hN]; rfl
              clear hN HN HF HP HG HU hqn hqf hub
              generalize nB (pC t) = bC at *
              generalize nB (pS t) = bS at *
              generalize nB (pNC t) = bNC at *
              generalize nB (pNS t) = bNS at *
              generalize pNC t = vNC at *
              generalize pNS t = vNS at *
              generalize pC t = vC at *
              generalize pS t = vS at *
              generalize pG t = vG at *
              generalize pF t = vF at *
              go_wp2_with (first | (go_at_call 72; with_reducible (first | (refine (s1 _).mono ?_; rintro e w' ⟨rfl, rfl⟩) | (refine (s2 _).mono ?_; rintro e w' ⟨rfl, rfl⟩))) | go_in)
              all_goals go_ret
              all_goals exact ⟨by rw [eR, eI]; rfl, rfl⟩
            · skip
              obtain ⟨z1, z2, z3, z4, z5, z6⟩ := HP.out
              have o1 := run_fB (P := Try.prog) HG.out 63
              have o2 := run_fB (P := Try.prog) z5 63
              have o3 := run_fB (P := Try.prog) z3 63
              have m1 := run_nB (P := Try.prog) z1 (by omega) 63 22 (by rw [Try.underlying63]; rfl) Try.underlying22
              have m2 := run_nB (P := Try.prog) z2 (by omega) 63 22 (by rw [Try.underlying63]; rfl) Try.underlying22
              have m3 := run_nB (P := Try.prog) z4 (by omega) 63 22 (by rw [Try.underlying63]; rfl) Try.underlying22
              have m4 := run_nB (P := Try.prog) z6 (by omega) 63 22 (by rw [Try.underlying63]; rfl) Try.underlying22
              clear z1 z2 z3 z4 z5 z6
              have eR : phR t = nB (pC t) := by unfold phR; rw [hN, if_neg hj1, if_neg hj2, if_neg hj3]
              have eI : phI t = nB (pS t) := by unfold phI; rw [hN, if_neg hj1, if_neg hj2, if_neg hj3]
              have hi1 : ¬ (j : Int) = 1 := by omega
              have hi2 : ¬ (j : Int) = 2 := by omega
              have hi3 : ¬ (j : Int) = 3 := by omega
              clear hN HN HF HP HG HU hqn hqf hub
              generalize nB (pC t) = bC at *
              generalize nB (pS t) = bS at *
              generalize nB (pNC t) = bNC at *
              generalize nB (pNS t) = bNS at *
              generalize pNC t = vNC at *
              generalize pNS t = vNS at *
              generalize pC t = vC at *
              generalize pS t = vS at *
              generalize pG t = vG at *
              generalize pF t = vF at *
              go_wp2_with (first | (go_at_call 72; with_reducible (first | (refine (s1 _).mono ?_; rintro e w' ⟨rfl, rfl⟩) | (refine (s2 _).mono ?_; rintro e w' ⟨rfl, rfl⟩))) | go_in)
              all_goals go_ret
              all_goals exact ⟨by rw [eR, eI]; rfl, rfl⟩
  | false =>
    rw [hl, if_neg (by decide)] at e0
    clear q3
    subst e0
    go_enter Try.func47, Try.ntmps47
    go_wp2
    go_loopw [3, 4] (fun x c wr => ∃ (j : Nat) (f : Nat), j ≤ 8 ∧ c = .int .i64 j ∧ x = .float .f64 f ∧ Ub (cf .f64 f) (8 - j) ∧ qn 9 fr = j + qn (9 - j) f ∧ qf 9 fr = qf (9 - j) f ∧ wr = w) (fun _ c _ => 9 - (intOf c).toNat)
    case atStart => exact ⟨0, fr, by omega, rfl, rfl, HU.out, by simp, rfl, rfl⟩
    case round =>
      obtain ⟨j, f, hj, rfl, rfl, hub, hqn, hqf, rfl⟩ := hrel
      cases hg : geQ f with
      | true =>
        obtain ⟨k1, k2, k3⟩ := quarter_round hub (by omega) hg
        have o1 := run_fB (P := Try.prog) k2 63
        have hg' : (FloatKind.f64.format.order f 4598175219545276416 == some .gt || FloatKind.f64.format.order f 4598175219545276416 == some .eq) = true := hg
        have hqn2 : qn (9 - j) f = 1 + qn (8 - j) (fB .sub f 4598175219545276416) := by
          rw [show 9 - j = (8 - j) + 1 by omega, qn, if_pos hg]
        have hqf2 : qf (9 - j) f = qf (8 - j) (fB .sub f 4598175219545276416) := by
          rw [show 9 - j = (8 - j) + 1 by omega, qf, if_pos hg]
        have HNEW := Lib.hid (show Ub (cf .f64 (fB .sub f 4598175219545276416)) (8 - (j + 1)) ∧ qn 9 fr = (j + 1 : Nat) + qn (9 - (j + 1)) (fB .sub f 4598175219545276416) ∧ qf 9 fr = qf (9 - (j + 1)) (fB .sub f 4598175219545276416) from
          ⟨by rw [show 8 - (j + 1) = 8 - j - 1 by omega]; exact k3, by rw [hqn, hqn2, show 9 - (j + 1) = 8 - j by omega]; omega, by rw [hqf, hqf2, show 9 - (j + 1) = 8 - j by omega]⟩)
        generalize fB .sub f 4598175219545276416 = f2 at o1 HNEW
        clear k2 k3 hqn2 hqf2 hqn hqf hub hg s1 s2
        go_wp2
        all_goals go_roundw
        case rel => exact ⟨j + 1, f2, by omega, by go_num, rfl, HNEW.out.1, HNEW.out.2.1, HNEW.out.2.2, by first | rfl | trivial⟩
        case measure => simp [intOf]; omega
      | false =>
        have hg' : (FloatKind.f64.format.order f 4598175219545276416 == some .gt || FloatKind.f64.format.order f 4598175219545276416 == some .eq) = false := hg
        have hN : pN t = j := by
          rw [HN, hqn, show 9 - j = (8 - j) + 1 by omega, qn, if_neg (by rw [hg]; decide)]; rfl
        have hF : f = pF t := by
          rw [HF, hqf, show 9 - j = (8 - j) + 1 by omega, qf, if_neg (by rw [hg]; decide)]
        subst hF
        clear hg
        by_cases hj1 : j = 1
        · subst hj1
          obtain ⟨z1, z2, z3, z4, z5, z6⟩ := HP.out
          have o1 := run_fB (P := Try.prog) HG.out 63
          have o2 := run_fB (P := Try.prog) z5 63
          have o3 := run_fB (P := Try.prog) z3 63
          have m1 := run_nB (P := Try.prog) z1 (by omega) 63 22 (by rw [Try.underlying63]; rfl) Try.underlying22
          have m2 := run_nB (P := Try.prog) z2 (by omega) 63 22 (by rw [Try.underlying63]; rfl) Try.underlying22
          have m3 := run_nB (P := Try.prog) z4 (by omega) 63 22 (by rw [Try.underlying63]; rfl) Try.underlying22
          have m4 := run_nB (P := Try.prog) z6 (by omega) 63 22 (by rw [Try.underlying63]; rfl) Try.underlying22
          clear z1 z2 z3 z4 z5 z6
          have eR : phR t = nB (pNS t) := by unfold phR; rw [hN]; rfl
          have eI : phI t = nB (pC t) := by unfold phI; rw [hN]; rfl
          clear hN HN HF HP HG HU hqn hqf hub
          generalize nB (pC t) = bC at *
          generalize nB (pS t) = bS at *
          generalize nB (pNC t) = bNC at *
          generalize nB (pNS t) = bNS at *
          generalize pNC t = vNC at *
          generalize pNS t = vNS at *
          generalize pC t = vC at *
          generalize pS t = vS at *
          generalize pG t = vG at *
          generalize pF t = vF at *
          go_wp2_with (first | (go_at_call 72; with_reducible (first | (refine (s1 _).mono ?_; rintro e w' ⟨rfl, rfl⟩) | (refine (s2 _).mono ?_; rintro e w' ⟨rfl, rfl⟩))) | go_in)
          all_goals go_ret
          all_goals exact ⟨by rw [eR, eI]; rfl, rfl⟩
        · by_cases hj2 : j = 2
          · subst hj2
            obtain ⟨z1, z2, z3, z4, z5, z6⟩ := HP.out
            have o1 := run_fB (P := Try.prog) HG.out 63
            have o2 := run_fB (P := Try.prog) z5 63
            have o3 := run_fB (P := Try.prog) z3 63
            have m1 := run_nB (P := Try.prog) z1 (by omega) 63 22 (by rw [Try.underlying63]; rfl) Try.underlying22
            have m2 := run_nB (P := Try.prog) z2 (by omega) 63 22 (by rw [Try.underlying63]; rfl) Try.underlying22
            have m3 := run_nB (P := Try.prog) z4 (by omega) 63 22 (by rw [Try.underlying63]; rfl) Try.underlying22
            have m4 := run_nB (P := Try.prog) z6 (by omega) 63 22 (by rw [Try.underlying63]; rfl) Try.underlying22
            clear z1 z2 z3 z4 z5 z6
            have eR : phR t = nB (pNC t) := by unfold phR; rw [hN]; rfl
            have eI : phI t = nB (pNS t) := by unfold phI; rw [hN]; rfl
            clear hN HN HF HP HG HU hqn hqf hub
            generalize nB (pC t) = bC at *
            generalize nB (pS t) = bS at *
            generalize nB (pNC t) = bNC at *
            generalize nB (pNS t) = bNS at *
            generalize pNC t = vNC at *
            generalize pNS t = vNS at *
            generalize pC t = vC at *
            generalize pS t = vS at *
            generalize pG t = vG at *
            generalize pF t = vF at *
            go_wp2_with (first | (go_at_call 72; with_reducible (first | (refine (s1 _).mono ?_; rintro e w' ⟨rfl, rfl⟩) | (refine (s2 _).mono ?_; rintro e w' ⟨rfl, rfl⟩))) | go_in)
            all_goals go_ret
            all_goals exact ⟨by rw [eR, eI]; rfl, rfl⟩
          · by_cases hj3 : j = 3
            · subst hj3
              obtain ⟨z1, z2, z3, z4, z5, z6⟩ := HP.out
              have o1 := run_fB (P := Try.prog) HG.out 63
              have o2 := run_fB (P := Try.prog) z5 63
              have o3 := run_fB (P := Try.prog) z3 63
              have m1 := run_nB (P := Try.prog) z1 (by omega) 63 22 (by rw [Try.underlying63]; rfl) Try.underlying22
              have m2 := run_nB (P := Try.prog) z2 (by omega) 63 22 (by rw [Try.underlying63]; rfl) Try.underlying22
              have m3 := run_nB (P := Try.prog) z4 (by omega) 63 22 (by rw [Try.underlying63]; rfl) Try.underlying22
              have m4 := run_nB (P := Try.prog) z6 (by omega) 63 22 (by rw [Try.underlying63]; rfl) Try.underlying22
              clear z1 z2 z3 z4 z5 z6
              have eR : phR t = nB (pS t) := by unfold phR; rw [hN]; rfl
              have eI : phI t = nB (pNC t) := by unfold phI; rw [hN]; rfl
              clear hN HN HF HP HG HU hqn hqf hub
              generalize nB (pC t) = bC at *
              generalize nB (pS t) = bS at *
              generalize nB (pNC t) = bNC at *
              generalize nB (pNS t) = bNS at *
              generalize pNC t = vNC at *
              generalize pNS t = vNS at *
              generalize pC t = vC at *
              generalize pS t = vS at *
              generalize pG t = vG at *
              generalize pF t = vF at *
              go_wp2_with (first | (go_at_call 72; with_reducible (first | (refine (s1 _).mono ?_; rintro e w' ⟨rfl, rfl⟩) | (refine (s2 _).mono ?_; rintro e w' ⟨rfl, rfl⟩))) | go_in)
              all_goals go_ret
              all_goals exact ⟨by rw [eR, eI]; rfl, rfl⟩
            · skip
              obtain ⟨z1, z2, z3, z4, z5, z6⟩ := HP.out
              have o1 := run_fB (P := Try.prog) HG.out 63
              have o2 := run_fB (P := Try.prog) z5 63
              have o3 := run_fB (P := Try.prog) z3 63
              have m1 := run_nB (P := Try.prog) z1 (by omega) 63 22 (by rw [Try.underlying63]; rfl) Try.underlying22
              have m2 := run_nB (P := Try.prog) z2 (by omega) 63 22 (by rw [Try.underlying63]; rfl) Try.underlying22
              have m3 := run_nB (P := Try.prog) z4 (by omega) 63 22 (by rw [Try.underlying63]; rfl) Try.underlying22
              have m4 := run_nB (P := Try.prog) z6 (by omega) 63 22 (by rw [Try.underlying63]; rfl) Try.underlying22
              clear z1 z2 z3 z4 z5 z6
              have eR : phR t = nB (pC t) := by unfold phR; rw [hN, if_neg hj1, if_neg hj2, if_neg hj3]
              have eI : phI t = nB (pS t) := by unfold phI; rw [hN, if_neg hj1, if_neg hj2, if_neg hj3]
              have hi1 : ¬ (j : Int) = 1 := by omega
              have hi2 : ¬ (j : Int) = 2 := by omega
              have hi3 : ¬ (j : Int) = 3 := by omega
              clear hN HN HF HP HG HU hqn hqf hub
              generalize nB (pC t) = bC at *
              generalize nB (pS t) = bS at *
              generalize nB (pNC t) = bNC at *
              generalize nB (pNS t) = bNS at *
              generalize pNC t = vNC at *
              generalize pNS t = vNS at *
              generalize pC t = vC at *
              generalize pS t = vS at *
              generalize pG t = vG at *
              generalize pF t = vF at *
              go_wp2_with (first | (go_at_call 72; with_reducible (first | (refine (s1 _).mono ?_; rintro e w' ⟨rfl, rfl⟩) | (refine (s2 _).mono ?_; rintro e w' ⟨rfl, rfl⟩))) | go_in)
              all_goals go_ret
              all_goals exact ⟨by rw [eR, eI]; rfl, rfl⟩
end Go.Proofs.Ytbmbgailhiepbaa
