/- the reference's sine, by its contract. -/
import Derived.Test.YtbmbgailhiepbaaSin
import Derived.BigQuiet
import Derived.Deep.RegionWith
namespace Go.Proofs.Ytbmbgailhiepbaa
open Go.RowKit Ieee

set_option maxHeartbeats 8000000 in
theorem sineS (t : Nat) (h : Bp (cf .f64 t) 51) (w : World) :
    Calls Try.prog 72 #[.float .f64 t] w fun e w' => e = .returned (.float .f64 (sinB t)) ∧ w = w' := by
  obtain ⟨x1, x2, hz, x4, _⟩ := xB_all h
  obtain ⟨h1, h2, h3⟩ := iB_frac h
  have g0 := B_sub h h (by omega)
  have d0 := run_fB (P := Try.prog) g0.1 63
  have d1 : (FloatKind.f64.format.order (fB .sub t t) 0 != some .eq) = false := by
    rw [order_cf, g0.2.2, sub_self_zero h]; rfl
  have d2 : (FloatKind.f64.format.order t 4841369599423283200 == some .gt || FloatKind.f64.format.order t 4841369599423283200 == some .eq) = false := by
    rw [order_cf, (big_lt h).1]; rfl
  have d3 : (FloatKind.f64.format.order t 14064741636278059008 == some .lt || FloatKind.f64.format.order t 14064741636278059008 == some .eq) = false := by
    rw [order_cf, (big_lt h).2]; rfl
  generalize fB .sub t t = t0 at d0 d1
  have q1 := run_iB (P := Try.prog) h 63 2 (by rw [Try.underlying63]; rfl) Try.underlying2
  have q2 := run_fB (P := Try.prog) h2 63
  have q3 := run_fB (P := Try.prog) (B_add h3 bp_one (by omega)).1 63
  have hf1 := frB_bp h
  have hs1 := s1B_bp hf1
  have a1 := run_fB (P := Try.prog) x1 63
  have a2 := run_fB (P := Try.prog) x2 63
  have a3 := run_fB (P := Try.prog) x4 63
  have b1 := run_fB (P := Try.prog) (B_sub hf1 (bp_half.mono (by omega)) (by omega)).1 63
  have b2 := run_fB (P := Try.prog) (B_sub (bp_half.mono (by omega)) hs1 (by omega)).1 63
  unfold sinB
  generalize rB t = r at a3 ⊢
  generalize zB t = z at hz a2 a3
  generalize xB t = x at a1 a2 a3
  have e0 : frB t = if (FloatKind.f64.format.order (fB .sub t (floatOfInt .f64 (iB t))) 0 == some .lt) = true then fB .add (fB .sub t (floatOfInt .f64 (iB t))) 4607182418800017408 else fB .sub t (floatOfInt .f64 (iB t)) := rfl
  generalize fB .sub t (floatOfInt .f64 (iB t)) = f0 at e0 q2 q3
  generalize frB t = f at *
  clear x1 x2 x4 hf1 hs1 h1 h2 h3 h g0
  cases hl : (FloatKind.f64.format.order f0 0 == some .lt) with
  | true =>
    rw [hl] at e0
    cases hb : bigB f with
    | true =>
      cases hg : (FloatKind.f64.format.order (s1B f) 4598175219545276416 == some .gt) with
      | true =>
        rw [if_pos rfl] at e0
        rw [← e0] at q3
        clear e0
        have e1 : s1B f = fB .sub f 4602678819172646912 := if_pos hb
        rw [e1] at a1 b2 hg
        have e2 : s2B (fB .sub f 4602678819172646912) = fB .sub 4602678819172646912 (fB .sub f 4602678819172646912) := if_pos hg
        rw [e2] at a1
        clear e1 e2
        generalize fB .sub f 4602678819172646912 = g at *
        generalize fB .sub 4602678819172646912 g = g2 at *
        have hb' : (FloatKind.f64.format.order f 4602678819172646912 == some .gt || FloatKind.f64.format.order f 4602678819172646912 == some .eq) = true := hb
        clear hb
        rw [if_pos rfl]
        go_enter Try.func72, Try.ntmps72
        go_wp2
        go_loopw [7, 8] (fun p c wr => ∃ k : Nat, k ≤ 8 ∧ p = .float .f64 (pB z (8 - k)) ∧ c = .int .i64 k ∧ wr = w) (fun _ c _ => (intOf c).toNat)
        case atStart => exact ⟨8, by omega, rfl, rfl, rfl⟩
        case round =>
          obtain ⟨k, hk, rfl, rfl, rfl⟩ := hrel
          by_cases hk1 : 1 ≤ k
          · obtain ⟨p1, p2, p3⟩ := pB_at hz k hk1 hk
            have hd := dk_in k hk1 hk
            have r5 := run_fB (P := Try.prog) p1 63
            have r6 := run_fB (P := Try.prog) p2 63
            have r7 := run_fB (P := Try.prog) p3 63
            unfold dkB at r6 r7
            clear p1 p2 p3
            have hk1' : (1 : Int) ≤ k := by omega
            go_wp2
            all_goals go_roundw
            case rel => exact ⟨k - 1, by omega, rfl, by go_num, by first | rfl | trivial⟩
            case measure => simp [intOf]; omega
          · have hk0 : k = 0 := by omega
            subst hk0
            go_wp2
            go_ret
            exact ⟨rfl, rfl⟩
      | false =>
        rw [if_pos rfl] at e0
        rw [← e0] at q3
        clear e0
        have e1 : s1B f = fB .sub f 4602678819172646912 := if_pos hb
        rw [e1] at a1 b2 hg
        have e2 : s2B (fB .sub f 4602678819172646912) = (fB .sub f 4602678819172646912) := if_neg (by rw [hg]; decide)
        rw [e2] at a1
        clear e1 e2
        generalize fB .sub f 4602678819172646912 = g at *
        have hb' : (FloatKind.f64.format.order f 4602678819172646912 == some .gt || FloatKind.f64.format.order f 4602678819172646912 == some .eq) = true := hb
        clear hb
        rw [if_pos rfl]
        go_enter Try.func72, Try.ntmps72
        go_wp2
        go_loopw [7, 8] (fun p c wr => ∃ k : Nat, k ≤ 8 ∧ p = .float .f64 (pB z (8 - k)) ∧ c = .int .i64 k ∧ wr = w) (fun _ c _ => (intOf c).toNat)
        case atStart => exact ⟨8, by omega, rfl, rfl, rfl⟩
        case round =>
          obtain ⟨k, hk, rfl, rfl, rfl⟩ := hrel
          by_cases hk1 : 1 ≤ k
          · obtain ⟨p1, p2, p3⟩ := pB_at hz k hk1 hk
            have hd := dk_in k hk1 hk
            have r5 := run_fB (P := Try.prog) p1 63
            have r6 := run_fB (P := Try.prog) p2 63
            have r7 := run_fB (P := Try.prog) p3 63
            unfold dkB at r6 r7
            clear p1 p2 p3
            have hk1' : (1 : Int) ≤ k := by omega
            go_wp2
            all_goals go_roundw
            case rel => exact ⟨k - 1, by omega, rfl, by go_num, by first | rfl | trivial⟩
            case measure => simp [intOf]; omega
          · have hk0 : k = 0 := by omega
            subst hk0
            go_wp2
            go_ret
            exact ⟨rfl, rfl⟩
    | false =>
      cases hg : (FloatKind.f64.format.order (s1B f) 4598175219545276416 == some .gt) with
      | true =>
        rw [if_pos rfl] at e0
        rw [← e0] at q3
        clear e0
        have e1 : s1B f = f := if_neg (by rw [hb]; decide)
        rw [e1] at a1 b2 hg
        have e2 : s2B f = fB .sub 4602678819172646912 f := if_pos hg
        rw [e2] at a1
        clear e1 e2
        generalize fB .sub 4602678819172646912 f = g2 at *
        have hb' : (FloatKind.f64.format.order f 4602678819172646912 == some .gt || FloatKind.f64.format.order f 4602678819172646912 == some .eq) = false := hb
        clear hb
        rw [if_neg (by decide)]
        go_enter Try.func72, Try.ntmps72
        go_wp2
        go_loopw [7, 8] (fun p c wr => ∃ k : Nat, k ≤ 8 ∧ p = .float .f64 (pB z (8 - k)) ∧ c = .int .i64 k ∧ wr = w) (fun _ c _ => (intOf c).toNat)
        case atStart => exact ⟨8, by omega, rfl, rfl, rfl⟩
        case round =>
          obtain ⟨k, hk, rfl, rfl, rfl⟩ := hrel
          by_cases hk1 : 1 ≤ k
          · obtain ⟨p1, p2, p3⟩ := pB_at hz k hk1 hk
            have hd := dk_in k hk1 hk
            have r5 := run_fB (P := Try.prog) p1 63
            have r6 := run_fB (P := Try.prog) p2 63
            have r7 := run_fB (P := Try.prog) p3 63
            unfold dkB at r6 r7
            clear p1 p2 p3
            have hk1' : (1 : Int) ≤ k := by omega
            go_wp2
            all_goals go_roundw
            case rel => exact ⟨k - 1, by omega, rfl, by go_num, by first | rfl | trivial⟩
            case measure => simp [intOf]; omega
          · have hk0 : k = 0 := by omega
            subst hk0
            go_wp2
            go_ret
            exact ⟨rfl, rfl⟩
      | false =>
        rw [if_pos rfl] at e0
        rw [← e0] at q3
        clear e0
        have e1 : s1B f = f := if_neg (by rw [hb]; decide)
        rw [e1] at a1 b2 hg
        have e2 : s2B f = f := if_neg (by rw [hg]; decide)
        rw [e2] at a1
        clear e1 e2
        have hb' : (FloatKind.f64.format.order f 4602678819172646912 == some .gt || FloatKind.f64.format.order f 4602678819172646912 == some .eq) = false := hb
        clear hb
        rw [if_neg (by decide)]
        go_enter Try.func72, Try.ntmps72
        go_wp2
        go_loopw [7, 8] (fun p c wr => ∃ k : Nat, k ≤ 8 ∧ p = .float .f64 (pB z (8 - k)) ∧ c = .int .i64 k ∧ wr = w) (fun _ c _ => (intOf c).toNat)
        case atStart => exact ⟨8, by omega, rfl, rfl, rfl⟩
        case round =>
          obtain ⟨k, hk, rfl, rfl, rfl⟩ := hrel
          by_cases hk1 : 1 ≤ k
          · obtain ⟨p1, p2, p3⟩ := pB_at hz k hk1 hk
            have hd := dk_in k hk1 hk
            have r5 := run_fB (P := Try.prog) p1 63
            have r6 := run_fB (P := Try.prog) p2 63
            have r7 := run_fB (P := Try.prog) p3 63
            unfold dkB at r6 r7
            clear p1 p2 p3
            have hk1' : (1 : Int) ≤ k := by omega
            go_wp2
            all_goals go_roundw
            case rel => exact ⟨k - 1, by omega, rfl, by go_num, by first | rfl | trivial⟩
            case measure => simp [intOf]; omega
          · have hk0 : k = 0 := by omega
            subst hk0
            go_wp2
            go_ret
            exact ⟨rfl, rfl⟩
  | false =>
    rw [hl] at e0
    cases hb : bigB f with
    | true =>
      cases hg : (FloatKind.f64.format.order (s1B f) 4598175219545276416 == some .gt) with
      | true =>
        rw [if_neg (by decide)] at e0
        clear q3
        subst e0
        have e1 : s1B f = fB .sub f 4602678819172646912 := if_pos hb
        rw [e1] at a1 b2 hg
        have e2 : s2B (fB .sub f 4602678819172646912) = fB .sub 4602678819172646912 (fB .sub f 4602678819172646912) := if_pos hg
        rw [e2] at a1
        clear e1 e2
        generalize fB .sub f 4602678819172646912 = g at *
        generalize fB .sub 4602678819172646912 g = g2 at *
        have hb' : (FloatKind.f64.format.order f 4602678819172646912 == some .gt || FloatKind.f64.format.order f 4602678819172646912 == some .eq) = true := hb
        clear hb
        rw [if_pos rfl]
        go_enter Try.func72, Try.ntmps72
        go_wp2
        go_loopw [7, 8] (fun p c wr => ∃ k : Nat, k ≤ 8 ∧ p = .float .f64 (pB z (8 - k)) ∧ c = .int .i64 k ∧ wr = w) (fun _ c _ => (intOf c).toNat)
        case atStart => exact ⟨8, by omega, rfl, rfl, rfl⟩
        case round =>
          obtain ⟨k, hk, rfl, rfl, rfl⟩ := hrel
          by_cases hk1 : 1 ≤ k
          · obtain ⟨p1, p2, p3⟩ := pB_at hz k hk1 hk
            have hd := dk_in k hk1 hk
            have r5 := run_fB (P := Try.prog) p1 63
            have r6 := run_fB (P := Try.prog) p2 63
            have r7 := run_fB (P := Try.prog) p3 63
            unfold dkB at r6 r7
            clear p1 p2 p3
            have hk1' : (1 : Int) ≤ k := by omega
            go_wp2
            all_goals go_roundw
            case rel => exact ⟨k - 1, by omega, rfl, by go_num, by first | rfl | trivial⟩
            case measure => simp [intOf]; omega
          · have hk0 : k = 0 := by omega
            subst hk0
            go_wp2
            go_ret
            exact ⟨rfl, rfl⟩
      | false =>
        rw [if_neg (by decide)] at e0
        clear q3
        subst e0
        have e1 : s1B f = fB .sub f 4602678819172646912 := if_pos hb
        rw [e1] at a1 b2 hg
        have e2 : s2B (fB .sub f 4602678819172646912) = (fB .sub f 4602678819172646912) := if_neg (by rw [hg]; decide)
        rw [e2] at a1
        clear e1 e2
        generalize fB .sub f 4602678819172646912 = g at *
        have hb' : (FloatKind.f64.format.order f 4602678819172646912 == some .gt || FloatKind.f64.format.order f 4602678819172646912 == some .eq) = true := hb
        clear hb
        rw [if_pos rfl]
        go_enter Try.func72, Try.ntmps72
        go_wp2
        go_loopw [7, 8] (fun p c wr => ∃ k : Nat, k ≤ 8 ∧ p = .float .f64 (pB z (8 - k)) ∧ c = .int .i64 k ∧ wr = w) (fun _ c _ => (intOf c).toNat)
        case atStart => exact ⟨8, by omega, rfl, rfl, rfl⟩
        case round =>
          obtain ⟨k, hk, rfl, rfl, rfl⟩ := hrel
          by_cases hk1 : 1 ≤ k
          · obtain ⟨p1, p2, p3⟩ := pB_at hz k hk1 hk
            have hd := dk_in k hk1 hk
            have r5 := run_fB (P := Try.prog) p1 63
            have r6 := run_fB (P := Try.prog) p2 63
            have r7 := run_fB (P := Try.prog) p3 63
            unfold dkB at r6 r7
            clear p1 p2 p3
            have hk1' : (1 : Int) ≤ k := by omega
            go_wp2
            all_goals go_roundw
            case rel => exact ⟨k - 1, by omega, rfl, by go_num, by first | rfl | trivial⟩
            case measure => simp [intOf]; omega
          · have hk0 : k = 0 := by omega
            subst hk0
            go_wp2
            go_ret
            exact ⟨rfl, rfl⟩
    | false =>
      cases hg : (FloatKind.f64.format.order (s1B f) 4598175219545276416 == some .gt) with
      | true =>
        rw [if_neg (by decide)] at e0
        clear q3
        subst e0
        have e1 : s1B f = f := if_neg (by rw [hb]; decide)
        rw [e1] at a1 b2 hg
        have e2 : s2B f = fB .sub 4602678819172646912 f := if_pos hg
        rw [e2] at a1
        clear e1 e2
        generalize fB .sub 4602678819172646912 f = g2 at *
        have hb' : (FloatKind.f64.format.order f 4602678819172646912 == some .gt || FloatKind.f64.format.order f 4602678819172646912 == some .eq) = false := hb
        clear hb
        rw [if_neg (by decide)]
        go_enter Try.func72, Try.ntmps72
        go_wp2
        go_loopw [7, 8] (fun p c wr => ∃ k : Nat, k ≤ 8 ∧ p = .float .f64 (pB z (8 - k)) ∧ c = .int .i64 k ∧ wr = w) (fun _ c _ => (intOf c).toNat)
        case atStart => exact ⟨8, by omega, rfl, rfl, rfl⟩
        case round =>
          obtain ⟨k, hk, rfl, rfl, rfl⟩ := hrel
          by_cases hk1 : 1 ≤ k
          · obtain ⟨p1, p2, p3⟩ := pB_at hz k hk1 hk
            have hd := dk_in k hk1 hk
            have r5 := run_fB (P := Try.prog) p1 63
            have r6 := run_fB (P := Try.prog) p2 63
            have r7 := run_fB (P := Try.prog) p3 63
            unfold dkB at r6 r7
            clear p1 p2 p3
            have hk1' : (1 : Int) ≤ k := by omega
            go_wp2
            all_goals go_roundw
            case rel => exact ⟨k - 1, by omega, rfl, by go_num, by first | rfl | trivial⟩
            case measure => simp [intOf]; omega
          · have hk0 : k = 0 := by omega
            subst hk0
            go_wp2
            go_ret
            exact ⟨rfl, rfl⟩
      | false =>
        rw [if_neg (by decide)] at e0
        clear q3
        subst e0
        have e1 : s1B f = f := if_neg (by rw [hb]; decide)
        rw [e1] at a1 b2 hg
        have e2 : s2B f = f := if_neg (by rw [hg]; decide)
        rw [e2] at a1
        clear e1 e2
        have hb' : (FloatKind.f64.format.order f 4602678819172646912 == some .gt || FloatKind.f64.format.order f 4602678819172646912 == some .eq) = false := hb
        clear hb
        rw [if_neg (by decide)]
        go_enter Try.func72, Try.ntmps72
        go_wp2
        go_loopw [7, 8] (fun p c wr => ∃ k : Nat, k ≤ 8 ∧ p = .float .f64 (pB z (8 - k)) ∧ c = .int .i64 k ∧ wr = w) (fun _ c _ => (intOf c).toNat)
        case atStart => exact ⟨8, by omega, rfl, rfl, rfl⟩
        case round =>
          obtain ⟨k, hk, rfl, rfl, rfl⟩ := hrel
          by_cases hk1 : 1 ≤ k
          · obtain ⟨p1, p2, p3⟩ := pB_at hz k hk1 hk
            have hd := dk_in k hk1 hk
            have r5 := run_fB (P := Try.prog) p1 63
            have r6 := run_fB (P := Try.prog) p2 63
            have r7 := run_fB (P := Try.prog) p3 63
            unfold dkB at r6 r7
            clear p1 p2 p3
            have hk1' : (1 : Int) ≤ k := by omega
            go_wp2
            all_goals go_roundw
            case rel => exact ⟨k - 1, by omega, rfl, by go_num, by first | rfl | trivial⟩
            case measure => simp [intOf]; omega
          · have hk0 : k = 0 := by omega
            subst hk0
            go_wp2
            go_ret
            exact ⟨rfl, rfl⟩
end Go.Proofs.Ytbmbgailhiepbaa
