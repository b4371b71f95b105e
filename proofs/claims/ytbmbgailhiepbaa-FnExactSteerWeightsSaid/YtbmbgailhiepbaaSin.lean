/- fraction and sine, both, by contracts. -/
import Derived.Test.YtbmbgailhiepbaaRows
import Derived.Test.YtbmbgailhiepbaaSinP
import Derived.Test.YtbmbgailhiepbaaMem
import Derived.BigQuiet
import Derived.Deep.RegionWith
namespace Go.Proofs.Ytbmbgailhiepbaa
open Go.RowKit Ieee

theorem run_iB {P : Program} {t : Nat} (h : Bp (cf .f64 t) 51) (src dst : TypeId) (hs : (P.underlying src).isSome = true) (hd : P.underlying dst = some (.int .i64)) : ∀ u : World, (convert src dst (.float .f64 t)).run P u = .ok (.int .i64 (iB t)) u :=
  fun u => run_convert_float_int u src dst .f64 .i64 t _ hs hd (iB_frac h).1

set_option maxHeartbeats 1000000 in
theorem fracI (t : Nat) (h : Bp (cf .f64 t) 51) (w : World) :
    Calls Try.prog 80 #[.float .f64 t] w fun e w' => e = .returned (.float .f64 (frB t)) ∧ w = w' := by
  obtain ⟨h1, h2, h3⟩ := iB_frac h
  have q1 := run_iB (P := Try.prog) h 63 2 (by rw [Try.underlying63]; rfl) Try.underlying2
  have q2 := run_fB (P := Try.prog) h2 63
  have q3 := run_fB (P := Try.prog) (B_add h3 bp_one (by omega)).1 63
  unfold frB
  generalize fB .sub t (floatOfInt .f64 (iB t)) = f at q2 q3 ⊢
  generalize fB .add f 4607182418800017408 = f' at q3 ⊢
  clear h1 h2 h3 h
  cases hl : (FloatKind.f64.format.order f 0 == some .lt) with
  | true =>
    rw [if_pos rfl]
    go_enter Try.func80, Try.ntmps80
    go_wp2
    all_goals go_ret
    all_goals exact ⟨rfl, rfl⟩
  | false =>
    rw [if_neg (by decide)]
    go_enter Try.func80, Try.ntmps80
    go_wp2
    all_goals go_ret
    all_goals exact ⟨rfl, rfl⟩

theorem pB_at {z : Nat} (hz : Bp (cf .f64 z) 12) (k : Nat) (h1 : 1 ≤ k) (h8 : k ≤ 8) :
    floatBits .mul .f64 z (pB z (8 - k)) = some (fB .mul z (pB z (8 - k))) ∧ floatBits .quo .f64 (fB .mul z (pB z (8 - k))) (dkB k) = some (fB .quo (fB .mul z (pB z (8 - k))) (dkB k)) ∧
    floatBits .sub .f64 4607182418800017408 (fB .quo (fB .mul z (pB z (8 - k))) (dkB k)) = some (pB z (8 - (k - 1))) := by
  have h := pB_round hz (8 - k) (by omega)
  have e : (8 - ((8 - k : Nat) : Int)) = k := by omega
  rw [e] at h
  rw [show 8 - (k - 1) = 8 - k + 1 by omega]
  exact h

theorem run_negF {P : Program} (b : Nat) (w : World) : (Op.unary .neg (.float .f64 b)).run P w = .ok (.float .f64 (Op.negFloat .f64 b)) w := rfl
attribute [go_sem] run_negF

def flOf : Value → Nat
  | .float _ b => b
  | _ => 0
theorem iB_count (k : Nat) (h : k < 9) : iB (floatOfInt .f64 k) = k := by
  rcases (by omega : k = 0 ∨ k = 1 ∨ k = 2 ∨ k = 3 ∨ k = 4 ∨ k = 5 ∨ k = 6 ∨ k = 7 ∨ k = 8) with rfl | rfl | rfl | rfl | rfl | rfl | rfl | rfl | rfl <;> decide +kernel
theorem dk_in (k : Nat) (h1 : 1 ≤ k) (h8 : k ≤ 8) : 0 ≤ 2 * (k : Int) * (2 * (k : Int) + 1) ∧ 2 * (k : Int) * (2 * (k : Int) + 1) ≤ 272 := by
  rcases (by omega : k = 1 ∨ k = 2 ∨ k = 3 ∨ k = 4 ∨ k = 5 ∨ k = 6 ∨ k = 7 ∨ k = 8) with rfl | rfl | rfl | rfl | rfl | rfl | rfl | rfl <;> decide

set_option maxHeartbeats 4000000 in
theorem sineI (t : Nat) (h : Bp (cf .f64 t) 51) (w : World) :
    Calls Try.prog 81 #[.float .f64 t] w fun e w' => e = .returned (.float .f64 (sinB t)) ∧ w = w' := by
  obtain ⟨x1, x2, hz, x4, _⟩ := xB_all h
  have cF := fun u => fracI t h u
  have hf1 := frB_bp h
  have hs1 := s1B_bp hf1
  have a1 := run_fB (P := Try.prog) x1 63
  have a2 := run_fB (P := Try.prog) x2 63
  have a3 := run_fB (P := Try.prog) x4 63
  have b1 := run_fB (P := Try.prog) (B_sub hf1 (bp_half.mono (by omega)) (by omega)).1 63
  have b2 := run_fB (P := Try.prog) (B_sub (bp_half.mono (by omega)) hs1 (by omega)).1 63
  unfold sinB
  clear x1 x2 x4 hf1 hs1 h
  generalize rB t = r at a3 ⊢
  generalize zB t = z at hz a2 a3
  generalize xB t = x at a1 a2 a3
  generalize frB t = f at *
  cases hb : bigB f with
  | true =>
    cases hg : (FloatKind.f64.format.order (s1B f) 4598175219545276416 == some .gt) with
    | true =>
      have e1 : s1B f = fB .sub f 4602678819172646912 := if_pos hb
      rw [e1] at a1 b2 hg
      have e2 : s2B (fB .sub f 4602678819172646912) = fB .sub 4602678819172646912 (fB .sub f 4602678819172646912) := if_pos hg
      rw [e2] at a1
      clear e1 e2
      generalize fB .sub f 4602678819172646912 = g at *
      generalize fB .sub 4602678819172646912 g = g2 at *
      have hb' : (FloatKind.f64.format.order f 4602678819172646912 == some .gt || FloatKind.f64.format.order f 4602678819172646912 == some .eq) = true := hb
      clear hb
      rw [if_pos rfl]
      go_enter Try.func81, Try.ntmps81
      go_wp2_with (first | (go_at_call 80; refine (cF _).mono ?_; rintro e w' ⟨rfl, rfl⟩))
      go_loopw [7, 8] (fun p c wr => ∃ k : Nat, k ≤ 8 ∧ p = .float .f64 (pB z (8 - k)) ∧ c = .float .f64 (floatOfInt .f64 k) ∧ wr = w) (fun _ c _ => (iB (flOf c)).toNat)
      case atStart => exact ⟨8, by omega, rfl, by rw [show ((8 : Nat) : Int) = 8 from rfl, counter8], rfl⟩
      case round =>
        obtain ⟨k, hk, rfl, rfl, rfl⟩ := hrel
        by_cases hk1 : 1 ≤ k
        · obtain ⟨c1, c2, c3, c4, c5⟩ := counter k (by omega) hk1
          obtain ⟨p1, p2, p3⟩ := pB_at hz k hk1 hk
          have r1 := run_fB (P := Try.prog) c1 63
          have r2 := run_fB (P := Try.prog) c2 63
          have r3 := run_fB (P := Try.prog) c3 63
          have r4 := run_fB (P := Try.prog) c4 63
          have r5 := run_fB (P := Try.prog) p1 63
          have r6 := run_fB (P := Try.prog) p2 63
          have r7 := run_fB (P := Try.prog) p3 63
          clear c1 c2 c3 c4 p1 p2 p3
          go_wp2
          all_goals go_roundw
          case rel => exact ⟨k - 1, by omega, rfl, by rw [show ((k - 1 : Nat) : Int) = (k : Int) - 1 by omega], by first | rfl | trivial⟩
          case measure =>
            show (iB (floatOfInt .f64 ((k : Int) - 1))).toNat < (iB (floatOfInt .f64 (k : Int))).toNat
            rw [show (k : Int) - 1 = ((k - 1 : Nat) : Int) by omega, iB_count k (by omega), iB_count (k - 1) (by omega)]
            omega
        · have hk0 : k = 0 := by omega
          subst hk0
          have c0 := counter0
          go_wp2
          go_ret
          exact ⟨rfl, rfl⟩
    | false =>
      have e1 : s1B f = fB .sub f 4602678819172646912 := if_pos hb
      rw [e1] at a1 b2 hg
      have e2 : s2B (fB .sub f 4602678819172646912) = (fB .sub f 4602678819172646912) := if_neg (by rw [hg]; decide)
      rw [e2] at a1
      clear e1 e2
      generalize fB .sub f 4602678819172646912 = g at *
      have hb' : (FloatKind.f64.format.order f 4602678819172646912 == some .gt || FloatKind.f64.format.order f 4602678819172646912 == some .eq) = true := hb
      clear hb
      rw [if_pos rfl]
      go_enter Try.func81, Try.ntmps81
      go_wp2_with (first | (go_at_call 80; refine (cF _).mono ?_; rintro e w' ⟨rfl, rfl⟩))
      go_loopw [7, 8] (fun p c wr => ∃ k : Nat, k ≤ 8 ∧ p = .float .f64 (pB z (8 - k)) ∧ c = .float .f64 (floatOfInt .f64 k) ∧ wr = w) (fun _ c _ => (iB (flOf c)).toNat)
      case atStart => exact ⟨8, by omega, rfl, by rw [show ((8 : Nat) : Int) = 8 from rfl, counter8], rfl⟩
      case round =>
        obtain ⟨k, hk, rfl, rfl, rfl⟩ := hrel
        by_cases hk1 : 1 ≤ k
        · obtain ⟨c1, c2, c3, c4, c5⟩ := counter k (by omega) hk1
          obtain ⟨p1, p2, p3⟩ := pB_at hz k hk1 hk
          have r1 := run_fB (P := Try.prog) c1 63
          have r2 := run_fB (P := Try.prog) c2 63
          have r3 := run_fB (P := Try.prog) c3 63
          have r4 := run_fB (P := Try.prog) c4 63
          have r5 := run_fB (P := Try.prog) p1 63
          have r6 := run_fB (P := Try.prog) p2 63
          have r7 := run_fB (P := Try.prog) p3 63
          clear c1 c2 c3 c4 p1 p2 p3
          go_wp2
          all_goals go_roundw
          case rel => exact ⟨k - 1, by omega, rfl, by rw [show ((k - 1 : Nat) : Int) = (k : Int) - 1 by omega], by first | rfl | trivial⟩
          case measure =>
            show (iB (floatOfInt .f64 ((k : Int) - 1))).toNat < (iB (floatOfInt .f64 (k : Int))).toNat
            rw [show (k : Int) - 1 = ((k - 1 : Nat) : Int) by omega, iB_count k (by omega), iB_count (k - 1) (by omega)]
            omega
        · have hk0 : k = 0 := by omega
          subst hk0
          have c0 := counter0
          go_wp2
          go_ret
          exact ⟨rfl, rfl⟩
  | false =>
    cases hg : (FloatKind.f64.format.order (s1B f) 4598175219545276416 == some .gt) with
    | true =>
      have e1 : s1B f = f := if_neg (by rw [hb]; decide)
      rw [e1] at a1 b2 hg
      have e2 : s2B f = fB .sub 4602678819172646912 f := if_pos hg
      rw [e2] at a1
      clear e1 e2
      generalize fB .sub 4602678819172646912 f = g2 at *
      have hb' : (FloatKind.f64.format.order f 4602678819172646912 == some .gt || FloatKind.f64.format.order f 4602678819172646912 == some .eq) = false := hb
      clear hb
      rw [if_neg (by decide)]
      go_enter Try.func81, Try.ntmps81
      go_wp2_with (first | (go_at_call 80; refine (cF _).mono ?_; rintro e w' ⟨rfl, rfl⟩))
      go_loopw [7, 8] (fun p c wr => ∃ k : Nat, k ≤ 8 ∧ p = .float .f64 (pB z (8 - k)) ∧ c = .float .f64 (floatOfInt .f64 k) ∧ wr = w) (fun _ c _ => (iB (flOf c)).toNat)
      case atStart => exact ⟨8, by omega, rfl, by rw [show ((8 : Nat) : Int) = 8 from rfl, counter8], rfl⟩
      case round =>
        obtain ⟨k, hk, rfl, rfl, rfl⟩ := hrel
        by_cases hk1 : 1 ≤ k
        · obtain ⟨c1, c2, c3, c4, c5⟩ := counter k (by omega) hk1
          obtain ⟨p1, p2, p3⟩ := pB_at hz k hk1 hk
          have r1 := run_fB (P := Try.prog) c1 63
          have r2 := run_fB (P := Try.prog) c2 63
          have r3 := run_fB (P := Try.prog) c3 63
          have r4 := run_fB (P := Try.prog) c4 63
          have r5 := run_fB (P := Try.prog) p1 63
          have r6 := run_fB (P := Try.prog) p2 63
          have r7 := run_fB (P := Try.prog) p3 63
          clear c1 c2 c3 c4 p1 p2 p3
          go_wp2
          all_goals go_roundw
          case rel => exact ⟨k - 1, by omega, rfl, by rw [show ((k - 1 : Nat) : Int) = (k : Int) - 1 by omega], by first | rfl | trivial⟩
          case measure =>
            show (iB (floatOfInt .f64 ((k : Int) - 1))).toNat < (iB (floatOfInt .f64 (k : Int))).toNat
            rw [show (k : Int) - 1 = ((k - 1 : Nat) : Int) by omega, iB_count k (by omega), iB_count (k - 1) (by omega)]
            omega
        · have hk0 : k = 0 := by omega
          subst hk0
          have c0 := counter0
          go_wp2
          go_ret
          exact ⟨rfl, rfl⟩
    | false =>
      have e1 : s1B f = f := if_neg (by rw [hb]; decide)
      rw [e1] at a1 b2 hg
      have e2 : s2B f = f := if_neg (by rw [hg]; decide)
      rw [e2] at a1
      clear e1 e2
      have hb' : (FloatKind.f64.format.order f 4602678819172646912 == some .gt || FloatKind.f64.format.order f 4602678819172646912 == some .eq) = false := hb
      clear hb
      rw [if_neg (by decide)]
      go_enter Try.func81, Try.ntmps81
      go_wp2_with (first | (go_at_call 80; refine (cF _).mono ?_; rintro e w' ⟨rfl, rfl⟩))
      go_loopw [7, 8] (fun p c wr => ∃ k : Nat, k ≤ 8 ∧ p = .float .f64 (pB z (8 - k)) ∧ c = .float .f64 (floatOfInt .f64 k) ∧ wr = w) (fun _ c _ => (iB (flOf c)).toNat)
      case atStart => exact ⟨8, by omega, rfl, by rw [show ((8 : Nat) : Int) = 8 from rfl, counter8], rfl⟩
      case round =>
        obtain ⟨k, hk, rfl, rfl, rfl⟩ := hrel
        by_cases hk1 : 1 ≤ k
        · obtain ⟨c1, c2, c3, c4, c5⟩ := counter k (by omega) hk1
          obtain ⟨p1, p2, p3⟩ := pB_at hz k hk1 hk
          have r1 := run_fB (P := Try.prog) c1 63
          have r2 := run_fB (P := Try.prog) c2 63
          have r3 := run_fB (P := Try.prog) c3 63
          have r4 := run_fB (P := Try.prog) c4 63
          have r5 := run_fB (P := Try.prog) p1 63
          have r6 := run_fB (P := Try.prog) p2 63
          have r7 := run_fB (P := Try.prog) p3 63
          clear c1 c2 c3 c4 p1 p2 p3
          go_wp2
          all_goals go_roundw
          case rel => exact ⟨k - 1, by omega, rfl, by rw [show ((k - 1 : Nat) : Int) = (k : Int) - 1 by omega], by first | rfl | trivial⟩
          case measure =>
            show (iB (floatOfInt .f64 ((k : Int) - 1))).toNat < (iB (floatOfInt .f64 (k : Int))).toNat
            rw [show (k : Int) - 1 = ((k - 1 : Nat) : Int) by omega, iB_count k (by omega), iB_count (k - 1) (by omega)]
            omega
        · have hk0 : k = 0 := by omega
          subst hk0
          have c0 := counter0
          go_wp2
          go_ret
          exact ⟨rfl, rfl⟩
end Go.Proofs.Ytbmbgailhiepbaa
