/- The walks of l03Peak and PeakOf. -/
import Derived.Test.YtjihbkhmkepohaaRows
import Derived.Test.YtjihbkhmkepohaaMem
import Derived.Test.YtjihbkhmkepohaaPeakP
import Derived.BigQuiet
namespace Go.Proofs.Ytjihbkhmkepohaa
open Go.RowKit

set_option maxHeartbeats 1000000 in
theorem l03Peak_any (ad : Option Addr) (n cap : Nat) (f : Nat → Nat) (w : World) (hr : Rd w ad n (fun j => .float .f32 (f j))) (hn : n ≤ 1048576) :
    Calls Try.prog 36 #[.slice ad n cap] w fun e w' => e = .returned (.int .i64 (peakTo f n)) ∧ ∃ m, w' = w.drewN m := by
  have HR := Lib.hid hr
  clear hr
  go_enter Try.func36, Try.ntmps36
  go_wp2
  go_loopw [3, 4, 7] (fun best _ i wr => ∃ k : Nat, k ≤ n ∧ i = .int .i64 k ∧ best = .int .i64 (peakTo f k) ∧ ∃ m, wr = w.drewN m) (fun _ _ i _ => n - (intOf i).toNat)
  case atStart => exact ⟨0, Nat.zero_le _, rfl, rfl, 0, rfl⟩
  case round =>
    obtain ⟨k, hk, rfl, rfl, m, rfl⟩ := hrel
    obtain ⟨hB1, hB2⟩ := peakTo_bd f k
    by_cases hlt : k < n
    · obtain ⟨b, off, rfl, hb, hc⟩ := HR.out.at hlt
      have hck := hc k hlt
      have HT := Lib.hid (show takes f k (peakTo f k) = ((ord (f k) (f k) == some .eq) && (decide (peakTo f k < 0) || (ord (f k) (f (peakTo f k).toNat) == some .gt))) from rfl)
      have HT1 := Lib.hid (@peak_take f k)
      have HT2 := Lib.hid (@peak_keep f k)
      generalize peakTo f k = B at *
      cases h1 : (FloatKind.f32.format.order (f k) (f k) == some .eq) with
      | false =>
        go_wp2
        go_quiet (fail)
        go_wp2
        go_roundw
        case rel => exact ⟨k + 1, by omega, by go_num, by rw [HT2.out (by rw [HT.out]; unfold ord; rw [h1]; rfl)], _, rfl⟩
        case measure => simp [intOf]; omega
      | true =>
        by_cases h2 : B < 0
        · go_wp2
          go_quiet (fail)
          go_wp2
          go_roundw
          case rel => exact ⟨k + 1, by omega, by go_num, by rw [HT1.out (by rw [HT.out]; unfold ord; rw [h1]; simp [h2])], _, rfl⟩
          case measure => simp [intOf]; omega
        · obtain ⟨j, rfl⟩ : ∃ j : Nat, B = j := ⟨B.toNat, by omega⟩
          have hjn : j < n := by omega
          have hcj := hc j hjn
          cases h3 : (FloatKind.f32.format.order (f k) (f j) == some .gt) with
          | false =>
            go_wp2
            go_quiet (fail)
            go_wp2
            go_roundw
            case rel => exact ⟨k + 1, by omega, by go_num, by rw [HT2.out (by rw [HT.out]; unfold ord; rw [h1]; simp; simpa using h3)], _, rfl⟩
            case measure => simp [intOf]; omega
          | true =>
            go_wp2
            go_quiet (fail)
            go_wp2
            go_roundw
            case rel => exact ⟨k + 1, by omega, by go_num, by rw [HT1.out (by rw [HT.out]; unfold ord; rw [h1]; simp; right; simpa using h3)], _, rfl⟩
            case measure => simp [intOf]; omega
    · have : k = n := by omega
      subst this
      go_wp2
      go_ret
      exact ⟨rfl, m, rfl⟩

def ret2 (n : Int) (b : Bool) : Ending := .returned (.tuple #[.int .i64 n, .bool b])
/-- What PeakOf gives. -/
def peakN (f : Nat → Nat) (n : Nat) : Int := if (1 ≤ n ∧ n ≤ 129) ∧ 0 ≤ peakTo f n then peakTo f n else 0
def peakB (f : Nat → Nat) (n : Nat) : Bool := decide ((1 ≤ n ∧ n ≤ 129) ∧ 0 ≤ peakTo f n)
theorem peak_no {f : Nat → Nat} {n : Nat} (h : ¬ ((1 ≤ n ∧ n ≤ 129) ∧ 0 ≤ peakTo f n)) : ret2 (peakN f n) (peakB f n) = ret2 0 false := by
  unfold peakN peakB; rw [if_neg h, decide_eq_false h]
theorem peak_yes {f : Nat → Nat} {n : Nat} (h : (1 ≤ n ∧ n ≤ 129) ∧ 0 ≤ peakTo f n) : ret2 (peakN f n) (peakB f n) = ret2 (peakTo f n) true := by
  unfold peakN peakB; rw [if_pos h, decide_eq_true h]

set_option maxHeartbeats 1000000 in
theorem specPeakOf_any (ad : Option Addr) (n cap : Nat) (f : Nat → Nat) (w : World) (hr : Rd w ad n (fun j => .float .f32 (f j))) (hn : n ≤ 1048576) :
    Calls Try.prog 16 #[.slice ad n cap] w fun e w' => e = .returned (.tuple #[.int .i64 (peakN f n), .bool (peakB f n)]) ∧ ∃ m, w' = w.drewN m := by
  have HP := l03Peak_any ad n cap f w hr hn
  obtain ⟨hB1, hB2⟩ := peakTo_bd f n
  have HN := Lib.hid (@peak_no f n)
  have HB := Lib.hid (@peak_yes f n)
  generalize peakTo f n = B at *
  have HP' := Lib.hid HP
  clear HP hr
  by_cases h1 : (1 : Int) ≤ n
  · by_cases h2 : (n : Int) ≤ 129
    · by_cases h3 : B < 0
      · go_enter Try.func16, Try.ntmps16
        go_wp2_with (first | (go_at_call 36; refine HP'.out.mono ?_; rintro e w' ⟨rfl, m, rfl⟩) | go_in)
        go_ret2
        exact ⟨(HN.out (by omega)).symm, m, rfl⟩
      · have h4 : 0 ≤ B := by omega
        go_enter Try.func16, Try.ntmps16
        go_wp2_with (first | (go_at_call 36; refine HP'.out.mono ?_; rintro e w' ⟨rfl, m, rfl⟩) | go_in)
        go_ret2
        exact ⟨(HB.out (by omega)).symm, m, rfl⟩
    · go_enter Try.func16, Try.ntmps16
      go_wp2
      go_ret2
      exact ⟨(HN.out (by omega)).symm, 0, rfl⟩
  · go_enter Try.func16, Try.ntmps16
    go_wp2
    go_ret2
    exact ⟨(HN.out (by omega)).symm, 0, rfl⟩

set_option maxHeartbeats 1000000 in
theorem implPeakOf_any (ad : Option Addr) (n cap : Nat) (f : Nat → Nat) (w : World) (hr : Rd w ad n (fun j => .float .f32 (f j))) (hn : n ≤ 1048576) :
    Calls Try.prog 17 #[.slice ad n cap] w fun e w' => e = .returned (.tuple #[.int .i64 (peakN f n), .bool (peakB f n)]) ∧ ∃ m, w' = w.drewN m := by
  have HR := Lib.hid hr
  clear hr
  go_enter Try.func17, Try.ntmps17
  go_wp2
  go_loopw [4, 5, 6, 9] (fun best _ _ i wr => ∃ k : Nat, k ≤ n ∧ i = .int .i64 k ∧ best = .int .i64 (peakTo f k) ∧ ∃ m, wr = w.drewN m) (fun _ _ _ i _ => n - (intOf i).toNat)
  case atStart => exact ⟨0, Nat.zero_le _, rfl, rfl, 0, rfl⟩
  case round =>
    obtain ⟨k, hk, rfl, rfl, m, rfl⟩ := hrel
    obtain ⟨hB1, hB2⟩ := peakTo_bd f k
    by_cases hlt : k < n
    · obtain ⟨b, off, rfl, hb, hc⟩ := HR.out.at hlt
      have hck := hc k hlt
      have HT := Lib.hid (show takes f k (peakTo f k) = ((ord (f k) (f k) == some .eq) && (decide (peakTo f k < 0) || (ord (f k) (f (peakTo f k).toNat) == some .gt))) from rfl)
      have HT1 := Lib.hid (@peak_take f k)
      have HT2 := Lib.hid (@peak_keep f k)
      generalize peakTo f k = B at *
      cases h1 : (FloatKind.f32.format.order (f k) (f k) == some .eq) with
      | false =>
        go_wp2
        go_roundw
        case rel => exact ⟨k + 1, by omega, by go_num, by rw [HT2.out (by rw [HT.out]; unfold ord; rw [h1]; rfl)], _, rfl⟩
        case measure => simp [intOf]; omega
      | true =>
        by_cases h2 : B < 0
        · go_wp2
          go_roundw
          case rel => exact ⟨k + 1, by omega, by go_num, by rw [HT1.out (by rw [HT.out]; unfold ord; rw [h1]; simp [h2])], _, rfl⟩
          case measure => simp [intOf]; omega
        · obtain ⟨j, rfl⟩ : ∃ j : Nat, B = j := ⟨B.toNat, by omega⟩
          have hjn : j < n := by omega
          have hcj := hc j hjn
          cases h3 : (FloatKind.f32.format.order (f k) (f j) == some .gt) with
          | false =>
            go_wp2
            go_roundw
            case rel => exact ⟨k + 1, by omega, by go_num, by rw [HT2.out (by rw [HT.out]; unfold ord; rw [h1]; simp; simpa using h3)], _, rfl⟩
            case measure => simp [intOf]; omega
          | true =>
            go_wp2
            go_roundw
            case rel => exact ⟨k + 1, by omega, by go_num, by rw [HT1.out (by rw [HT.out]; unfold ord; rw [h1]; simp; right; simpa using h3)], _, rfl⟩
            case measure => simp [intOf]; omega
    · have : k = n := by omega
      subst this
      obtain ⟨hB1, hB2⟩ := peakTo_bd f k
      have HN := Lib.hid (@peak_no f k)
      have HB := Lib.hid (@peak_yes f k)
      generalize peakTo f k = B at *
      by_cases h1 : (1 : Int) ≤ k
      · by_cases h2 : (k : Int) ≤ 129
        · by_cases h3 : B < 0
          · go_wp2
            go_ret2
            exact ⟨(HN.out (by omega)).symm, _, rfl⟩
          · have h4 : 0 ≤ B := by omega
            go_wp2
            go_ret2
            exact ⟨(HB.out (by omega)).symm, _, rfl⟩
        · go_wp2
          go_ret2
          exact ⟨(HN.out (by omega)).symm, _, rfl⟩
      · go_wp2
        go_ret2
        exact ⟨(HN.out (by omega)).symm, _, rfl⟩
end Go.Proofs.Ytjihbkhmkepohaa
