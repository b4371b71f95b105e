/- The walks of SideLevel. -/
import Derived.Test.YtjihbkhmkepohaaMainW
import Derived.Test.YtjihbkhmkepohaaSideP
namespace Go.Proofs.Ytjihbkhmkepohaa
open Go.RowKit

set_option maxHeartbeats 1000000 in
theorem specSideLevel_no (ad : Option Addr) (n cap : Nat) (a : Int) (w : World) (hn : n ≤ 1048576) (ha0 : -9223372036854775808 ≤ a) (ha1 : a ≤ 9223372036854775807) (h : ¬ (1 ≤ n ∧ n ≤ 129 ∧ 0 ≤ a ∧ a < n)) :
    Calls Try.prog 22 #[.slice ad n cap, .int .i64 a] w fun e w' => e = .returned (.tuple #[.float .f32 0, .bool false]) ∧ ∃ m, w' = w.drewN m := by
  by_cases h1 : (1 : Int) ≤ n
  · by_cases h2 : (n : Int) ≤ 129
    · by_cases h3 : 0 ≤ a
      · have h4 : ¬ a ≤ (n : Int) - 1 := by omega
        clear h
        go_enter Try.func22, Try.ntmps22
        go_wp2
        go_ret2
        exact ⟨rfl, 0, rfl⟩
      · clear h
        go_enter Try.func22, Try.ntmps22
        go_wp2
        go_ret2
        exact ⟨rfl, 0, rfl⟩
    · clear h
      go_enter Try.func22, Try.ntmps22
      go_wp2
      go_ret2
      exact ⟨rfl, 0, rfl⟩
  · clear h
    go_enter Try.func22, Try.ntmps22
    go_wp2
    go_ret2
    exact ⟨rfl, 0, rfl⟩

set_option maxHeartbeats 4000000 in
theorem specSideLevel_yes (ad : Option Addr) (n cap at0 lo hi : Nat) (f : Nat → Nat) (w : World) (hr : Rd w ad n (fun j => .float .f32 (f j))) (hk1 : (1 : Int) ≤ n) (hk2 : (n : Int) ≤ 129) (hat : (at0 : Int) < n)
    (hlo : lowEnd (mainDown f) at0 = lo) (hhi : upEnd (mainUp f) n at0 = hi) (hlh : lo ≤ hi) (hhn : hi < n) :
    Calls Try.prog 22 #[.slice ad n cap, .int .i64 at0] w fun e w' => e = .returned (.tuple #[.float .f32 (sideV f (sideTo f lo hi n)), .bool (sideF (sideTo f lo hi n))]) ∧ ∃ m, w' = w.drewN m := by
  have hat2 : (at0 : Int) ≤ (n : Int) - 1 := by omega
  have hat3 : at0 < n := by omega
  obtain ⟨b, off, rfl, hb, hc0⟩ := hr.at hat3
  have HR := Lib.hid hr
  have HC := Lib.hid hc0
  have HLO := Lib.hid hlo
  have HHI := Lib.hid hhi
  clear hr hc0 hlo hhi
  go_enter Try.func22, Try.ntmps22
  go_wp2_with (first | (go_at_call 39; refine (l03Main_any _ n cap at0 f _ HR.out (by omega) hat3).mono ?_; rintro e w' ⟨rfl, m, rfl⟩; rw [HLO.out, HHI.out]) | go_in)
  go_loopw [8, 9] (fun best i wr => ∃ k : Nat, k ≤ n ∧ i = .int .i64 k ∧ best = .int .i64 (sideTo f lo hi k) ∧ ∃ m, wr = w.drewN m) (fun _ i _ => n - (intOf i).toNat)
  case atStart => exact ⟨0, Nat.zero_le _, rfl, rfl, _, rfl⟩
  case round =>
    obtain ⟨k, hk, rfl, rfl, m, rfl⟩ := hrel
    have hc := HC.out
    obtain ⟨hB1, hB2⟩ := sideTo_bd f lo hi k
    by_cases hlt : k < n
    · have hck := hc k hlt
      have HT := Lib.hid (show takes f k (sideTo f lo hi k) = ((ord (f k) (f k) == some .eq) && (decide (sideTo f lo hi k < 0) || (ord (f k) (f (sideTo f lo hi k).toNat) == some .gt))) from rfl)
      have HT1 := Lib.hid (@side_take f lo hi k)
      have HT2 := Lib.hid (@side_keep f lo hi k)
      have HT3 := Lib.hid (@side_in f lo hi k)
      generalize sideTo f lo hi k = B at *
      have HC2 := Lib.hid hc
      clear hc
      by_cases hA : k < lo
      · have hA2 : (k : Int) < lo := by omega
        have hc := HC2.out
        cases h1 : (FloatKind.f32.format.order (f k) (f k) == some .eq) with
        | false =>
          (go_wp2; go_quiet (fail); go_wp2)
          go_roundw
          case rel => exact ⟨k + 1, by omega, by go_num, by rw [(HT2.out (by rw [HT.out]; unfold ord; rw [h1]; rfl))], _, rfl⟩
          case measure => simp [intOf]; omega
        | true =>
          by_cases h2 : B < 0
          · (go_wp2; go_quiet (fail); go_wp2)
            go_roundw
            case rel => exact ⟨k + 1, by omega, by go_num, by rw [(HT1.out (.inl hA) (by rw [HT.out]; unfold ord; rw [h1]; simp [h2]))], _, rfl⟩
            case measure => simp [intOf]; omega
          · obtain ⟨j, rfl⟩ : ∃ j : Nat, B = j := ⟨B.toNat, by omega⟩
            have hjn : j < n := by omega
            have hcj := hc j hjn
            cases h3 : (FloatKind.f32.format.order (f k) (f j) == some .gt) with
            | false =>
              (go_wp2; go_quiet (fail); go_wp2)
              go_roundw
              case rel => exact ⟨k + 1, by omega, by go_num, by rw [(HT2.out (by rw [HT.out]; unfold ord; rw [h1]; simp; simpa using h3))], _, rfl⟩
              case measure => simp [intOf]; omega
            | true =>
              (go_wp2; go_quiet (fail); go_wp2)
              go_roundw
              case rel => exact ⟨k + 1, by omega, by go_num, by rw [(HT1.out (.inl hA) (by rw [HT.out]; unfold ord; rw [h1]; simp; right; simpa using h3))], _, rfl⟩
              case measure => simp [intOf]; omega
      · by_cases hB : hi < k
        · have hB2 : (hi : Int) < k := by omega
          have hA2 : ¬ (k : Int) < lo := by omega
          have hA3 : (lo : Int) ≤ k := by omega
          have hA4 : ¬ (k : Int) ≤ hi := by omega
          have hc := HC2.out
          cases h1 : (FloatKind.f32.format.order (f k) (f k) == some .eq) with
          | false =>
            (go_wp2; go_quiet (fail); go_wp2)
            go_roundw
            case rel => exact ⟨k + 1, by omega, by go_num, by rw [(HT2.out (by rw [HT.out]; unfold ord; rw [h1]; rfl))], _, rfl⟩
            case measure => simp [intOf]; omega
          | true =>
            by_cases h2 : B < 0
            · (go_wp2; go_quiet (fail); go_wp2)
              go_roundw
              case rel => exact ⟨k + 1, by omega, by go_num, by rw [(HT1.out (.inr hB) (by rw [HT.out]; unfold ord; rw [h1]; simp [h2]))], _, rfl⟩
              case measure => simp [intOf]; omega
            · obtain ⟨j, rfl⟩ : ∃ j : Nat, B = j := ⟨B.toNat, by omega⟩
              have hjn : j < n := by omega
              have hcj := hc j hjn
              cases h3 : (FloatKind.f32.format.order (f k) (f j) == some .gt) with
              | false =>
                (go_wp2; go_quiet (fail); go_wp2)
                go_roundw
                case rel => exact ⟨k + 1, by omega, by go_num, by rw [(HT2.out (by rw [HT.out]; unfold ord; rw [h1]; simp; simpa using h3))], _, rfl⟩
                case measure => simp [intOf]; omega
              | true =>
                (go_wp2; go_quiet (fail); go_wp2)
                go_roundw
                case rel => exact ⟨k + 1, by omega, by go_num, by rw [(HT1.out (.inr hB) (by rw [HT.out]; unfold ord; rw [h1]; simp; right; simpa using h3))], _, rfl⟩
                case measure => simp [intOf]; omega
        · have hB2 : ¬ (hi : Int) < k := by omega
          have hA2 : ¬ (k : Int) < lo := by omega
          have hA3 : (lo : Int) ≤ k := by omega
          have hA4 : (k : Int) ≤ hi := by omega
          (go_wp2; go_quiet (fail); go_wp2)
          go_roundw
          case rel => exact ⟨k + 1, by omega, by go_num, by rw [(HT3.out (by omega))], _, rfl⟩
          case measure => simp [intOf]; omega
    · have : k = n := by omega
      subst this
      obtain ⟨hB1, hB2⟩ := sideTo_bd f lo hi k
      obtain ⟨B, hB⟩ : ∃ B, sideTo f lo hi k = B := ⟨_, rfl⟩
      have HE := Lib.hid hB
      rw [hB] at hB1 hB2 ⊢
      clear hB
      by_cases h2 : B < 0
      · have HV := Lib.hid (sideV_neg (f := f) h2)
        have HF := Lib.hid (sideF_neg h2)
        go_wp2
        go_ret2
        exact ⟨by rw [HE.out, HV.out, HF.out]; rfl, _, rfl⟩
      · obtain ⟨j, rfl⟩ : ∃ j : Nat, B = j := ⟨B.toNat, by omega⟩
        have hjn : j < k := by omega
        have hcj := hc j hjn
        have hj0 : (0 : Int) ≤ j := by omega
        go_wp2
        go_ret2
        exact ⟨by rw [HE.out, sideV_nat, sideF_nat]; rfl, _, rfl⟩

set_option maxHeartbeats 1000000 in
theorem implSideLevel_no (ad : Option Addr) (n cap : Nat) (a : Int) (w : World) (hn : n ≤ 1048576) (ha0 : -9223372036854775808 ≤ a) (ha1 : a ≤ 9223372036854775807) (h : ¬ (1 ≤ n ∧ n ≤ 129 ∧ 0 ≤ a ∧ a < n)) :
    Calls Try.prog 23 #[.slice ad n cap, .int .i64 a] w fun e w' => e = .returned (.tuple #[.float .f32 0, .bool false]) ∧ ∃ m, w' = w.drewN m := by
  by_cases h1 : (1 : Int) ≤ n
  · by_cases h2 : (n : Int) ≤ 129
    · by_cases h3 : 0 ≤ a
      · have h4 : ¬ a ≤ (n : Int) - 1 := by omega
        clear h
        go_enter Try.func23, Try.ntmps23
        go_wp2
        go_ret2
        exact ⟨rfl, 0, rfl⟩
      · clear h
        go_enter Try.func23, Try.ntmps23
        go_wp2
        go_ret2
        exact ⟨rfl, 0, rfl⟩
    · clear h
      go_enter Try.func23, Try.ntmps23
      go_wp2
      go_ret2
      exact ⟨rfl, 0, rfl⟩
  · clear h
    go_enter Try.func23, Try.ntmps23
    go_wp2
    go_ret2
    exact ⟨rfl, 0, rfl⟩

set_option maxHeartbeats 4000000 in
theorem implSideLevel_yes (ad : Option Addr) (n cap at0 lo hi : Nat) (f : Nat → Nat) (w : World) (hr : Rd w ad n (fun j => .float .f32 (f j))) (hk1 : (1 : Int) ≤ n) (hk2 : (n : Int) ≤ 129) (hat : (at0 : Int) < n)
    (hlo : lowEnd (mainDown f) at0 = lo) (hhi : upEnd (mainUp f) n at0 = hi) (hlh : lo ≤ hi) (hhn : hi < n) :
    Calls Try.prog 23 #[.slice ad n cap, .int .i64 at0] w fun e w' => e = .returned (.tuple #[.float .f32 (sideV f (sideTo f lo hi n)), .bool (sideF (sideTo f lo hi n))]) ∧ ∃ m, w' = w.drewN m := by
  have hat2 : (at0 : Int) ≤ (n : Int) - 1 := by omega
  have hat3 : at0 < n := by omega
  obtain ⟨b, off, rfl, hb, hc0⟩ := hr.at hat3
  have HR := Lib.hid hr
  have HC := Lib.hid hc0
  have HLO := Lib.hid hlo
  have HHI := Lib.hid hhi
  clear hr hc0 hlo hhi
  go_enter Try.func23, Try.ntmps23
  go_wp2_with (first | (go_at_call 40; refine (mainLobe_any _ n cap at0 f _ HR.out (by omega) hat3).mono ?_; rintro e w' ⟨rfl, m, rfl⟩; rw [HLO.out, HHI.out]) | go_in)
  go_loopw [8, 9, 10, 11, 24] (fun best found _ _ i wr => ∃ k : Nat, k ≤ n ∧ i = .int .i64 k ∧ best = .float .f32 (sideV f (sideTo f lo hi k)) ∧ found = .bool (sideF (sideTo f lo hi k)) ∧ ∃ m, wr = w.drewN m) (fun _ _ _ _ i _ => n - (intOf i).toNat)
  case atStart => exact ⟨0, Nat.zero_le _, rfl, rfl, rfl, _, rfl⟩
  case round =>
    obtain ⟨k, hk, rfl, rfl, rfl, m, rfl⟩ := hrel
    have hc := HC.out
    obtain ⟨hB1, hB2⟩ := sideTo_bd f lo hi k
    by_cases hlt : k < n
    · have hck := hc k hlt
      have HT := Lib.hid (show takes f k (sideTo f lo hi k) = ((ord (f k) (f k) == some .eq) && (decide (sideTo f lo hi k < 0) || (ord (f k) (f (sideTo f lo hi k).toNat) == some .gt))) from rfl)
      have HT1 := Lib.hid (@side_take f lo hi k)
      have HT2 := Lib.hid (@side_keep f lo hi k)
      have HT3 := Lib.hid (@side_in f lo hi k)
      generalize sideTo f lo hi k = B at *
      have HC2 := Lib.hid hc
      clear hc
      by_cases hA : k < lo
      · have hA2 : (k : Int) < lo := by omega
        have hc := HC2.out
        cases h1 : (FloatKind.f32.format.order (f k) (f k) == some .eq) with
        | false =>
          go_wp2
          go_roundw
          case rel => exact ⟨k + 1, by omega, by go_num, by rw [(HT2.out (by rw [HT.out]; unfold ord; rw [h1]; rfl))], by first | rfl | (rw [HT2.out (by rw [HT.out]; unfold ord; rw [h1]; rfl)]) | rw [HT3.out (by omega)], _, rfl⟩
          case measure => simp [intOf]; omega
        | true =>
          by_cases h2 : B < 0
          · rw [sideV_neg h2, sideF_neg h2]
            go_wp2
            go_roundw
            case rel => exact ⟨k + 1, by omega, by go_num, by rw [(HT1.out (.inl hA) (by rw [HT.out]; unfold ord; rw [h1]; simp [h2])), sideV_nat], by rw [(HT1.out (.inl hA) (by rw [HT.out]; unfold ord; rw [h1]; simp [h2])), sideF_nat], _, rfl⟩
            case measure => simp [intOf]; omega
          · obtain ⟨j, rfl⟩ : ∃ j : Nat, B = j := ⟨B.toNat, by omega⟩
            have hjn : j < n := by omega
            have hcj := hc j hjn
            rw [sideV_nat, sideF_nat]
            cases h3 : (FloatKind.f32.format.order (f k) (f j) == some .gt) with
            | false =>
              go_wp2
              go_roundw
              case rel => exact ⟨k + 1, by omega, by go_num, by rw [(HT2.out (by rw [HT.out]; unfold ord; rw [h1]; simp; simpa using h3)), sideV_nat], by rw [HT2.out (by rw [HT.out]; unfold ord; rw [h1]; simp; simpa using h3), sideF_nat], _, rfl⟩
              case measure => simp [intOf]; omega
            | true =>
              go_wp2
              go_roundw
              case rel => exact ⟨k + 1, by omega, by go_num, by rw [(HT1.out (.inl hA) (by rw [HT.out]; unfold ord; rw [h1]; simp; right; simpa using h3)), sideV_nat], by rw [(HT1.out (.inl hA) (by rw [HT.out]; unfold ord; rw [h1]; simp; right; simpa using h3)), sideF_nat], _, rfl⟩
              case measure => simp [intOf]; omega
      · by_cases hB : hi < k
        · have hB2 : (hi : Int) < k := by omega
          have hA2 : ¬ (k : Int) < lo := by omega
          have hA3 : (lo : Int) ≤ k := by omega
          have hA4 : ¬ (k : Int) ≤ hi := by omega
          have hc := HC2.out
          cases h1 : (FloatKind.f32.format.order (f k) (f k) == some .eq) with
          | false =>
            go_wp2
            go_roundw
            case rel => exact ⟨k + 1, by omega, by go_num, by rw [(HT2.out (by rw [HT.out]; unfold ord; rw [h1]; rfl))], by first | rfl | (rw [HT2.out (by rw [HT.out]; unfold ord; rw [h1]; rfl)]) | rw [HT3.out (by omega)], _, rfl⟩
            case measure => simp [intOf]; omega
          | true =>
            by_cases h2 : B < 0
            · rw [sideV_neg h2, sideF_neg h2]
              go_wp2
              go_roundw
              case rel => exact ⟨k + 1, by omega, by go_num, by rw [(HT1.out (.inr hB) (by rw [HT.out]; unfold ord; rw [h1]; simp [h2])), sideV_nat], by rw [(HT1.out (.inr hB) (by rw [HT.out]; unfold ord; rw [h1]; simp [h2])), sideF_nat], _, rfl⟩
              case measure => simp [intOf]; omega
            · obtain ⟨j, rfl⟩ : ∃ j : Nat, B = j := ⟨B.toNat, by omega⟩
              have hjn : j < n := by omega
              have hcj := hc j hjn
              rw [sideV_nat, sideF_nat]
              cases h3 : (FloatKind.f32.format.order (f k) (f j) == some .gt) with
              | false =>
                go_wp2
                go_roundw
                case rel => exact ⟨k + 1, by omega, by go_num, by rw [(HT2.out (by rw [HT.out]; unfold ord; rw [h1]; simp; simpa using h3)), sideV_nat], by rw [HT2.out (by rw [HT.out]; unfold ord; rw [h1]; simp; simpa using h3), sideF_nat], _, rfl⟩
                case measure => simp [intOf]; omega
              | true =>
                go_wp2
                go_roundw
                case rel => exact ⟨k + 1, by omega, by go_num, by rw [(HT1.out (.inr hB) (by rw [HT.out]; unfold ord; rw [h1]; simp; right; simpa using h3)), sideV_nat], by rw [(HT1.out (.inr hB) (by rw [HT.out]; unfold ord; rw [h1]; simp; right; simpa using h3)), sideF_nat], _, rfl⟩
                case measure => simp [intOf]; omega
        · have hB2 : ¬ (hi : Int) < k := by omega
          have hA2 : ¬ (k : Int) < lo := by omega
          have hA3 : (lo : Int) ≤ k := by omega
          have hA4 : (k : Int) ≤ hi := by omega
          go_wp2
          go_roundw
          case rel => exact ⟨k + 1, by omega, by go_num, by rw [(HT3.out (by omega))], by first | rfl | (rw [HT2.out (by rw [HT.out]; unfold ord; rw [h1]; rfl)]) | rw [HT3.out (by omega)], _, rfl⟩
          case measure => simp [intOf]; omega
    · have : k = n := by omega
      subst this
      go_wp2
      go_ret2
      exact ⟨rfl, _, rfl⟩
end Go.Proofs.Ytjihbkhmkepohaa
