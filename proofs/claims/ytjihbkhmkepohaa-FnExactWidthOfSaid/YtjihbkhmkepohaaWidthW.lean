/- The walks of WidthOf. -/
import Derived.Test.YtjihbkhmkepohaaRows
import Derived.Test.YtjihbkhmkepohaaMem
import Derived.Test.YtjihbkhmkepohaaEndsP
import Derived.BigQuiet
namespace Go.Proofs.Ytjihbkhmkepohaa
open Go.RowKit

def widthDown (f : Nat → Nat) (r : Nat) (j : Nat) : Bool := geqB (f (j - 1)) r
def widthUp (f : Nat → Nat) (r : Nat) (j : Nat) : Bool := geqB (f (j + 1)) r

theorem few_yes (ad : Option Addr) (n cap : Nat) (w : World) (h1 : (1 : Int) ≤ n) (h2 : (n : Int) ≤ 129) :
    Calls Try.prog 34 #[.slice ad n cap] w fun e w' => e = .returned (.bool true) ∧ w' = w := by
  go_enter Try.func34, Try.ntmps34
  go_wp2
  go_ret
  exact ⟨rfl, rfl⟩
theorem few_no (ad : Option Addr) (n cap : Nat) (w : World) (h : (n : Int) < 1 ∨ 129 < (n : Int)) :
    Calls Try.prog 34 #[.slice ad n cap] w fun e w' => e = .returned (.bool false) ∧ w' = w := by
  rcases h with h | h
  · go_enter Try.func34, Try.ntmps34
    go_wp2
    go_ret
    exact ⟨rfl, rfl⟩
  · have h1 : (1 : Int) ≤ n := by omega
    go_enter Try.func34, Try.ntmps34
    go_wp2
    go_ret
    exact ⟨by simp; omega, rfl⟩
theorem in_yes (a b c : Int) (w : World) (h1 : b ≤ a) (h2 : a ≤ c) :
    Calls Try.prog 37 #[.int .i64 a, .int .i64 b, .int .i64 c] w fun e w' => e = .returned (.bool true) ∧ w' = w := by
  go_enter Try.func37, Try.ntmps37
  go_wp2
  go_ret
  exact ⟨rfl, rfl⟩
theorem in_no (a b c : Int) (w : World) (h : a < b ∨ c < a) :
    Calls Try.prog 37 #[.int .i64 a, .int .i64 b, .int .i64 c] w fun e w' => e = .returned (.bool false) ∧ w' = w := by
  by_cases h1 : a < b
  · clear h
    go_enter Try.func37, Try.ntmps37
    go_wp2
    go_ret
    exact ⟨rfl, rfl⟩
  · have h2 : b ≤ a := by omega
    have h3 : c < a := by omega
    clear h
    go_enter Try.func37, Try.ntmps37
    go_wp2
    go_ret
    exact ⟨by simp; omega, rfl⟩
theorem isIn_yes (ad : Option Addr) (n cap : Nat) (a : Int) (w : World) (h1 : (1 : Int) ≤ n) (h2 : (n : Int) ≤ 129) (h3 : 0 ≤ a) (h4 : a ≤ (n : Int) - 1) :
    Calls Try.prog 38 #[.slice ad n cap, .int .i64 a] w fun e w' => e = .returned (.bool true) ∧ w' = w := by
  go_enter Try.func38, Try.ntmps38
  go_wp2
  go_ret
  exact ⟨rfl, rfl⟩
theorem isIn_no (ad : Option Addr) (n cap : Nat) (a : Int) (w : World) (hn : n ≤ 1048576) (h : ¬ (1 ≤ n ∧ n ≤ 129 ∧ 0 ≤ a ∧ a < n)) :
    Calls Try.prog 38 #[.slice ad n cap, .int .i64 a] w fun e w' => e = .returned (.bool false) ∧ w' = w := by
  by_cases h1 : (1 : Int) ≤ n
  · by_cases h2 : (n : Int) ≤ 129
    · by_cases h3 : 0 ≤ a
      · have h4 : ¬ a ≤ (n : Int) - 1 := by omega
        clear h
        go_enter Try.func38, Try.ntmps38
        go_wp2
        go_ret
        exact ⟨rfl, rfl⟩
      · clear h
        go_enter Try.func38, Try.ntmps38
        go_wp2
        go_ret
        exact ⟨rfl, rfl⟩
    · clear h
      go_enter Try.func38, Try.ntmps38
      go_wp2
      go_ret
      exact ⟨rfl, rfl⟩
  · clear h
    go_enter Try.func38, Try.ntmps38
    go_wp2
    go_ret
    exact ⟨rfl, rfl⟩

set_option maxHeartbeats 1000000 in
theorem specWidthOf_no (ad : Option Addr) (n cap : Nat) (a : Int) (w : World) (hn : n ≤ 1048576) (ha0 : -9223372036854775808 ≤ a) (ha1 : a ≤ 9223372036854775807) (h : ¬ (1 ≤ n ∧ n ≤ 129 ∧ 0 ≤ a ∧ a < n)) :
    Calls Try.prog 18 #[.slice ad n cap, .int .i64 a] w fun e w' => e = .returned (.tuple #[.int .i64 0, .int .i64 0, .bool false]) ∧ ∃ m, w' = w.drewN m := by
  by_cases h1 : (1 : Int) ≤ n
  · by_cases h2 : (n : Int) ≤ 129
    · by_cases h3 : 0 ≤ a
      · have h4 : ¬ a ≤ (n : Int) - 1 := by omega
        clear h
        go_enter Try.func18, Try.ntmps18
        (go_wp2; go_quiet (first | (go_at_call 34; first | exact Calls.quiet_of_same (few_yes _ _ _ _ (by omega) (by omega)) | exact Calls.quiet_of_same (few_no _ _ _ _ (by omega))) | (go_at_call 37; first | exact Calls.quiet_of_same (in_yes _ _ _ _ (by omega) (by omega)) | exact Calls.quiet_of_same (in_no _ _ _ _ (by omega))) | (go_at_call 38; first | exact Calls.quiet_of_same (isIn_yes _ _ _ _ _ (by omega) (by omega) (by omega) (by omega)) | exact Calls.quiet_of_same (isIn_no _ _ _ _ _ (by omega) (by omega)))); go_wp2)
        go_ret3
        exact ⟨rfl, _, rfl⟩
      · clear h
        go_enter Try.func18, Try.ntmps18
        (go_wp2; go_quiet (first | (go_at_call 34; first | exact Calls.quiet_of_same (few_yes _ _ _ _ (by omega) (by omega)) | exact Calls.quiet_of_same (few_no _ _ _ _ (by omega))) | (go_at_call 37; first | exact Calls.quiet_of_same (in_yes _ _ _ _ (by omega) (by omega)) | exact Calls.quiet_of_same (in_no _ _ _ _ (by omega))) | (go_at_call 38; first | exact Calls.quiet_of_same (isIn_yes _ _ _ _ _ (by omega) (by omega) (by omega) (by omega)) | exact Calls.quiet_of_same (isIn_no _ _ _ _ _ (by omega) (by omega)))); go_wp2)
        go_ret3
        exact ⟨rfl, _, rfl⟩
    · clear h
      go_enter Try.func18, Try.ntmps18
      (go_wp2; go_quiet (first | (go_at_call 34; first | exact Calls.quiet_of_same (few_yes _ _ _ _ (by omega) (by omega)) | exact Calls.quiet_of_same (few_no _ _ _ _ (by omega))) | (go_at_call 37; first | exact Calls.quiet_of_same (in_yes _ _ _ _ (by omega) (by omega)) | exact Calls.quiet_of_same (in_no _ _ _ _ (by omega))) | (go_at_call 38; first | exact Calls.quiet_of_same (isIn_yes _ _ _ _ _ (by omega) (by omega) (by omega) (by omega)) | exact Calls.quiet_of_same (isIn_no _ _ _ _ _ (by omega) (by omega)))); go_wp2)
      go_ret3
      exact ⟨rfl, _, rfl⟩
  · clear h
    go_enter Try.func18, Try.ntmps18
    (go_wp2; go_quiet (first | (go_at_call 34; first | exact Calls.quiet_of_same (few_yes _ _ _ _ (by omega) (by omega)) | exact Calls.quiet_of_same (few_no _ _ _ _ (by omega))) | (go_at_call 37; first | exact Calls.quiet_of_same (in_yes _ _ _ _ (by omega) (by omega)) | exact Calls.quiet_of_same (in_no _ _ _ _ (by omega))) | (go_at_call 38; first | exact Calls.quiet_of_same (isIn_yes _ _ _ _ _ (by omega) (by omega) (by omega) (by omega)) | exact Calls.quiet_of_same (isIn_no _ _ _ _ _ (by omega) (by omega)))); go_wp2)
    go_ret3
    exact ⟨rfl, _, rfl⟩

set_option maxHeartbeats 4000000 in
theorem specWidthOf_nan (ad : Option Addr) (n cap at0 : Nat) (f : Nat → Nat) (w : World) (hr : Rd w ad n (fun j => .float .f32 (f j))) (hk1 : (1 : Int) ≤ n) (hk2 : (n : Int) ≤ 129) (hat : at0 < n)
    (hnan : (FloatKind.f32.format.order (f at0) (f at0) != some .eq) = true) :
    Calls Try.prog 18 #[.slice ad n cap, .int .i64 at0] w fun e w' => e = .returned (.tuple #[.int .i64 0, .int .i64 0, .bool false]) ∧ ∃ m, w' = w.drewN m := by
  obtain ⟨b, off, rfl, hb, hc⟩ := hr.at hat
  have hat2 : (at0 : Int) < n := by omega
  have hat3 : (at0 : Int) ≤ (n : Int) - 1 := by omega
  have hca := hc at0 hat
  clear hr hc
  go_enter Try.func18, Try.ntmps18
  go_wp2
  go_quiet (first | (go_at_call 34; first | exact Calls.quiet_of_same (few_yes _ _ _ _ (by omega) (by omega)) | exact Calls.quiet_of_same (few_no _ _ _ _ (by omega))) | (go_at_call 37; first | exact Calls.quiet_of_same (in_yes _ _ _ _ (by omega) (by omega)) | exact Calls.quiet_of_same (in_no _ _ _ _ (by omega))) | (go_at_call 38; first | exact Calls.quiet_of_same (isIn_yes _ _ _ _ _ (by omega) (by omega) (by omega) (by omega)) | exact Calls.quiet_of_same (isIn_no _ _ _ _ _ (by omega) (by omega))))
  go_wp2
  go_ret3
  exact ⟨rfl, _, rfl⟩

set_option maxHeartbeats 4000000 in
theorem specWidthOf_less (ad : Option Addr) (n cap at0 r : Nat) (f : Nat → Nat) (w : World) (hr : Rd w ad n (fun j => .float .f32 (f j))) (hk1 : (1 : Int) ≤ n) (hk2 : (n : Int) ≤ 129) (hat : at0 < n)
    (hnan : (FloatKind.f32.format.order (f at0) (f at0) != some .eq) = false) (hq : floatBits .quo .f32 (f at0) 1073741824 = some r) (hge : (FloatKind.f32.format.order (f at0) r == some .gt || FloatKind.f32.format.order (f at0) r == some .eq) = false) :
    Calls Try.prog 18 #[.slice ad n cap, .int .i64 at0] w fun e w' => e = .returned (.tuple #[.int .i64 0, .int .i64 0, .bool false]) ∧ ∃ m, w' = w.drewN m := by
  obtain ⟨b, off, rfl, hb, hc⟩ := hr.at hat
  have hat2 : (at0 : Int) < n := by omega
  have hat3 : (at0 : Int) ≤ (n : Int) - 1 := by omega
  have hca := hc at0 hat
  have hop : ∀ t w, (binOp .quo t (.float .f32 (f at0)) (.float .f32 1073741824)).run Try.prog w = .ok (.float .f32 r) w := fun t w => run_float_arith w .quo t .f32 _ _ r hq
  clear hq
  clear hr hc
  go_enter Try.func18, Try.ntmps18
  go_wp2
  go_quiet (first | (go_at_call 34; first | exact Calls.quiet_of_same (few_yes _ _ _ _ (by omega) (by omega)) | exact Calls.quiet_of_same (few_no _ _ _ _ (by omega))) | (go_at_call 37; first | exact Calls.quiet_of_same (in_yes _ _ _ _ (by omega) (by omega)) | exact Calls.quiet_of_same (in_no _ _ _ _ (by omega))) | (go_at_call 38; first | exact Calls.quiet_of_same (isIn_yes _ _ _ _ _ (by omega) (by omega) (by omega) (by omega)) | exact Calls.quiet_of_same (isIn_no _ _ _ _ _ (by omega) (by omega))))
  go_wp2
  go_ret3
  exact ⟨rfl, _, rfl⟩

set_option maxHeartbeats 4000000 in
theorem specWidthOf_yes (ad : Option Addr) (n cap at0 r : Nat) (f : Nat → Nat) (w : World) (hr : Rd w ad n (fun j => .float .f32 (f j))) (hk1 : (1 : Int) ≤ n) (hk2 : (n : Int) ≤ 129) (hat : at0 < n)
    (hnan : (FloatKind.f32.format.order (f at0) (f at0) != some .eq) = false) (hq : floatBits .quo .f32 (f at0) 1073741824 = some r) (hge : (FloatKind.f32.format.order (f at0) r == some .gt || FloatKind.f32.format.order (f at0) r == some .eq) = true) :
    Calls Try.prog 18 #[.slice ad n cap, .int .i64 at0] w fun e w' => e = .returned (.tuple #[.int .i64 (lowEnd (widthDown f r) at0), .int .i64 (upEnd (widthUp f r) n at0), .bool true]) ∧ ∃ m, w' = w.drewN m := by
  obtain ⟨b, off, rfl, hb, hc⟩ := hr.at hat
  have HC := Lib.hid hc
  have hn : n ≤ 1048576 := by omega
  have hat2 : (at0 : Int) < n := by omega
  have hat3 : (at0 : Int) ≤ (n : Int) - 1 := by omega
  have hca := hc at0 hat
  have hop : ∀ t w, (binOp .quo t (.float .f32 (f at0)) (.float .f32 1073741824)).run Try.prog w = .ok (.float .f32 r) w := fun t w => run_float_arith w .quo t .f32 _ _ r hq
  clear hr hc hq
  go_enter Try.func18, Try.ntmps18
  go_wp2
  go_quiet (first | (go_at_call 34; first | exact Calls.quiet_of_same (few_yes _ _ _ _ (by omega) (by omega)) | exact Calls.quiet_of_same (few_no _ _ _ _ (by omega))) | (go_at_call 37; first | exact Calls.quiet_of_same (in_yes _ _ _ _ (by omega) (by omega)) | exact Calls.quiet_of_same (in_no _ _ _ _ (by omega))) | (go_at_call 38; first | exact Calls.quiet_of_same (isIn_yes _ _ _ _ _ (by omega) (by omega) (by omega) (by omega)) | exact Calls.quiet_of_same (isIn_no _ _ _ _ _ (by omega) (by omega))))
  go_wp2
  clear hop hnan hge
  go_loopw [8] (fun i wr => ∃ k : Nat, k ≤ at0 ∧ i = .int .i64 k ∧ Hid (lowEnd (widthDown f r) k = lowEnd (widthDown f r) at0) ∧ ∃ m, wr = w.drewN m) (fun i _ => (intOf i).toNat)
  case atStart => exact ⟨at0, Nat.le_refl _, rfl, Lib.hid rfl, by first | exact ⟨0, rfl⟩ | exact ⟨_, rfl⟩ | exact ⟨_, World.drewN_drewN ..⟩⟩
  case round =>
    obtain ⟨k, hk, rfl, HE, m, rfl⟩ := hrel
    by_cases hpos : 0 < k
    · have hpos2 : (0 : Int) < k := by omega
      have hkn : k < n := by omega
      have hkn2 : k - 1 < n := by omega
      have hck2 := HC.out (k - 1) (by omega)
      have HP := Lib.hid (show widthDown f r k = (FloatKind.f32.format.order (f (k - 1)) r == some .gt || FloatKind.f32.format.order (f (k - 1)) r == some .eq) from rfl)
      cases hle : (FloatKind.f32.format.order (f (k - 1)) r == some .gt || FloatKind.f32.format.order (f (k - 1)) r == some .eq) with
      | true =>
        go_wp2
        go_roundw
        case rel => exact ⟨k - 1, by omega, by go_num, Lib.hid (by rw [← HE.out, lowEnd_go hpos (by rw [HP.out, hle])]), _, rfl⟩
        case measure => simp [intOf]; omega
      | false =>
        have HL := Lib.hid (show lowEnd (widthDown f r) at0 = k from by rw [← HE.out, lowEnd_stop (by rw [HP.out, hle])])
        go_wp2
        clear hck2 HP hle HE
        go_loopw [9] (fun i wr => ∃ k2 : Nat, at0 ≤ k2 ∧ k2 < n ∧ i = .int .i64 k2 ∧ Hid (upEnd (widthUp f r) n k2 = upEnd (widthUp f r) n at0) ∧ ∃ m, wr = w.drewN m) (fun i _ => n - (intOf i).toNat)
        case atStart => exact ⟨at0, Nat.le_refl _, hat, rfl, Lib.hid rfl, by first | exact ⟨_, rfl⟩ | exact ⟨_, World.drewN_drewN ..⟩⟩
        case round =>
          obtain ⟨k2, hk2, hk2n, rfl, HE2, m2, rfl⟩ := hrel
          have hc2 := HC.out k2 hk2n
          by_cases hup : k2 + 1 < n
          · have hup2 : (k2 : Int) + 1 < n := by omega
            have hc3 := HC.out (k2 + 1) hup
            have HQ := Lib.hid (show widthUp f r k2 = (FloatKind.f32.format.order (f (k2 + 1)) r == some .gt || FloatKind.f32.format.order (f (k2 + 1)) r == some .eq) from rfl)
            cases hle2 : (FloatKind.f32.format.order (f (k2 + 1)) r == some .gt || FloatKind.f32.format.order (f (k2 + 1)) r == some .eq) with
            | true =>
              go_wp2
              go_wp2
              go_roundw
              case rel => exact ⟨k2 + 1, by omega, hup, by go_num, Lib.hid (by rw [← HE2.out, upEnd_go hup (by rw [HQ.out, hle2])]), _, rfl⟩
              case measure => simp [intOf]; omega
            | false =>
              go_wp2
              have HU := Lib.hid (show upEnd (widthUp f r) n at0 = k2 from by rw [← HE2.out, upEnd_stop (by rw [HQ.out, hle2])])
              clear hc2 hc3 HQ hle2 HE2
              go_wp2
              go_ret3
              exact ⟨by rw [HL.out, HU.out]; rfl, by first | exact ⟨_, rfl⟩ | exact ⟨_, World.drewN_drewN ..⟩⟩
          · have hup2 : ¬ (k2 : Int) + 1 < n := by omega
            have hd2 : decide ((k2 : Int) + 1 < n) = false := decide_eq_false hup2
            go_wp2
            have HU := Lib.hid (show upEnd (widthUp f r) n at0 = k2 from by rw [← HE2.out, upEnd_end hup])
            clear hc2 HE2
            go_wp2
            go_ret3
            exact ⟨by rw [HL.out, HU.out]; rfl, by first | exact ⟨_, rfl⟩ | exact ⟨_, World.drewN_drewN ..⟩⟩
    · have hpos2 : ¬ (0 : Int) < k := by omega
      have hd : decide ((0 : Int) < k) = false := decide_eq_false hpos2
      have HL := Lib.hid (show lowEnd (widthDown f r) at0 = k from by rw [← HE.out, lowEnd_zero hpos])
      go_wp2
      clear HE
      go_loopw [9] (fun i wr => ∃ k2 : Nat, at0 ≤ k2 ∧ k2 < n ∧ i = .int .i64 k2 ∧ Hid (upEnd (widthUp f r) n k2 = upEnd (widthUp f r) n at0) ∧ ∃ m, wr = w.drewN m) (fun i _ => n - (intOf i).toNat)
      case atStart => exact ⟨at0, Nat.le_refl _, hat, rfl, Lib.hid rfl, by first | exact ⟨_, rfl⟩ | exact ⟨_, World.drewN_drewN ..⟩⟩
      case round =>
        obtain ⟨k2, hk2, hk2n, rfl, HE2, m2, rfl⟩ := hrel
        have hc2 := HC.out k2 hk2n
        by_cases hup : k2 + 1 < n
        · have hup2 : (k2 : Int) + 1 < n := by omega
          have hc3 := HC.out (k2 + 1) hup
          have HQ := Lib.hid (show widthUp f r k2 = (FloatKind.f32.format.order (f (k2 + 1)) r == some .gt || FloatKind.f32.format.order (f (k2 + 1)) r == some .eq) from rfl)
          cases hle2 : (FloatKind.f32.format.order (f (k2 + 1)) r == some .gt || FloatKind.f32.format.order (f (k2 + 1)) r == some .eq) with
          | true =>
            go_wp2
            go_wp2
            go_roundw
            case rel => exact ⟨k2 + 1, by omega, hup, by go_num, Lib.hid (by rw [← HE2.out, upEnd_go hup (by rw [HQ.out, hle2])]), _, rfl⟩
            case measure => simp [intOf]; omega
          | false =>
            go_wp2
            have HU := Lib.hid (show upEnd (widthUp f r) n at0 = k2 from by rw [← HE2.out, upEnd_stop (by rw [HQ.out, hle2])])
            clear hc2 hc3 HQ hle2 HE2
            go_wp2
            go_ret3
            exact ⟨by rw [HL.out, HU.out]; rfl, by first | exact ⟨_, rfl⟩ | exact ⟨_, World.drewN_drewN ..⟩⟩
        · have hup2 : ¬ (k2 : Int) + 1 < n := by omega
          have hd2 : decide ((k2 : Int) + 1 < n) = false := decide_eq_false hup2
          go_wp2
          have HU := Lib.hid (show upEnd (widthUp f r) n at0 = k2 from by rw [← HE2.out, upEnd_end hup])
          clear hc2 HE2
          go_wp2
          go_ret3
          exact ⟨by rw [HL.out, HU.out]; rfl, by first | exact ⟨_, rfl⟩ | exact ⟨_, World.drewN_drewN ..⟩⟩

set_option maxHeartbeats 1000000 in
theorem implWidthOf_no (ad : Option Addr) (n cap : Nat) (a : Int) (w : World) (hn : n ≤ 1048576) (ha0 : -9223372036854775808 ≤ a) (ha1 : a ≤ 9223372036854775807) (h : ¬ (1 ≤ n ∧ n ≤ 129 ∧ 0 ≤ a ∧ a < n)) :
    Calls Try.prog 19 #[.slice ad n cap, .int .i64 a] w fun e w' => e = .returned (.tuple #[.int .i64 0, .int .i64 0, .bool false]) ∧ ∃ m, w' = w.drewN m := by
  by_cases h1 : (1 : Int) ≤ n
  · by_cases h2 : (n : Int) ≤ 129
    · by_cases h3 : 0 ≤ a
      · have h4 : ¬ a ≤ (n : Int) - 1 := by omega
        clear h
        go_enter Try.func19, Try.ntmps19
        (go_wp2; go_quiet (first | (go_at_call 34; first | exact Calls.quiet_of_same (few_yes _ _ _ _ (by omega) (by omega)) | exact Calls.quiet_of_same (few_no _ _ _ _ (by omega))) | (go_at_call 37; first | exact Calls.quiet_of_same (in_yes _ _ _ _ (by omega) (by omega)) | exact Calls.quiet_of_same (in_no _ _ _ _ (by omega))) | (go_at_call 38; first | exact Calls.quiet_of_same (isIn_yes _ _ _ _ _ (by omega) (by omega) (by omega) (by omega)) | exact Calls.quiet_of_same (isIn_no _ _ _ _ _ (by omega) (by omega)))); go_wp2)
        go_ret3
        exact ⟨rfl, _, rfl⟩
      · clear h
        go_enter Try.func19, Try.ntmps19
        (go_wp2; go_quiet (first | (go_at_call 34; first | exact Calls.quiet_of_same (few_yes _ _ _ _ (by omega) (by omega)) | exact Calls.quiet_of_same (few_no _ _ _ _ (by omega))) | (go_at_call 37; first | exact Calls.quiet_of_same (in_yes _ _ _ _ (by omega) (by omega)) | exact Calls.quiet_of_same (in_no _ _ _ _ (by omega))) | (go_at_call 38; first | exact Calls.quiet_of_same (isIn_yes _ _ _ _ _ (by omega) (by omega) (by omega) (by omega)) | exact Calls.quiet_of_same (isIn_no _ _ _ _ _ (by omega) (by omega)))); go_wp2)
        go_ret3
        exact ⟨rfl, _, rfl⟩
    · clear h
      go_enter Try.func19, Try.ntmps19
      (go_wp2; go_quiet (first | (go_at_call 34; first | exact Calls.quiet_of_same (few_yes _ _ _ _ (by omega) (by omega)) | exact Calls.quiet_of_same (few_no _ _ _ _ (by omega))) | (go_at_call 37; first | exact Calls.quiet_of_same (in_yes _ _ _ _ (by omega) (by omega)) | exact Calls.quiet_of_same (in_no _ _ _ _ (by omega))) | (go_at_call 38; first | exact Calls.quiet_of_same (isIn_yes _ _ _ _ _ (by omega) (by omega) (by omega) (by omega)) | exact Calls.quiet_of_same (isIn_no _ _ _ _ _ (by omega) (by omega)))); go_wp2)
      go_ret3
      exact ⟨rfl, _, rfl⟩
  · clear h
    go_enter Try.func19, Try.ntmps19
    (go_wp2; go_quiet (first | (go_at_call 34; first | exact Calls.quiet_of_same (few_yes _ _ _ _ (by omega) (by omega)) | exact Calls.quiet_of_same (few_no _ _ _ _ (by omega))) | (go_at_call 37; first | exact Calls.quiet_of_same (in_yes _ _ _ _ (by omega) (by omega)) | exact Calls.quiet_of_same (in_no _ _ _ _ (by omega))) | (go_at_call 38; first | exact Calls.quiet_of_same (isIn_yes _ _ _ _ _ (by omega) (by omega) (by omega) (by omega)) | exact Calls.quiet_of_same (isIn_no _ _ _ _ _ (by omega) (by omega)))); go_wp2)
    go_ret3
    exact ⟨rfl, _, rfl⟩

set_option maxHeartbeats 4000000 in
theorem implWidthOf_nan (ad : Option Addr) (n cap at0 : Nat) (f : Nat → Nat) (w : World) (hr : Rd w ad n (fun j => .float .f32 (f j))) (hk1 : (1 : Int) ≤ n) (hk2 : (n : Int) ≤ 129) (hat : at0 < n)
    (hnan : (FloatKind.f32.format.order (f at0) (f at0) != some .eq) = true) :
    Calls Try.prog 19 #[.slice ad n cap, .int .i64 at0] w fun e w' => e = .returned (.tuple #[.int .i64 0, .int .i64 0, .bool false]) ∧ ∃ m, w' = w.drewN m := by
  obtain ⟨b, off, rfl, hb, hc⟩ := hr.at hat
  have hat2 : (at0 : Int) < n := by omega
  have hat3 : (at0 : Int) ≤ (n : Int) - 1 := by omega
  have hca := hc at0 hat
  clear hr hc
  go_enter Try.func19, Try.ntmps19
  go_wp2
  go_quiet (first | (go_at_call 34; first | exact Calls.quiet_of_same (few_yes _ _ _ _ (by omega) (by omega)) | exact Calls.quiet_of_same (few_no _ _ _ _ (by omega))) | (go_at_call 37; first | exact Calls.quiet_of_same (in_yes _ _ _ _ (by omega) (by omega)) | exact Calls.quiet_of_same (in_no _ _ _ _ (by omega))) | (go_at_call 38; first | exact Calls.quiet_of_same (isIn_yes _ _ _ _ _ (by omega) (by omega) (by omega) (by omega)) | exact Calls.quiet_of_same (isIn_no _ _ _ _ _ (by omega) (by omega))))
  go_wp2
  go_ret3
  exact ⟨rfl, _, rfl⟩

set_option maxHeartbeats 4000000 in
theorem implWidthOf_less (ad : Option Addr) (n cap at0 r : Nat) (f : Nat → Nat) (w : World) (hr : Rd w ad n (fun j => .float .f32 (f j))) (hk1 : (1 : Int) ≤ n) (hk2 : (n : Int) ≤ 129) (hat : at0 < n)
    (hnan : (FloatKind.f32.format.order (f at0) (f at0) != some .eq) = false) (hq : floatBits .quo .f32 (f at0) 1073741824 = some r) (hlt : (FloatKind.f32.format.order (f at0) r == some .lt) = true) :
    Calls Try.prog 19 #[.slice ad n cap, .int .i64 at0] w fun e w' => e = .returned (.tuple #[.int .i64 0, .int .i64 0, .bool false]) ∧ ∃ m, w' = w.drewN m := by
  obtain ⟨b, off, rfl, hb, hc⟩ := hr.at hat
  have hat2 : (at0 : Int) < n := by omega
  have hat3 : (at0 : Int) ≤ (n : Int) - 1 := by omega
  have hca := hc at0 hat
  have hop : ∀ t w, (binOp .quo t (.float .f32 (f at0)) (.float .f32 1073741824)).run Try.prog w = .ok (.float .f32 r) w := fun t w => run_float_arith w .quo t .f32 _ _ r hq
  clear hq
  clear hr hc
  go_enter Try.func19, Try.ntmps19
  go_wp2
  go_quiet (first | (go_at_call 34; first | exact Calls.quiet_of_same (few_yes _ _ _ _ (by omega) (by omega)) | exact Calls.quiet_of_same (few_no _ _ _ _ (by omega))) | (go_at_call 37; first | exact Calls.quiet_of_same (in_yes _ _ _ _ (by omega) (by omega)) | exact Calls.quiet_of_same (in_no _ _ _ _ (by omega))) | (go_at_call 38; first | exact Calls.quiet_of_same (isIn_yes _ _ _ _ _ (by omega) (by omega) (by omega) (by omega)) | exact Calls.quiet_of_same (isIn_no _ _ _ _ _ (by omega) (by omega))))
  go_wp2
  go_ret3
  exact ⟨rfl, _, rfl⟩

set_option maxHeartbeats 4000000 in
theorem implWidthOf_yes (ad : Option Addr) (n cap at0 r : Nat) (f : Nat → Nat) (w : World) (hr : Rd w ad n (fun j => .float .f32 (f j))) (hk1 : (1 : Int) ≤ n) (hk2 : (n : Int) ≤ 129) (hat : at0 < n)
    (hnan : (FloatKind.f32.format.order (f at0) (f at0) != some .eq) = false) (hq : floatBits .quo .f32 (f at0) 1073741824 = some r) (hlt : (FloatKind.f32.format.order (f at0) r == some .lt) = false) :
    Calls Try.prog 19 #[.slice ad n cap, .int .i64 at0] w fun e w' => e = .returned (.tuple #[.int .i64 (lowEnd (widthDown f r) at0), .int .i64 (upEnd (widthUp f r) n at0), .bool true]) ∧ ∃ m, w' = w.drewN m := by
  obtain ⟨b, off, rfl, hb, hc⟩ := hr.at hat
  have HC := Lib.hid hc
  have hn : n ≤ 1048576 := by omega
  have hat2 : (at0 : Int) < n := by omega
  have hat3 : (at0 : Int) ≤ (n : Int) - 1 := by omega
  have hca := hc at0 hat
  have hop : ∀ t w, (binOp .quo t (.float .f32 (f at0)) (.float .f32 1073741824)).run Try.prog w = .ok (.float .f32 r) w := fun t w => run_float_arith w .quo t .f32 _ _ r hq
  clear hr hc hq
  go_enter Try.func19, Try.ntmps19
  go_wp2
  go_quiet (first | (go_at_call 34; first | exact Calls.quiet_of_same (few_yes _ _ _ _ (by omega) (by omega)) | exact Calls.quiet_of_same (few_no _ _ _ _ (by omega))) | (go_at_call 37; first | exact Calls.quiet_of_same (in_yes _ _ _ _ (by omega) (by omega)) | exact Calls.quiet_of_same (in_no _ _ _ _ (by omega))) | (go_at_call 38; first | exact Calls.quiet_of_same (isIn_yes _ _ _ _ _ (by omega) (by omega) (by omega) (by omega)) | exact Calls.quiet_of_same (isIn_no _ _ _ _ _ (by omega) (by omega))))
  go_wp2
  clear hop hnan hlt
  go_loopw [8] (fun i wr => ∃ k : Nat, k ≤ at0 ∧ i = .int .i64 k ∧ Hid (lowEnd (widthDown f r) k = lowEnd (widthDown f r) at0) ∧ ∃ m, wr = w.drewN m) (fun i _ => (intOf i).toNat)
  case atStart => exact ⟨at0, Nat.le_refl _, rfl, Lib.hid rfl, by first | exact ⟨0, rfl⟩ | exact ⟨_, rfl⟩ | exact ⟨_, World.drewN_drewN ..⟩⟩
  case round =>
    obtain ⟨k, hk, rfl, HE, m, rfl⟩ := hrel
    by_cases hpos : 0 < k
    · have hpos2 : (0 : Int) < k := by omega
      have hkn : k < n := by omega
      have hkn2 : k - 1 < n := by omega
      have hck2 := HC.out (k - 1) (by omega)
      have HP := Lib.hid (show widthDown f r k = (FloatKind.f32.format.order (f (k - 1)) r == some .gt || FloatKind.f32.format.order (f (k - 1)) r == some .eq) from rfl)
      cases hle : (FloatKind.f32.format.order (f (k - 1)) r == some .gt || FloatKind.f32.format.order (f (k - 1)) r == some .eq) with
      | true =>
        go_wp2
        go_roundw
        case rel => exact ⟨k - 1, by omega, by go_num, Lib.hid (by rw [← HE.out, lowEnd_go hpos (by rw [HP.out, hle])]), _, rfl⟩
        case measure => simp [intOf]; omega
      | false =>
        have HL := Lib.hid (show lowEnd (widthDown f r) at0 = k from by rw [← HE.out, lowEnd_stop (by rw [HP.out, hle])])
        go_wp2
        clear hck2 HP hle HE
        go_loopw [9] (fun i wr => ∃ k2 : Nat, at0 ≤ k2 ∧ k2 < n ∧ i = .int .i64 k2 ∧ Hid (upEnd (widthUp f r) n k2 = upEnd (widthUp f r) n at0) ∧ ∃ m, wr = w.drewN m) (fun i _ => n - (intOf i).toNat)
        case atStart => exact ⟨at0, Nat.le_refl _, hat, rfl, Lib.hid rfl, by first | exact ⟨_, rfl⟩ | exact ⟨_, World.drewN_drewN ..⟩⟩
        case round =>
          obtain ⟨k2, hk2, hk2n, rfl, HE2, m2, rfl⟩ := hrel
          have hc2 := HC.out k2 hk2n
          by_cases hup : k2 + 1 < n
          · have hup2 : (k2 : Int) + 1 < n := by omega
            have hc3 := HC.out (k2 + 1) hup
            have HQ := Lib.hid (show widthUp f r k2 = (FloatKind.f32.format.order (f (k2 + 1)) r == some .gt || FloatKind.f32.format.order (f (k2 + 1)) r == some .eq) from rfl)
            cases hle2 : (FloatKind.f32.format.order (f (k2 + 1)) r == some .gt || FloatKind.f32.format.order (f (k2 + 1)) r == some .eq) with
            | true =>
              go_wp2
              go_wp2
              go_roundw
              case rel => exact ⟨k2 + 1, by omega, hup, by go_num, Lib.hid (by rw [← HE2.out, upEnd_go hup (by rw [HQ.out, hle2])]), _, rfl⟩
              case measure => simp [intOf]; omega
            | false =>
              go_wp2
              have HU := Lib.hid (show upEnd (widthUp f r) n at0 = k2 from by rw [← HE2.out, upEnd_stop (by rw [HQ.out, hle2])])
              clear hc2 hc3 HQ hle2 HE2
              go_wp2
              go_ret3
              exact ⟨by rw [HL.out, HU.out]; rfl, by first | exact ⟨_, rfl⟩ | exact ⟨_, World.drewN_drewN ..⟩⟩
          · have hup2 : ¬ (k2 : Int) + 1 < n := by omega
            have hd2 : decide ((k2 : Int) + 1 < n) = false := decide_eq_false hup2
            go_wp2
            have HU := Lib.hid (show upEnd (widthUp f r) n at0 = k2 from by rw [← HE2.out, upEnd_end hup])
            clear hc2 HE2
            go_wp2
            go_ret3
            exact ⟨by rw [HL.out, HU.out]; rfl, by first | exact ⟨_, rfl⟩ | exact ⟨_, World.drewN_drewN ..⟩⟩
    · have hpos2 : ¬ (0 : Int) < k := by omega
      have hd : decide ((0 : Int) < k) = false := decide_eq_false hpos2
      have HL := Lib.hid (show lowEnd (widthDown f r) at0 = k from by rw [← HE.out, lowEnd_zero hpos])
      go_wp2
      clear HE
      go_loopw [9] (fun i wr => ∃ k2 : Nat, at0 ≤ k2 ∧ k2 < n ∧ i = .int .i64 k2 ∧ Hid (upEnd (widthUp f r) n k2 = upEnd (widthUp f r) n at0) ∧ ∃ m, wr = w.drewN m) (fun i _ => n - (intOf i).toNat)
      case atStart => exact ⟨at0, Nat.le_refl _, hat, rfl, Lib.hid rfl, by first | exact ⟨_, rfl⟩ | exact ⟨_, World.drewN_drewN ..⟩⟩
      case round =>
        obtain ⟨k2, hk2, hk2n, rfl, HE2, m2, rfl⟩ := hrel
        have hc2 := HC.out k2 hk2n
        by_cases hup : k2 + 1 < n
        · have hup2 : (k2 : Int) + 1 < n := by omega
          have hc3 := HC.out (k2 + 1) hup
          have HQ := Lib.hid (show widthUp f r k2 = (FloatKind.f32.format.order (f (k2 + 1)) r == some .gt || FloatKind.f32.format.order (f (k2 + 1)) r == some .eq) from rfl)
          cases hle2 : (FloatKind.f32.format.order (f (k2 + 1)) r == some .gt || FloatKind.f32.format.order (f (k2 + 1)) r == some .eq) with
          | true =>
            go_wp2
            go_wp2
            go_roundw
            case rel => exact ⟨k2 + 1, by omega, hup, by go_num, Lib.hid (by rw [← HE2.out, upEnd_go hup (by rw [HQ.out, hle2])]), _, rfl⟩
            case measure => simp [intOf]; omega
          | false =>
            go_wp2
            have HU := Lib.hid (show upEnd (widthUp f r) n at0 = k2 from by rw [← HE2.out, upEnd_stop (by rw [HQ.out, hle2])])
            clear hc2 hc3 HQ hle2 HE2
            go_wp2
            go_ret3
            exact ⟨by rw [HL.out, HU.out]; rfl, by first | exact ⟨_, rfl⟩ | exact ⟨_, World.drewN_drewN ..⟩⟩
        · have hup2 : ¬ (k2 : Int) + 1 < n := by omega
          have hd2 : decide ((k2 : Int) + 1 < n) = false := decide_eq_false hup2
          go_wp2
          have HU := Lib.hid (show upEnd (widthUp f r) n at0 = k2 from by rw [← HE2.out, upEnd_end hup])
          clear hc2 HE2
          go_wp2
          go_ret3
          exact ⟨by rw [HL.out, HU.out]; rfl, by first | exact ⟨_, rfl⟩ | exact ⟨_, World.drewN_drewN ..⟩⟩
end Go.Proofs.Ytjihbkhmkepohaa
