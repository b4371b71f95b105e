/- The walks of l03Main and mainLobe. -/
import Derived.Test.YtjihbkhmkepohaaRows
import Derived.Test.YtjihbkhmkepohaaMem
import Derived.Test.YtjihbkhmkepohaaEndsP
import Derived.BigQuiet
namespace Go.Proofs.Ytjihbkhmkepohaa
open Go.RowKit

def mainDown (f : Nat → Nat) (j : Nat) : Bool := leqB (f (j - 1)) (f j)
def mainUp (f : Nat → Nat) (j : Nat) : Bool := leqB (f (j + 1)) (f j)

set_option maxHeartbeats 2000000 in
theorem l03Main_any (ad : Option Addr) (n cap at0 : Nat) (f : Nat → Nat) (w : World) (hr : Rd w ad n (fun j => .float .f32 (f j))) (hn : n ≤ 1048576) (hat : at0 < n) :
    Calls Try.prog 39 #[.slice ad n cap, .int .i64 at0] w fun e w' => e = .returned (.tuple #[.int .i64 (lowEnd (mainDown f) at0), .int .i64 (upEnd (mainUp f) n at0)]) ∧ ∃ m, w' = w.drewN m := by
  obtain ⟨b, off, rfl, hb, hc⟩ := hr.at hat
  have HC := Lib.hid hc
  have hat2 : (at0 : Int) < n := by omega
  clear hr hc
  go_enter Try.func39, Try.ntmps39
  go_wp2
  go_loopw [6] (fun i wr => ∃ k : Nat, k ≤ at0 ∧ i = .int .i64 k ∧ Hid (lowEnd (mainDown f) k = lowEnd (mainDown f) at0) ∧ ∃ m, wr = w.drewN m) (fun i _ => (intOf i).toNat)
  case atStart => exact ⟨at0, Nat.le_refl _, rfl, Lib.hid rfl, 0, rfl⟩
  case round =>
    obtain ⟨k, hk, rfl, HE, m, rfl⟩ := hrel
    have hck := HC.out k (by omega)
    by_cases hpos : 0 < k
    · have hpos2 : (0 : Int) < k := by omega
      have hkn : k < n := by omega
      have hkn2 : k - 1 < n := by omega
      have hck2 := HC.out (k - 1) (by omega)
      have HP := Lib.hid (show mainDown f k = (FloatKind.f32.format.order (f (k - 1)) (f k) == some .lt || FloatKind.f32.format.order (f (k - 1)) (f k) == some .eq) from rfl)
      cases hle : (FloatKind.f32.format.order (f (k - 1)) (f k) == some .lt || FloatKind.f32.format.order (f (k - 1)) (f k) == some .eq) with
      | true =>
        go_wp2
        go_quiet (fail)
        go_wp2
        go_roundw
        case rel => exact ⟨k - 1, by omega, by go_num, Lib.hid (by rw [← HE.out, lowEnd_go hpos (by rw [HP.out, hle])]), _, rfl⟩
        case measure => simp [intOf]; omega
      | false =>
        go_wp2
        go_quiet (fail)
        have HL := Lib.hid (show lowEnd (mainDown f) at0 = k from by rw [← HE.out, lowEnd_stop (by rw [HP.out, hle])])
        clear hck hck2 HP hle HE
        go_wp2
        go_loopw [7] (fun i wr => ∃ k2 : Nat, at0 ≤ k2 ∧ k2 < n ∧ i = .int .i64 k2 ∧ Hid (upEnd (mainUp f) n k2 = upEnd (mainUp f) n at0) ∧ ∃ m, wr = w.drewN m) (fun i _ => n - (intOf i).toNat)
        case atStart => exact ⟨at0, Nat.le_refl _, hat, rfl, Lib.hid rfl, by first | exact ⟨_, rfl⟩ | exact ⟨_, World.drewN_drewN ..⟩⟩
        case round =>
          obtain ⟨k2, hk2, hk2n, rfl, HE2, m2, rfl⟩ := hrel
          have hc2 := HC.out k2 hk2n
          by_cases hup : k2 + 1 < n
          · have hup2 : (k2 : Int) + 1 < n := by omega
            have hc3 := HC.out (k2 + 1) hup
            have HQ := Lib.hid (show mainUp f k2 = (FloatKind.f32.format.order (f (k2 + 1)) (f k2) == some .lt || FloatKind.f32.format.order (f (k2 + 1)) (f k2) == some .eq) from rfl)
            cases hle2 : (FloatKind.f32.format.order (f (k2 + 1)) (f k2) == some .lt || FloatKind.f32.format.order (f (k2 + 1)) (f k2) == some .eq) with
            | true =>
              go_wp2
              go_quiet (fail)
              go_wp2
              go_roundw
              case rel => exact ⟨k2 + 1, by omega, hup, by go_num, Lib.hid (by rw [← HE2.out, upEnd_go hup (by rw [HQ.out, hle2])]), _, rfl⟩
              case measure => simp [intOf]; omega
            | false =>
              go_wp2
              go_quiet (fail)
              have HU := Lib.hid (show upEnd (mainUp f) n at0 = k2 from by rw [← HE2.out, upEnd_stop (by rw [HQ.out, hle2])])
              clear hc2 hc3 HQ hle2 HE2
              go_wp2
              go_ret2
              exact ⟨by rw [HL.out, HU.out]; rfl, by first | exact ⟨_, rfl⟩ | exact ⟨_, World.drewN_drewN ..⟩⟩
          · have hup2 : ¬ (k2 : Int) + 1 < n := by omega
            have hd2 : decide ((k2 : Int) + 1 < n) = false := decide_eq_false hup2
            go_wp2
            go_quiet (fail)
            have HU := Lib.hid (show upEnd (mainUp f) n at0 = k2 from by rw [← HE2.out, upEnd_end hup])
            clear hc2 HE2
            go_wp2
            go_ret2
            exact ⟨by rw [HL.out, HU.out]; rfl, by first | exact ⟨_, rfl⟩ | exact ⟨_, World.drewN_drewN ..⟩⟩
    · have hpos2 : ¬ (0 : Int) < k := by omega
      have hd : decide ((0 : Int) < k) = false := decide_eq_false hpos2
      go_wp2
      go_quiet (fail)
      have HL := Lib.hid (show lowEnd (mainDown f) at0 = k from by rw [← HE.out, lowEnd_zero hpos])
      clear hck HE
      go_wp2
      go_loopw [7] (fun i wr => ∃ k2 : Nat, at0 ≤ k2 ∧ k2 < n ∧ i = .int .i64 k2 ∧ Hid (upEnd (mainUp f) n k2 = upEnd (mainUp f) n at0) ∧ ∃ m, wr = w.drewN m) (fun i _ => n - (intOf i).toNat)
      case atStart => exact ⟨at0, Nat.le_refl _, hat, rfl, Lib.hid rfl, by first | exact ⟨_, rfl⟩ | exact ⟨_, World.drewN_drewN ..⟩⟩
      case round =>
        obtain ⟨k2, hk2, hk2n, rfl, HE2, m2, rfl⟩ := hrel
        have hc2 := HC.out k2 hk2n
        by_cases hup : k2 + 1 < n
        · have hup2 : (k2 : Int) + 1 < n := by omega
          have hc3 := HC.out (k2 + 1) hup
          have HQ := Lib.hid (show mainUp f k2 = (FloatKind.f32.format.order (f (k2 + 1)) (f k2) == some .lt || FloatKind.f32.format.order (f (k2 + 1)) (f k2) == some .eq) from rfl)
          cases hle2 : (FloatKind.f32.format.order (f (k2 + 1)) (f k2) == some .lt || FloatKind.f32.format.order (f (k2 + 1)) (f k2) == some .eq) with
          | true =>
            go_wp2
            go_quiet (fail)
            go_wp2
            go_roundw
            case rel => exact ⟨k2 + 1, by omega, hup, by go_num, Lib.hid (by rw [← HE2.out, upEnd_go hup (by rw [HQ.out, hle2])]), _, rfl⟩
            case measure => simp [intOf]; omega
          | false =>
            go_wp2
            go_quiet (fail)
            have HU := Lib.hid (show upEnd (mainUp f) n at0 = k2 from by rw [← HE2.out, upEnd_stop (by rw [HQ.out, hle2])])
            clear hc2 hc3 HQ hle2 HE2
            go_wp2
            go_ret2
            exact ⟨by rw [HL.out, HU.out]; rfl, by first | exact ⟨_, rfl⟩ | exact ⟨_, World.drewN_drewN ..⟩⟩
        · have hup2 : ¬ (k2 : Int) + 1 < n := by omega
          have hd2 : decide ((k2 : Int) + 1 < n) = false := decide_eq_false hup2
          go_wp2
          go_quiet (fail)
          have HU := Lib.hid (show upEnd (mainUp f) n at0 = k2 from by rw [← HE2.out, upEnd_end hup])
          clear hc2 HE2
          go_wp2
          go_ret2
          exact ⟨by rw [HL.out, HU.out]; rfl, by first | exact ⟨_, rfl⟩ | exact ⟨_, World.drewN_drewN ..⟩⟩

set_option maxHeartbeats 2000000 in
theorem mainLobe_any (ad : Option Addr) (n cap at0 : Nat) (f : Nat → Nat) (w : World) (hr : Rd w ad n (fun j => .float .f32 (f j))) (hn : n ≤ 1048576) (hat : at0 < n) :
    Calls Try.prog 40 #[.slice ad n cap, .int .i64 at0] w fun e w' => e = .returned (.tuple #[.int .i64 (lowEnd (mainDown f) at0), .int .i64 (upEnd (mainUp f) n at0)]) ∧ ∃ m, w' = w.drewN m := by
  obtain ⟨b, off, rfl, hb, hc⟩ := hr.at hat
  have HC := Lib.hid hc
  have hat2 : (at0 : Int) < n := by omega
  clear hr hc
  go_enter Try.func40, Try.ntmps40
  go_wp2
  go_loopw [6] (fun i wr => ∃ k : Nat, k ≤ at0 ∧ i = .int .i64 k ∧ Hid (lowEnd (mainDown f) k = lowEnd (mainDown f) at0) ∧ ∃ m, wr = w.drewN m) (fun i _ => (intOf i).toNat)
  case atStart => exact ⟨at0, Nat.le_refl _, rfl, Lib.hid rfl, 0, rfl⟩
  case round =>
    obtain ⟨k, hk, rfl, HE, m, rfl⟩ := hrel
    have hck := HC.out k (by omega)
    by_cases hpos : 0 < k
    · have hpos2 : (0 : Int) < k := by omega
      have hkn : k < n := by omega
      have hkn2 : k - 1 < n := by omega
      have hck2 := HC.out (k - 1) (by omega)
      have HP := Lib.hid (show mainDown f k = (FloatKind.f32.format.order (f (k - 1)) (f k) == some .lt || FloatKind.f32.format.order (f (k - 1)) (f k) == some .eq) from rfl)
      cases hle : (FloatKind.f32.format.order (f (k - 1)) (f k) == some .lt || FloatKind.f32.format.order (f (k - 1)) (f k) == some .eq) with
      | true =>
        go_wp2
        go_quiet (fail)
        go_wp2
        go_roundw
        case rel => exact ⟨k - 1, by omega, by go_num, Lib.hid (by rw [← HE.out, lowEnd_go hpos (by rw [HP.out, hle])]), _, rfl⟩
        case measure => simp [intOf]; omega
      | false =>
        go_wp2
        go_quiet (fail)
        have HL := Lib.hid (show lowEnd (mainDown f) at0 = k from by rw [← HE.out, lowEnd_stop (by rw [HP.out, hle])])
        clear hck hck2 HP hle HE
        go_wp2
        go_loopw [7] (fun i wr => ∃ k2 : Nat, at0 ≤ k2 ∧ k2 < n ∧ i = .int .i64 k2 ∧ Hid (upEnd (mainUp f) n k2 = upEnd (mainUp f) n at0) ∧ ∃ m, wr = w.drewN m) (fun i _ => n - (intOf i).toNat)
        case atStart => exact ⟨at0, Nat.le_refl _, hat, rfl, Lib.hid rfl, by first | exact ⟨_, rfl⟩ | exact ⟨_, World.drewN_drewN ..⟩⟩
        case round =>
          obtain ⟨k2, hk2, hk2n, rfl, HE2, m2, rfl⟩ := hrel
          have hc2 := HC.out k2 hk2n
          by_cases hup : k2 + 1 < n
          · have hup2 : (k2 : Int) + 1 < n := by omega
            have hc3 := HC.out (k2 + 1) hup
            have HQ := Lib.hid (show mainUp f k2 = (FloatKind.f32.format.order (f (k2 + 1)) (f k2) == some .lt || FloatKind.f32.format.order (f (k2 + 1)) (f k2) == some .eq) from rfl)
            cases hle2 : (FloatKind.f32.format.order (f (k2 + 1)) (f k2) == some .lt || FloatKind.f32.format.order (f (k2 + 1)) (f k2) == some .eq) with
            | true =>
              go_wp2
              go_quiet (fail)
              go_wp2
              go_roundw
              case rel => exact ⟨k2 + 1, by omega, hup, by go_num, Lib.hid (by rw [← HE2.out, upEnd_go hup (by rw [HQ.out, hle2])]), _, rfl⟩
              case measure => simp [intOf]; omega
            | false =>
              go_wp2
              go_quiet (fail)
              have HU := Lib.hid (show upEnd (mainUp f) n at0 = k2 from by rw [← HE2.out, upEnd_stop (by rw [HQ.out, hle2])])
              clear hc2 hc3 HQ hle2 HE2
              go_wp2
              go_ret2
              exact ⟨by rw [HL.out, HU.out]; rfl, by first | exact ⟨_, rfl⟩ | exact ⟨_, World.drewN_drewN ..⟩⟩
          · have hup2 : ¬ (k2 : Int) + 1 < n := by omega
            have hd2 : decide ((k2 : Int) + 1 < n) = false := decide_eq_false hup2
            go_wp2
            go_quiet (fail)
            have HU := Lib.hid (show upEnd (mainUp f) n at0 = k2 from by rw [← HE2.out, upEnd_end hup])
            clear hc2 HE2
            go_wp2
            go_ret2
            exact ⟨by rw [HL.out, HU.out]; rfl, by first | exact ⟨_, rfl⟩ | exact ⟨_, World.drewN_drewN ..⟩⟩
    · have hpos2 : ¬ (0 : Int) < k := by omega
      have hd : decide ((0 : Int) < k) = false := decide_eq_false hpos2
      go_wp2
      go_quiet (fail)
      have HL := Lib.hid (show lowEnd (mainDown f) at0 = k from by rw [← HE.out, lowEnd_zero hpos])
      clear hck HE
      go_wp2
      go_loopw [7] (fun i wr => ∃ k2 : Nat, at0 ≤ k2 ∧ k2 < n ∧ i = .int .i64 k2 ∧ Hid (upEnd (mainUp f) n k2 = upEnd (mainUp f) n at0) ∧ ∃ m, wr = w.drewN m) (fun i _ => n - (intOf i).toNat)
      case atStart => exact ⟨at0, Nat.le_refl _, hat, rfl, Lib.hid rfl, by first | exact ⟨_, rfl⟩ | exact ⟨_, World.drewN_drewN ..⟩⟩
      case round =>
        obtain ⟨k2, hk2, hk2n, rfl, HE2, m2, rfl⟩ := hrel
        have hc2 := HC.out k2 hk2n
        by_cases hup : k2 + 1 < n
        · have hup2 : (k2 : Int) + 1 < n := by omega
          have hc3 := HC.out (k2 + 1) hup
          have HQ := Lib.hid (show mainUp f k2 = (FloatKind.f32.format.order (f (k2 + 1)) (f k2) == some .lt || FloatKind.f32.format.order (f (k2 + 1)) (f k2) == some .eq) from rfl)
          cases hle2 : (FloatKind.f32.format.order (f (k2 + 1)) (f k2) == some .lt || FloatKind.f32.format.order (f (k2 + 1)) (f k2) == some .eq) with
          | true =>
            go_wp2
            go_quiet (fail)
            go_wp2
            go_roundw
            case rel => exact ⟨k2 + 1, by omega, hup, by go_num, Lib.hid (by rw [← HE2.out, upEnd_go hup (by rw [HQ.out, hle2])]), _, rfl⟩
            case measure => simp [intOf]; omega
          | false =>
            go_wp2
            go_quiet (fail)
            have HU := Lib.hid (show upEnd (mainUp f) n at0 = k2 from by rw [← HE2.out, upEnd_stop (by rw [HQ.out, hle2])])
            clear hc2 hc3 HQ hle2 HE2
            go_wp2
            go_ret2
            exact ⟨by rw [HL.out, HU.out]; rfl, by first | exact ⟨_, rfl⟩ | exact ⟨_, World.drewN_drewN ..⟩⟩
        · have hup2 : ¬ (k2 : Int) + 1 < n := by omega
          have hd2 : decide ((k2 : Int) + 1 < n) = false := decide_eq_false hup2
          go_wp2
          go_quiet (fail)
          have HU := Lib.hid (show upEnd (mainUp f) n at0 = k2 from by rw [← HE2.out, upEnd_end hup])
          clear hc2 HE2
          go_wp2
          go_ret2
          exact ⟨by rw [HL.out, HU.out]; rfl, by first | exact ⟨_, rfl⟩ | exact ⟨_, World.drewN_drewN ..⟩⟩
end Go.Proofs.Ytjihbkhmkepohaa
