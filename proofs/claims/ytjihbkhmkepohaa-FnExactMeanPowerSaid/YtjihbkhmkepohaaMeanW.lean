/- MeanPower, both, by contracts. -/
import Derived.Test.YtjihbkhmkepohaaRows
import Derived.Test.YtjihbkhmkepohaaNarrow
import Derived.Test.YtjihbkhmkepohaaMem
import Derived.BigQuiet
import Derived.Deep.RegionWith
namespace Go.Proofs.Ytjihbkhmkepohaa
open Go.RowKit Ieee

set_option maxHeartbeats 1000000 in
theorem meanS1 (ad : Option Addr) (n cap : Nat) (f : Nat → Nat) (w : World) (hr : Rd w ad n (fun j => .float .f32 (f j))) (h1 : 1 ≤ n) (h2 : n ≤ 129) :
    Calls Try.prog 11 #[.slice ad n cap] w fun e w' => ∃ r, e = .returned (.tuple #[.float .f32 r, .bool true]) ∧ (∃ m, w' = w.drewN m) ∧ cf .f32 r = nar (dquo (Sm f n) (cf .f64 (floatOfInt .f64 n))) := by
  have HR := Lib.hid hr
  clear hr
  have hb1 : ((1 : Int) ≤ n) := by omega
  have hb2 : ((n : Int) ≤ 129) := by omega
  go_enter Try.func11, Try.ntmps11
  go_wp2
  go_loopw [4, 11] (fun x i wr => ∃ (k : Nat) (xb : Nat), k ≤ n ∧ i = .int .i64 k ∧ x = .float .f64 xb ∧ cf .f64 xb = Sm f k ∧ ∃ m, wr = w.drewN m) (fun _ i _ => n - (intOf i).toNat)
  case atStart => exact ⟨0, 0, Nat.zero_le _, rfl, rfl, rfl, 0, rfl⟩
  case round =>
    obtain ⟨k, xb, hk, rfl, rfl, hx, m, rfl⟩ := hrel
    by_cases hlt : k < n
    · obtain ⟨b, off, rfl, hb, hc⟩ := HR.out.at hlt
      have hck := hc k hlt
      clear hc
      have hcv1 := fun u : World => run_widen (P := Try.prog) 23 28 (by rw [Try.underlying23]; rfl) Try.underlying28 (f k) u
      have hadd := fun (y : Nat) (u : World) => run_arith_any (P := Try.prog) .add (by simp) 28 .f64 xb y u
      go_wp2
      all_goals go_roundw
      all_goals first
        | exact ⟨k + 1, _, by omega, by go_num, rfl, by rw [mb_mcf, mcf_add, hx, wb_cf]; rfl, _, rfl⟩
        | (simp [intOf]; omega)
    · have : k = n := by omega
      subst this
      have HB : ∀ v : World, Bd (cf .f64 (mb .quo .f64 xb (floatOfInt .f64 k) v)) 16777215 := fun v => by
        rw [mb_mcf, mcf_quo]; exact quo_small xb k h1 (by omega) (by rw [hx]; exact Sm_bd f k (by omega))
      have hq := fun u : World => run_arith_any (P := Try.prog) .quo (by simp) 28 .f64 xb (floatOfInt .f64 k) u
      have hn := fun u v : World => run_narrow (P := Try.prog) 28 23 (by rw [Try.underlying28]; rfl) Try.underlying23 _ (HB v) u
      go_wp2
      all_goals go_ret2
      all_goals exact ⟨_, rfl, ⟨_, rfl⟩, by rw [nb_cf _ (HB _), mb_mcf, mcf_quo, hx]⟩

set_option maxHeartbeats 1000000 in
theorem meanS (ad : Option Addr) (n cap : Nat) (f : Nat → Nat) (w : World) (hr : Rd w ad n (fun j => .float .f32 (f j))) (hn : n ≤ 1048576) :
    Calls Try.prog 11 #[.slice ad n cap] w fun e w' => ∃ r, e = .returned (.tuple #[.float .f32 r, .bool (mpOk n)]) ∧ (∃ m, w' = w.drewN m) ∧ cf .f32 r = mpOf f n := by
  unfold mpOf
  by_cases h1 : 1 ≤ n
  · by_cases h2 : n ≤ 129
    · have e : mpOk n = true := decide_eq_true ⟨h1, h2⟩
      rw [e]
      exact meanS1 ad n cap f w hr h1 h2
    · have e : mpOk n = false := decide_eq_false (by omega)
      rw [e]
      clear e hr
      have hb1 : ((1 : Int) ≤ n) := by omega
      have hb2 : ¬ ((n : Int) ≤ 129) := by omega
      go_enter Try.func11, Try.ntmps11
      go_wp2
      all_goals go_ret2
      all_goals exact ⟨_, rfl, ⟨0, (World.drewN_zero _).symm⟩, rfl⟩
  · have e : mpOk n = false := decide_eq_false (by omega)
    rw [e]
    clear e hr
    have hb1 : ¬ ((1 : Int) ≤ n) := by omega
    go_enter Try.func11, Try.ntmps11
    go_wp2
    all_goals go_ret2
    all_goals exact ⟨_, rfl, ⟨0, (World.drewN_zero _).symm⟩, rfl⟩

set_option maxHeartbeats 1000000 in
theorem meanI1 (ad : Option Addr) (n cap : Nat) (f : Nat → Nat) (w : World) (hr : Rd w ad n (fun j => .float .f32 (f j))) (h1 : 1 ≤ n) (h2 : n ≤ 129) :
    Calls Try.prog 13 #[.slice ad n cap] w fun e w' => ∃ r, e = .returned (.tuple #[.float .f32 r, .bool true]) ∧ (∃ m, w' = w.drewN m) ∧ cf .f32 r = nar (dquo (Sm f n) (cf .f64 (floatOfInt .f64 n))) := by
  have HR := Lib.hid hr
  clear hr
  have hb1 : ((1 : Int) ≤ n) := by omega
  have hb2 : ((n : Int) ≤ 129) := by omega
  go_enter Try.func13, Try.ntmps13
  go_wp2
  go_loopw [4, 12] (fun x i wr => ∃ (k : Nat) (xb : Nat), k ≤ n ∧ i = .int .i64 k ∧ x = .float .f64 xb ∧ cf .f64 xb = Sm f k ∧ ∃ m, wr = w.drewN m) (fun _ i _ => n - (intOf i).toNat)
  case atStart => exact ⟨0, 0, Nat.zero_le _, rfl, rfl, rfl, 0, rfl⟩
  case round =>
    obtain ⟨k, xb, hk, rfl, rfl, hx, m, rfl⟩ := hrel
    by_cases hlt : k < n
    · obtain ⟨b, off, rfl, hb, hc⟩ := HR.out.at hlt
      have hck := hc k hlt
      clear hc
      have hcv1 := fun u : World => run_widen (P := Try.prog) 23 28 (by rw [Try.underlying23]; rfl) Try.underlying28 (f k) u
      have hadd := fun (y : Nat) (u : World) => run_arith_any (P := Try.prog) .add (by simp) 28 .f64 xb y u
      go_wp2
      all_goals go_roundw
      all_goals first
        | exact ⟨k + 1, _, by omega, by go_num, rfl, by rw [mb_mcf, mcf_add, hx, wb_cf]; rfl, _, rfl⟩
        | (simp [intOf]; omega)
    · have : k = n := by omega
      subst this
      have HB : ∀ v : World, Bd (cf .f64 (mb .quo .f64 xb (floatOfInt .f64 k) v)) 16777215 := fun v => by
        rw [mb_mcf, mcf_quo]; exact quo_small xb k h1 (by omega) (by rw [hx]; exact Sm_bd f k (by omega))
      have hq := fun u : World => run_arith_any (P := Try.prog) .quo (by simp) 28 .f64 xb (floatOfInt .f64 k) u
      have hn := fun u v : World => run_narrow (P := Try.prog) 28 23 (by rw [Try.underlying28]; rfl) Try.underlying23 _ (HB v) u
      go_wp2
      all_goals go_ret2
      all_goals exact ⟨_, rfl, ⟨_, rfl⟩, by rw [nb_cf _ (HB _), mb_mcf, mcf_quo, hx]⟩

set_option maxHeartbeats 1000000 in
theorem meanI (ad : Option Addr) (n cap : Nat) (f : Nat → Nat) (w : World) (hr : Rd w ad n (fun j => .float .f32 (f j))) (hn : n ≤ 1048576) :
    Calls Try.prog 13 #[.slice ad n cap] w fun e w' => ∃ r, e = .returned (.tuple #[.float .f32 r, .bool (mpOk n)]) ∧ (∃ m, w' = w.drewN m) ∧ cf .f32 r = mpOf f n := by
  unfold mpOf
  by_cases h1 : 1 ≤ n
  · by_cases h2 : n ≤ 129
    · have e : mpOk n = true := decide_eq_true ⟨h1, h2⟩
      rw [e]
      exact meanI1 ad n cap f w hr h1 h2
    · have e : mpOk n = false := decide_eq_false (by omega)
      rw [e]
      clear e hr
      have hb1 : ((1 : Int) ≤ n) := by omega
      have hb2 : ¬ ((n : Int) ≤ 129) := by omega
      go_enter Try.func13, Try.ntmps13
      go_wp2
      all_goals go_ret2
      all_goals exact ⟨_, rfl, ⟨0, (World.drewN_zero _).symm⟩, rfl⟩
  · have e : mpOk n = false := decide_eq_false (by omega)
    rw [e]
    clear e hr
    have hb1 : ¬ ((1 : Int) ≤ n) := by omega
    go_enter Try.func13, Try.ntmps13
    go_wp2
    all_goals go_ret2
    all_goals exact ⟨_, rfl, ⟨0, (World.drewN_zero _).symm⟩, rfl⟩

theorem meanS_b (ad : Option Addr) (n cap : Nat) (f : Nat → Nat) (w : World) (hr : Rd w ad n (fun j => .float .f32 (f j))) (hn : n ≤ 1048576) (b : Bool) (hb : mpOk n = b) :
    Calls Try.prog 11 #[.slice ad n cap] w fun e w' => ∃ r, e = .returned (.tuple #[.float .f32 r, .bool b]) ∧ (∃ m, w' = w.drewN m) ∧ cf .f32 r = mpOf f n := by
  subst hb
  exact meanS ad n cap f w hr hn

theorem meanI_b (ad : Option Addr) (n cap : Nat) (f : Nat → Nat) (w : World) (hr : Rd w ad n (fun j => .float .f32 (f j))) (hn : n ≤ 1048576) (b : Bool) (hb : mpOk n = b) :
    Calls Try.prog 13 #[.slice ad n cap] w fun e w' => ∃ r, e = .returned (.tuple #[.float .f32 r, .bool b]) ∧ (∃ m, w' = w.drewN m) ∧ cf .f32 r = mpOf f n := by
  subst hb
  exact meanI ad n cap f w hr hn
end Go.Proofs.Ytjihbkhmkepohaa
