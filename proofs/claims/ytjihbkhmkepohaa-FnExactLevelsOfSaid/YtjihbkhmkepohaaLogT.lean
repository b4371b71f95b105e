/- The tenths of decibels, both, by contracts. -/
import Derived.Test.YtjihbkhmkepohaaLogI
import Derived.Test.YtjihbkhmkepohaaLogS
import Derived.Laws.Externs
namespace Go.Proofs.Ytjihbkhmkepohaa
open Go.RowKit Ieee

theorem arch_form : ∃ X : Nat → Bool → Nat → Sem Value, ∀ t, Extern.MathFloor.toIntegral "math.archFloor" .down #[.float .f64 t] = (match FloatKind.f64.decode t with | .nan s q => X t s q | d => pure (.float .f64 (FloatKind.f64.encode (d.integral .down)))) := ⟨_, fun _ => rfl⟩

theorem run_arch (t : Nat) (h : ∃ s m p, FloatKind.f64.decode t = .number s m p) (u : World) : (callFunc 58 #[.float .f64 t]).run Try.prog u = .ok (.value (.float .f64 (flB t))) u := by
  rw [run_callFunc_extern (e := Extern.MathFloor.toIntegral "math.archFloor" .down) Try.func58 (by kernel_rfl) (by kernel_rfl) (by kernel_rfl) (by kernel_rfl)]
  obtain ⟨s, m, p, hd⟩ := h
  have e : Extern.MathFloor.toIntegral "math.archFloor" .down #[.float .f64 t] = pure (.float .f64 (flB t)) := by
    obtain ⟨X, hX⟩ := arch_form
    rw [hX]
    unfold flB
    rw [hd]
  rw [e]
  rfl

set_option maxHeartbeats 1000000 in
theorem floorS (t : Nat) (h : ∃ s m p, FloatKind.f64.decode t = .number s m p) (w : World) :
    Calls Try.prog 52 #[.float .f64 t] w fun e w' => e = .returned (.float .f64 (flB t)) ∧ w = w' := by
  have e1 := run_arch t h
  generalize flB t = f at *
  clear h
  go_enter Try.func52, Try.ntmps52
  go_wp2
  all_goals go_ret
  all_goals exact ⟨rfl, rfl⟩

theorem fin_mb (b : Nat) (u : World) : (FloatKind.f32.format.order (mb .sub .f32 b b u) 0 == some .eq) = finB b := by
  rw [order_cf, mb_mcf]; rfl

set_option maxHeartbeats 1000000 in
theorem isFiniteI (b : Nat) (w : World) :
    Calls Try.prog 53 #[.float .f32 b] w fun e w' => e = .returned (.bool (finB b)) ∧ ∃ m, w' = w.drewN m := by
  have q := fun u : World => run_arith_any (P := Try.prog) .sub (by simp) 23 .f32 b b u
  have f := fin_mb b
  generalize finB b = F at *
  go_enter Try.func53, Try.ntmps53
  go_wp2
  all_goals go_ret
  all_goals exact ⟨rfl, _, rfl⟩

set_option maxHeartbeats 1000000 in
theorem finiteS (b : Nat) (w : World) :
    Calls Try.prog 50 #[.float .f32 b] w fun e w' => e = .returned (.bool (finB b)) ∧ ∃ m, w' = w.drewN m := by
  have q := fun u : World => run_arith_any (P := Try.prog) .sub (by simp) 23 .f32 b b u
  have f := fin_mb b
  generalize finB b = F at *
  go_enter Try.func50, Try.ntmps50
  go_wp2
  all_goals go_ret
  all_goals exact ⟨rfl, _, rfl⟩

theorem order_fin {b : Nat} (h : finB b = true) (h2 : (FloatKind.f32.format.order b 0 == some .gt) = false) : (FloatKind.f32.format.order b 0 == some .lt || FloatKind.f32.format.order b 0 == some .eq) = true := by
  obtain ⟨s, m, p, hd⟩ := finB_number h
  have hc : cf .f32 b = .number s m p := by unfold cf; rw [hd]; rfl
  obtain ⟨_, q1, q2⟩ := read_single (show Ieee.single.read b = .number s m p from hd)
  rw [order_cf, zero32, hc, order_numbers _ _ _ _ _ _ (by omega) (by omega)] at h2 ⊢
  generalize compare (signed s (m * 2 ^ (p + eL).toNat) 0) (signed false (0 * 2 ^ ((-149 : Int) + eL).toNat) 0) = c at *
  cases c <;> simp_all
theorem order_posB {b : Nat} (h : posB b = true) : finB b = true ∧ (FloatKind.f32.format.order b 0 == some .gt) = true ∧ (FloatKind.f32.format.order b 0 == some .lt || FloatKind.f32.format.order b 0 == some .eq) = false := by
  unfold posB at h
  rw [Bool.and_eq_true] at h
  refine ⟨h.1, h.2, ?_⟩
  have h2 := h.2
  generalize FloatKind.f32.format.order b 0 = c at *
  cases c with
  | none => simp
  | some c => cases c <;> simp_all

set_option maxHeartbeats 1000000 in
theorem positiveS (b : Nat) (w : World) :
    Calls Try.prog 46 #[.float .f32 b] w fun e w' => e = .returned (.bool (posB b)) ∧ ∃ m, w' = w.drewN m := by
  have cF := fun u => finiteS b u
  unfold posB
  cases hf : finB b with
  | true =>
    rw [hf] at cF
    cases hg : (FloatKind.f32.format.order b 0 == some .gt) with
    | true =>
      go_enter Try.func46, Try.ntmps46
      go_wp2_with (go_at_call 50; refine (cF _).mono ?_; rintro e w' ⟨rfl, m, rfl⟩)
      all_goals go_ret
      all_goals exact ⟨rfl, _, rfl⟩
    | false =>
      go_enter Try.func46, Try.ntmps46
      go_wp2_with (go_at_call 50; refine (cF _).mono ?_; rintro e w' ⟨rfl, m, rfl⟩)
      all_goals go_ret
      all_goals exact ⟨rfl, _, rfl⟩
  | false =>
    rw [hf] at cF
    go_enter Try.func46, Try.ntmps46
    go_wp2_with (go_at_call 50; refine (cF _).mono ?_; rintro e w' ⟨rfl, m, rfl⟩)
    all_goals go_ret
    all_goals exact ⟨rfl, _, rfl⟩

theorem run_wX {P : Program} {b : Nat} (h : posB b = true) (src dst : TypeId) (hs : (P.underlying src).isSome = true) (hd : P.underlying dst = some (.float .f64)) (u : World) :
    (convert src dst (.float .f32 b)).run P u = .ok (.float .f64 (wX b)) u := by
  rw [run_widen src dst hs hd b u]
  have e := (wX_pw h).1
  have e1 : wb b u = wX b := by unfold wb; rw [e]; rfl
  have e2 : wn b = 0 := by unfold wn; rw [e]; rfl
  rw [e1, e2, World.drewN_zero]

/-- What is behind the logarithm. -/
theorem lev_runs {b : Nat} (h : posB b = true) : Bp (cf .f64 (logB b)) 42 := by
  obtain ⟨_, h2, h3⟩ := log_all h
  exact (ln_all h2 _ h3).2.2.2.2.2.2.2.2.2

set_option maxHeartbeats 1000000 in
theorem tenthsI_yes (b : Nat) (h : posB b = true) (w : World) :
    Calls Try.prog 49 #[.float .f32 b] w fun e w' => e = .returned (.tuple #[.int .i64 (lev b), .bool true]) ∧ ∃ m, w' = w.drewN m := by
  obtain ⟨o1, o2, o3⟩ := order_posB h
  have cF := fun u => isFiniteI b u
  rw [o1] at cF
  have cv := run_wX (P := Try.prog) h 23 28 (by rw [Try.underlying23]; rfl) Try.underlying28
  have cN : ∀ u, Calls Try.prog 54 #[.float .f64 (wX b)] u fun e w' => e = .returned (.float .f64 (logB b)) ∧ u = w' := fun u => naturalLogI (wX b) (wX_pw h).2.2 (log_all h) u
  have hL := lev_runs h
  obtain ⟨a1, a2, a3⟩ := lnT_all hL
  have r1 := run_fB (P := Try.prog) a1 28
  have r2 := run_fB (P := Try.prog) a2 28
  have cL := fun u => floorS (lnT (logB b)) (flB_all a3).1 u
  have cI : ∀ u, (convert 28 2 (.float .f64 (flB (lnT (logB b))))).run Try.prog u = .ok (.int .i64 (lev b)) u := fun u => run_convert_float_int u 28 2 .f64 .i64 _ _ (by rw [Try.underlying28]; rfl) Try.underlying2 (tenB_all hL).1
  clear a1 a2 a3 hL o1 o2 h
  generalize flB (lnT (logB b)) = x1 at *
  generalize lnT (logB b) = x2 at *
  generalize lnM (logB b) = x3 at *
  generalize lev b = V at *
  generalize logB b = x4 at *
  generalize wX b = x5 at *
  go_enter Try.func49, Try.ntmps49
  go_wp2_with (first | (go_at_call 53; refine (cF _).mono ?_; rintro e w' ⟨rfl, m, rfl⟩) | (go_at_call 54; refine (cN _).mono ?_; rintro e w' ⟨rfl, rfl⟩) | (go_at_call 52; refine (cL _).mono ?_; rintro e w' ⟨rfl, rfl⟩))
  all_goals go_ret2
  all_goals exact ⟨rfl, _, rfl⟩

set_option maxHeartbeats 1000000 in
theorem tenthsI_no (b : Nat) (h : posB b = false) (w : World) :
    Calls Try.prog 49 #[.float .f32 b] w fun e w' => e = .returned (.tuple #[.int .i64 0, .bool false]) ∧ ∃ m, w' = w.drewN m := by
  have cF := fun u => isFiniteI b u
  cases hf : finB b with
  | true =>
    have hg : (FloatKind.f32.format.order b 0 == some .gt) = false := by unfold posB at h; rw [hf] at h; simpa using h
    have hle := order_fin hf hg
    rw [hf] at cF
    clear hg hf h
    go_enter Try.func49, Try.ntmps49
    go_wp2_with (first | (go_at_call 53; refine (cF _).mono ?_; rintro e w' ⟨rfl, m, rfl⟩))
    all_goals go_ret2
    all_goals exact ⟨rfl, _, rfl⟩
  | false =>
    rw [hf] at cF
    clear hf h
    go_enter Try.func49, Try.ntmps49
    go_wp2_with (first | (go_at_call 53; refine (cF _).mono ?_; rintro e w' ⟨rfl, m, rfl⟩))
    all_goals go_ret2
    all_goals exact ⟨rfl, _, rfl⟩

set_option maxHeartbeats 1000000 in
theorem tenthsS (b : Nat) (h : posB b = true) (w : World) :
    Calls Try.prog 47 #[.float .f32 b] w fun e w' => e = .returned (.int .i64 (lev b)) ∧ w = w' := by
  have cv := run_wX (P := Try.prog) h 23 28 (by rw [Try.underlying23]; rfl) Try.underlying28
  have cN : ∀ u, Calls Try.prog 51 #[.float .f64 (wX b)] u fun e w' => e = .returned (.float .f64 (logB b)) ∧ u = w' := fun u => logWideS (wX b) (wX_pw h).2.2 (log_all h) u
  have hL := lev_runs h
  obtain ⟨a1, a2, a3⟩ := lnT_all hL
  have r1 := run_fB (P := Try.prog) a1 28
  have r2 := run_fB (P := Try.prog) a2 28
  have cL := fun u => floorS (lnT (logB b)) (flB_all a3).1 u
  have cI : ∀ u, (convert 28 2 (.float .f64 (flB (lnT (logB b))))).run Try.prog u = .ok (.int .i64 (lev b)) u := fun u => run_convert_float_int u 28 2 .f64 .i64 _ _ (by rw [Try.underlying28]; rfl) Try.underlying2 (tenB_all hL).1
  clear a1 a2 a3 hL h
  generalize flB (lnT (logB b)) = x1 at *
  generalize lnT (logB b) = x2 at *
  generalize lnM (logB b) = x3 at *
  generalize lev b = V at *
  generalize logB b = x4 at *
  generalize wX b = x5 at *
  go_enter Try.func47, Try.ntmps47
  go_wp2_with (first | (go_at_call 51; refine (cN _).mono ?_; rintro e w' ⟨rfl, rfl⟩) | (go_at_call 52; refine (cL _).mono ?_; rintro e w' ⟨rfl, rfl⟩))
  all_goals go_ret
  all_goals exact ⟨rfl, rfl⟩
end Go.Proofs.Ytjihbkhmkepohaa
