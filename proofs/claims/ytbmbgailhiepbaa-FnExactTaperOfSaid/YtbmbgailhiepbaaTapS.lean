/- The reference's TaperOf, by its contract. -/
import Derived.Test.YtbmbgailhiepbaaTapW
import Derived.Test.YtbmbgailhiepbaaPhS
namespace Go.Proofs.Ytbmbgailhiepbaa
open Go.RowKit Ieee

theorem maxS (a b : Int) (w : World) :
    Calls Try.prog 45 #[.int .i64 a, .int .i64 b] w fun e w' => e = .returned (.int .i64 (max a b)) ∧ w = w' := by
  rcases Int.lt_trichotomy a b with h | h | h
  · have h2 : ¬ b < a := by omega
    rw [show max a b = b by omega]
    go_enter Try.func45, Try.ntmps45
    go_wp2
    all_goals go_ret
    all_goals exact ⟨rfl, rfl⟩
  · subst h
    have h2 : ¬ a < a := by omega
    rw [show max a a = a by omega]
    go_enter Try.func45, Try.ntmps45
    go_wp2
    all_goals go_ret
    all_goals exact ⟨rfl, rfl⟩
  · have h2 : ¬ a < b := by omega
    rw [show max a b = a by omega]
    go_enter Try.func45, Try.ntmps45
    go_wp2
    all_goals go_ret
    all_goals exact ⟨rfl, rfl⟩
theorem minS (a b : Int) (w : World) :
    Calls Try.prog 46 #[.int .i64 a, .int .i64 b] w fun e w' => e = .returned (.int .i64 (min a b)) ∧ w = w' := by
  rcases Int.lt_trichotomy a b with h | h | h
  · have h2 : ¬ b < a := by omega
    rw [show min a b = a by omega]
    go_enter Try.func46, Try.ntmps46
    go_wp2
    all_goals go_ret
    all_goals exact ⟨rfl, rfl⟩
  · subst h
    have h2 : ¬ a < a := by omega
    rw [show min a a = a by omega]
    go_enter Try.func46, Try.ntmps46
    go_wp2
    all_goals go_ret
    all_goals exact ⟨rfl, rfl⟩
  · have h2 : ¬ a < b := by omega
    rw [show min a b = b by omega]
    go_enter Try.func46, Try.ntmps46
    go_wp2
    all_goals go_ret
    all_goals exact ⟨rfl, rfl⟩

set_option maxRecDepth 100000 in
set_option maxHeartbeats 2000000 in
theorem taperS0 (n : Nat) (hn : n < 17) (h1 : 1 ≤ n) (w : World) :
    Calls Try.prog 13 #[.int .i64 0, .int .i64 n] w fun e w' => ∃ v, e = .returned (.tuple #[v, .bool true]) ∧ Own w' w.heap.size w'.heap.size 22 v n (fun _j => .float .f32 (1065353216)) ∧ Below w.heap.size w w' := by
  have hn1 : (1 : Int) ≤ n := by omega
  have hn2 : (n : Int) ≤ 16 := by omega
  have HC := Lib.hid (ch_all n hn h1).2
  obtain ⟨i0, hi, hz0, hz1, hz2⟩ := info_parts info_float
  go_enter Try.func13, Try.ntmps13
  go_wp2_with (first | (go_at_call 36; refine (inS_yes _ _ _ (by omega) (by omega) _).mono ?_; rintro e w' ⟨rfl, rfl⟩))
  go_loopw [7, 8, 9] (fun c m i wr => ∃ k : Nat, k < n ∧ i = .int .i64 ((k : Int) + 1) ∧ c = .int .i64 (ch n k) ∧ m = .int .i64 (mx n k) ∧ wr = w.alloc (.cells #[] 22)) (fun _ _ i _ => n + 1 - (intOf i).toNat)
  case atStart => exact ⟨0, by omega, rfl, rfl, rfl, rfl⟩
  case round =>
    obtain ⟨k, hk, rfl, rfl, rfl, rfl⟩ := hrel
    by_cases hlt : k + 1 < n
    · have hlt' : (k : Int) + 1 < n := by omega
      obtain ⟨c1, c2, c3, c4, _⟩ := HC.out k hk
      have hstep : ch n (k + 1) = ch n k * ((n : Int) - 1 - (k : Int)) / ((k : Int) + 1) := rfl
      rw [show (n : Int) - 1 - (k : Int) = (n : Int) - ((k : Int) + 1) by omega] at hstep c3 c4
      have hmx : mx n (k + 1) = max (mx n k) (ch n (k + 1)) := rfl
      generalize hX : ch n (k + 1) = X at hstep hmx
      have HX := Lib.hid hX
      clear hX
      have HM := Lib.hid hmx
      clear hmx
      generalize ch n k = Y at *
      generalize hZ : Y * ((n : Int) - ((k : Int) + 1)) = Z at *
      go_wp2_with (go_at_call 45; refine (maxS _ _ _).mono ?_; rintro e w' ⟨rfl, rfl⟩)
      all_goals go_roundw
      case rel => exact ⟨k + 1, by omega, by go_num, by rw [HX.out, hstep], by rw [HM.out, hstep], by first | rfl | trivial⟩
      case measure => simp [intOf]; omega
    · have hk2 : k = n - 1 := by omega
      have hnk : (k : Int) + 1 = n := by omega
      have hge : ¬ (k : Int) + 1 < n := by omega
      subst hk2
      go_wp2
      go_loopw [6, 10] (fun v i wr => ∃ j : Nat, j ≤ n ∧ i = .int .i64 j ∧ Hid (Own wr w.heap.size wr.heap.size 22 v j (fun _j => .float .f32 (1065353216))) ∧ Hid (Below w.heap.size w wr)) (fun _ i _ => n - (intOf i).toNat)
      case atStart => exact ⟨0, Nat.zero_le _, rfl, Lib.hid (Own.empty _ _ _), Lib.hid (below_alloc _ _)⟩
      case round =>
        obtain ⟨j, hj, rfl, HOW, HBW⟩ := hrel
        by_cases hlt : j < n
        · have hlt' : (j : Int) < n := by omega
          go_wp2_with (first | (at_builtin; refine wpList_push _ rfl _ _ 31 rfl 22 i0 (.float .f32 0) 4 Try.underlying31 hi hz0 hz1 hz2 rfl (by omega) _ (.float .f32 1065353216) j _ _ _ (fun _j => .float .f32 (1065353216)) rfl rfl (by exact HOW.out) (fun q hq => rfl) rfl rfl (by omega) (by exact HBW.out.size) ?_; intro v' w2 ho2 hb2; have HO2 := Lib.hid ho2; have HB2 := Lib.hid hb2; clear ho2 hb2))
          go_wp2
          go_roundw
          case rel => exact ⟨j + 1, by omega, by go_num, HO2, Lib.hid (HBW.out.trans HB2.out)⟩
          case measure => simp [intOf]; omega
        · have : j = n := by omega
          subst this
          go_wp2
          go_ret2
          exact ⟨_, rfl, HOW.out, HBW.out⟩

set_option maxRecDepth 100000 in
set_option maxHeartbeats 2000000 in
theorem taperS1 (n : Nat) (hn : n < 17) (h1 : 1 ≤ n) (w : World) :
    Calls Try.prog 13 #[.int .i64 1, .int .i64 n] w fun e w' => ∃ v, e = .returned (.tuple #[v, .bool true]) ∧ Own w' w.heap.size w'.heap.size 22 v n (fun j => .float .f32 (e1 n j)) ∧ Below w.heap.size w w' := by
  have hn1 : (1 : Int) ≤ n := by omega
  have hn2 : (n : Int) ≤ 16 := by omega
  have HC := Lib.hid (ch_all n hn h1).2
  obtain ⟨i0, hi, hz0, hz1, hz2⟩ := info_parts info_float
  go_enter Try.func13, Try.ntmps13
  go_wp2_with (first | (go_at_call 36; refine (inS_yes _ _ _ (by omega) (by omega) _).mono ?_; rintro e w' ⟨rfl, rfl⟩))
  go_loopw [7, 8, 9] (fun c m i wr => ∃ k : Nat, k < n ∧ i = .int .i64 ((k : Int) + 1) ∧ c = .int .i64 (ch n k) ∧ m = .int .i64 (mx n k) ∧ wr = w.alloc (.cells #[] 22)) (fun _ _ i _ => n + 1 - (intOf i).toNat)
  case atStart => exact ⟨0, by omega, rfl, rfl, rfl, rfl⟩
  case round =>
    obtain ⟨k, hk, rfl, rfl, rfl, rfl⟩ := hrel
    by_cases hlt : k + 1 < n
    · have hlt' : (k : Int) + 1 < n := by omega
      obtain ⟨c1, c2, c3, c4, _⟩ := HC.out k hk
      have hstep : ch n (k + 1) = ch n k * ((n : Int) - 1 - (k : Int)) / ((k : Int) + 1) := rfl
      rw [show (n : Int) - 1 - (k : Int) = (n : Int) - ((k : Int) + 1) by omega] at hstep c3 c4
      have hmx : mx n (k + 1) = max (mx n k) (ch n (k + 1)) := rfl
      generalize hX : ch n (k + 1) = X at hstep hmx
      have HX := Lib.hid hX
      clear hX
      have HM := Lib.hid hmx
      clear hmx
      generalize ch n k = Y at *
      generalize hZ : Y * ((n : Int) - ((k : Int) + 1)) = Z at *
      go_wp2_with (go_at_call 45; refine (maxS _ _ _).mono ?_; rintro e w' ⟨rfl, rfl⟩)
      all_goals go_roundw
      case rel => exact ⟨k + 1, by omega, by go_num, by rw [HX.out, hstep], by rw [HM.out, hstep], by first | rfl | trivial⟩
      case measure => simp [intOf]; omega
    · have hk2 : k = n - 1 := by omega
      have hnk : (k : Int) + 1 = n := by omega
      have hge : ¬ (k : Int) + 1 < n := by omega
      subst hk2
      go_wp2
      go_loopw [6, 10] (fun v i wr => ∃ j : Nat, j ≤ n ∧ i = .int .i64 j ∧ Hid (Own wr w.heap.size wr.heap.size 22 v j (fun j => .float .f32 (e1 n j))) ∧ Hid (Below w.heap.size w wr)) (fun _ i _ => n - (intOf i).toNat)
      case atStart => exact ⟨0, Nat.zero_le _, rfl, Lib.hid (Own.empty _ _ _), Lib.hid (below_alloc _ _)⟩
      case round =>
        obtain ⟨j, hj, rfl, HOW, HBW⟩ := hrel
        by_cases hlt : j < n
        · have hlt' : (j : Int) < n := by omega
          obtain ⟨q1, q2, _⟩ := e1_all n hn h1 j hlt
          have r1 := fun u : World => run_float_arith (P := Try.prog) u .mul 22 .f32 _ _ _ q1
          have r2 := fun u : World => run_float_arith (P := Try.prog) u .quo 22 .f32 _ _ _ q2
          clear q1 q2
          generalize gB .mul 1073741824 (floatOfInt .f32 (min ((j : Int) + 1) ((n : Int) - (j : Int)))) = M at *
          generalize hE : e1 n j = E at *
          have HE := Lib.hid hE
          clear hE
          go_wp2_with (first | (go_at_call 46; refine (minS _ _ _).mono ?_; rintro e w' ⟨rfl, rfl⟩) | (at_builtin; refine wpList_push _ rfl _ _ 31 rfl 22 i0 (.float .f32 0) 4 Try.underlying31 hi hz0 hz1 hz2 rfl (by omega) _ (.float .f32 E) j _ _ _ (fun j => .float .f32 (e1 n j)) rfl rfl (by exact HOW.out) (fun q hq => rfl) (by have := HE.out; show Value.float .f32 (e1 n j) = _; rw [this]) rfl (by omega) (by exact HBW.out.size) ?_; intro v' w2 ho2 hb2; have HO2 := Lib.hid ho2; have HB2 := Lib.hid hb2; clear ho2 hb2))
          go_wp2
          go_roundw
          case rel => exact ⟨j + 1, by omega, by go_num, HO2, Lib.hid (HBW.out.trans HB2.out)⟩
          case measure => simp [intOf]; omega
        · have : j = n := by omega
          subst this
          go_wp2
          go_ret2
          exact ⟨_, rfl, HOW.out, HBW.out⟩

set_option maxRecDepth 100000 in
set_option maxHeartbeats 2000000 in
theorem taperS2 (n : Nat) (hn : n < 17) (h1 : 1 ≤ n) (w : World) :
    Calls Try.prog 13 #[.int .i64 2, .int .i64 n] w fun e w' => ∃ v, e = .returned (.tuple #[v, .bool true]) ∧ Own w' w.heap.size w'.heap.size 22 v n (fun j => .float .f32 (e2 n j)) ∧ Below w.heap.size w w' := by
  have hn1 : (1 : Int) ≤ n := by omega
  have hn2 : (n : Int) ≤ 16 := by omega
  have HC := Lib.hid (ch_all n hn h1).2
  obtain ⟨i0, hi, hz0, hz1, hz2⟩ := info_parts info_float
  go_enter Try.func13, Try.ntmps13
  go_wp2_with (first | (go_at_call 36; refine (inS_yes _ _ _ (by omega) (by omega) _).mono ?_; rintro e w' ⟨rfl, rfl⟩))
  go_loopw [7, 8, 9] (fun c m i wr => ∃ k : Nat, k < n ∧ i = .int .i64 ((k : Int) + 1) ∧ c = .int .i64 (ch n k) ∧ m = .int .i64 (mx n k) ∧ wr = w.alloc (.cells #[] 22)) (fun _ _ i _ => n + 1 - (intOf i).toNat)
  case atStart => exact ⟨0, by omega, rfl, rfl, rfl, rfl⟩
  case round =>
    obtain ⟨k, hk, rfl, rfl, rfl, rfl⟩ := hrel
    by_cases hlt : k + 1 < n
    · have hlt' : (k : Int) + 1 < n := by omega
      obtain ⟨c1, c2, c3, c4, _⟩ := HC.out k hk
      have hstep : ch n (k + 1) = ch n k * ((n : Int) - 1 - (k : Int)) / ((k : Int) + 1) := rfl
      rw [show (n : Int) - 1 - (k : Int) = (n : Int) - ((k : Int) + 1) by omega] at hstep c3 c4
      have hmx : mx n (k + 1) = max (mx n k) (ch n (k + 1)) := rfl
      generalize hX : ch n (k + 1) = X at hstep hmx
      have HX := Lib.hid hX
      clear hX
      have HM := Lib.hid hmx
      clear hmx
      generalize ch n k = Y at *
      generalize hZ : Y * ((n : Int) - ((k : Int) + 1)) = Z at *
      go_wp2_with (go_at_call 45; refine (maxS _ _ _).mono ?_; rintro e w' ⟨rfl, rfl⟩)
      all_goals go_roundw
      case rel => exact ⟨k + 1, by omega, by go_num, by rw [HX.out, hstep], by rw [HM.out, hstep], by first | rfl | trivial⟩
      case measure => simp [intOf]; omega
    · have hk2 : k = n - 1 := by omega
      have hnk : (k : Int) + 1 = n := by omega
      have hge : ¬ (k : Int) + 1 < n := by omega
      subst hk2
      go_wp2
      go_loopw [6, 10, 11] (fun v i _ wr => ∃ j : Nat, j ≤ n ∧ i = .int .i64 j ∧ Hid (Own wr w.heap.size wr.heap.size 22 v j (fun j => .float .f32 (e2 n j))) ∧ Hid (Below w.heap.size w wr)) (fun _ i _ _ => n - (intOf i).toNat)
      case atStart => exact ⟨0, Nat.zero_le _, rfl, Lib.hid (Own.empty _ _ _), Lib.hid (below_alloc _ _)⟩
      case round =>
        obtain ⟨j, hj, rfl, HOW, HBW⟩ := hrel
        by_cases hlt : j < n
        · have hlt' : (j : Int) < n := by omega
          obtain ⟨_, q1, q3, _⟩ := e2_all n j hn hlt
          obtain ⟨t1, t2⟩ := tB_all n j hn hlt
          have r1 := fun u : World => run_float_arith (P := Try.prog) u .mul 22 .f32 _ _ _ q1
          have r2 := fun u : World => run_float_arith (P := Try.prog) u .sub 22 .f32 _ _ _ q3
          have r3 := run_fB (P := Try.prog) t1 63
          have cP := fun u => phasorS _ t2 u
          clear q1 q3 t1 t2
          generalize gB .mul 1056964608 (phR (tB n j)) = M at *
          generalize phR (tB n j) = R at *
          generalize phI (tB n j) = I at *
          generalize tB n j = T at *
          generalize hE : e2 n j = E at *
          have HE := Lib.hid hE
          clear hE
          go_wp2_with (first | (go_at_call 47; refine (cP _).mono ?_; rintro e w' ⟨rfl, rfl⟩) | (at_builtin; refine wpList_push _ rfl _ _ 31 rfl 22 i0 (.float .f32 0) 4 Try.underlying31 hi hz0 hz1 hz2 rfl (by omega) _ (.float .f32 E) j _ _ _ (fun j => .float .f32 (e2 n j)) rfl rfl (by exact HOW.out) (fun q hq => rfl) (by have := HE.out; show Value.float .f32 (e2 n j) = _; rw [this]) rfl (by omega) (by exact HBW.out.size) ?_; intro v' w2 ho2 hb2; have HO2 := Lib.hid ho2; have HB2 := Lib.hid hb2; clear ho2 hb2))
          go_wp2
          go_roundw
          case rel => exact ⟨j + 1, by omega, by go_num, HO2, Lib.hid (HBW.out.trans HB2.out)⟩
          case measure => simp [intOf]; omega
        · have : j = n := by omega
          subst this
          go_wp2
          go_ret2
          exact ⟨_, rfl, HOW.out, HBW.out⟩

set_option maxRecDepth 100000 in
set_option maxHeartbeats 2000000 in
theorem taperS3 (n : Nat) (hn : n < 17) (h1 : 1 ≤ n) (w : World) :
    Calls Try.prog 13 #[.int .i64 3, .int .i64 n] w fun e w' => ∃ v, e = .returned (.tuple #[v, .bool true]) ∧ Own w' w.heap.size w'.heap.size 22 v n (fun j => .float .f32 (e3 n j)) ∧ Below w.heap.size w w' := by
  have hn1 : (1 : Int) ≤ n := by omega
  have hn2 : (n : Int) ≤ 16 := by omega
  have HC := Lib.hid (ch_all n hn h1).2
  obtain ⟨i0, hi, hz0, hz1, hz2⟩ := info_parts info_float
  go_enter Try.func13, Try.ntmps13
  go_wp2_with (first | (go_at_call 36; refine (inS_yes _ _ _ (by omega) (by omega) _).mono ?_; rintro e w' ⟨rfl, rfl⟩))
  go_loopw [7, 8, 9] (fun c m i wr => ∃ k : Nat, k < n ∧ i = .int .i64 ((k : Int) + 1) ∧ c = .int .i64 (ch n k) ∧ m = .int .i64 (mx n k) ∧ wr = w.alloc (.cells #[] 22)) (fun _ _ i _ => n + 1 - (intOf i).toNat)
  case atStart => exact ⟨0, by omega, rfl, rfl, rfl, rfl⟩
  case round =>
    obtain ⟨k, hk, rfl, rfl, rfl, rfl⟩ := hrel
    by_cases hlt : k + 1 < n
    · have hlt' : (k : Int) + 1 < n := by omega
      obtain ⟨c1, c2, c3, c4, _⟩ := HC.out k hk
      have hstep : ch n (k + 1) = ch n k * ((n : Int) - 1 - (k : Int)) / ((k : Int) + 1) := rfl
      rw [show (n : Int) - 1 - (k : Int) = (n : Int) - ((k : Int) + 1) by omega] at hstep c3 c4
      have hmx : mx n (k + 1) = max (mx n k) (ch n (k + 1)) := rfl
      generalize hX : ch n (k + 1) = X at hstep hmx
      have HX := Lib.hid hX
      clear hX
      have HM := Lib.hid hmx
      clear hmx
      generalize ch n k = Y at *
      generalize hZ : Y * ((n : Int) - ((k : Int) + 1)) = Z at *
      go_wp2_with (go_at_call 45; refine (maxS _ _ _).mono ?_; rintro e w' ⟨rfl, rfl⟩)
      all_goals go_roundw
      case rel => exact ⟨k + 1, by omega, by go_num, by rw [HX.out, hstep], by rw [HM.out, hstep], by first | rfl | trivial⟩
      case measure => simp [intOf]; omega
    · have hk2 : k = n - 1 := by omega
      have hnk : (k : Int) + 1 = n := by omega
      have hge : ¬ (k : Int) + 1 < n := by omega
      subst hk2
      go_wp2
      go_loopw [6, 7, 10] (fun v c i wr => ∃ j : Nat, j ≤ n ∧ i = .int .i64 j ∧ c = .int .i64 (ch n j) ∧ Hid (Own wr w.heap.size wr.heap.size 22 v j (fun j => .float .f32 (e3 n j))) ∧ Hid (Below w.heap.size w wr)) (fun _ _ i _ => n - (intOf i).toNat)
      case atStart => exact ⟨0, Nat.zero_le _, rfl, rfl, Lib.hid (Own.empty _ _ _), Lib.hid (below_alloc _ _)⟩
      case round =>
        obtain ⟨j, hj, rfl, rfl, HOW, HBW⟩ := hrel
        by_cases hlt : j < n
        · have hlt' : (j : Int) < n := by omega
          obtain ⟨q1, _⟩ := e3_all n hn h1 j hlt
          have r1 := fun u : World => run_float_arith (P := Try.prog) u .quo 22 .f32 _ _ _ q1
          clear q1
          obtain ⟨c1, c2, c3, c4, _⟩ := HC.out j hlt
          have hstep : ch n (j + 1) = ch n j * ((n : Int) - 1 - (j : Int)) / ((j : Int) + 1) := rfl
          generalize hX : ch n (j + 1) = X at hstep
          have HX := Lib.hid hX
          clear hX
          generalize ch n j = Y at *
          generalize hZ : Y * ((n : Int) - 1 - (j : Int)) = Z at *
          generalize hE : e3 n j = E at *
          have HE := Lib.hid hE
          clear hE
          go_wp2_with (first | (at_builtin; refine wpList_push _ rfl _ _ 31 rfl 22 i0 (.float .f32 0) 4 Try.underlying31 hi hz0 hz1 hz2 rfl (by omega) _ (.float .f32 E) j _ _ _ (fun j => .float .f32 (e3 n j)) rfl rfl (by exact HOW.out) (fun q hq => rfl) (by have := HE.out; show Value.float .f32 (e3 n j) = _; rw [this]) rfl (by omega) (by exact HBW.out.size) ?_; intro v' w2 ho2 hb2; have HO2 := Lib.hid ho2; have HB2 := Lib.hid hb2; clear ho2 hb2))
          go_wp2
          go_roundw
          case rel => exact ⟨j + 1, by omega, by go_num, by rw [HX.out, hstep], HO2, Lib.hid (HBW.out.trans HB2.out)⟩
          case measure => simp [intOf]; omega
        · have : j = n := by omega
          subst this
          go_wp2
          go_ret2
          exact ⟨_, rfl, HOW.out, HBW.out⟩
end Go.Proofs.Ytbmbgailhiepbaa
