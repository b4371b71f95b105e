/- ValidPlaces of the program, by its contract. -/
import Derived.Test.YtbmbgailhiepbaaSteV
import Derived.Deep.RegionHeld3
namespace Go.Proofs.Ytbmbgailhiepbaa
open Go.RowKit
attribute [local go_sem ↓] Go.wp_at_zero Go.wp_at_succ

theorem below_drew1 {B : Nat} {a b : World} (h : Below B a b) : Below B a b.drew := ⟨h.os, h.tape, h.output, h.size, h.block⟩
theorem RdP.take {w : World} {ad : Option Addr} {n k : Nat} {x y : Nat → Int} (h : RdP w ad n x y) (hk : k ≤ n) : RdP w ad k x y := by
  rcases h with h | ⟨b, off, h1, h2, h3⟩
  · exact .inl (by omega)
  · exact .inr ⟨b, off, h1, h2, fun j hj => h3 j (by omega)⟩

set_option maxRecDepth 100000 in
set_option maxHeartbeats 1000000 in
theorem indexP (ad : Option Addr) (n cap : Nat) (x y : Nat → Int) (px py : Int) (w : World) (hr : RdP w ad n x y) (hn : n ≤ 1048576) :
    Calls Try.prog 98 #[.slice ad n cap, .agg #[.int .i64 px, .int .i64 py]] w fun e w' => e = .returned (.int .i64 (firstEq x y px py n 0)) ∧ Below w.heap.size w w' := by
  have HR := Lib.hid hr
  clear hr
  go_enter Try.func98, Try.ntmps98
  go_wp2
  go_loopw [5, 8] (fun _ i wr => ∃ k d m : Nat, k + d = n ∧ i = .int .i64 k ∧ Hid (firstEq x y px py n 0 = firstEq x y px py d k) ∧ wr = (w.alloc (.cells #[.int .i64 px, .int .i64 py] 77)).drewN m) (fun _ i _ => n - (intOf i).toNat)
  case atStart => exact ⟨0, n, 0, by omega, rfl, Lib.hid rfl, rfl⟩
  case round =>
    obtain ⟨k, d, m, hk, rfl, HF, rfl⟩ := hrel
    by_cases hlt : k < n
    · obtain ⟨d, rfl⟩ : ∃ q, d = q + 1 := ⟨d - 1, by omega⟩
      obtain ⟨b, off, rfl, hb, hc⟩ := (HR.out.below (below_alloc w (.cells #[.int .i64 px, .int .i64 py] 77))).at hlt
      have h1 := (hc k hlt).1
      have h2 := (hc k hlt).2
      clear hc
      by_cases hx : px = x k
      · by_cases hy : py = y k
        · have HS := Lib.hid (show firstEq x y px py (d + 1) k = k from if_pos (decide_eq_true ⟨hx, hy⟩))
          have hx' : (px == x k) = true := by simp [hx]
          have hy' : (py == y k) = true := by simp [hy]
          clear hx hy
          go_wp2_with fail
          go_quiet (fail)
          go_wp2
          go_ret
          exact ⟨by rw [HF.out, HS.out]; rfl, below_drewN (below_drewN (below_alloc _ _) _) _⟩
        · have HNO : ¬ (px = x k ∧ py = y k) := fun h => hy h.2
          have HS := Lib.hid (show firstEq x y px py (d + 1) k = firstEq x y px py d (k + 1) from if_neg (by unfold samePt; rw [decide_eq_false HNO]; decide))
          have hx' : (px == x k) = true := by simp [hx]
          have hy' : (py == y k) = false := by simp [hy]
          clear hx hy HNO
          go_wp2_with fail
          go_quiet (fail)
          go_wp2
          go_roundw
          case rel => exact ⟨k + 1, d, _, by omega, by go_num, Lib.hid (by rw [HF.out, HS.out]), by first | rfl | exact World.drewN_drewN ..⟩
          case measure => simp [intOf]; omega
      · have HNO : ¬ (px = x k ∧ py = y k) := fun h => hx h.1
        have HS := Lib.hid (show firstEq x y px py (d + 1) k = firstEq x y px py d (k + 1) from if_neg (by unfold samePt; rw [decide_eq_false HNO]; decide))
        have hx' : (px == x k) = false := by simp [hx]
        clear hx HNO
        go_wp2_with fail
        go_quiet (fail)
        go_wp2
        go_roundw
        case rel => exact ⟨k + 1, d, _, by omega, by go_num, Lib.hid (by rw [HF.out, HS.out]), by first | rfl | exact World.drewN_drewN ..⟩
        case measure => simp [intOf]; omega
    · have hd : d = 0 := by omega
      subst hd
      go_wp2
      go_ret
      exact ⟨by rw [HF.out]; rfl, below_drewN (below_alloc _ _) _⟩

set_option maxRecDepth 100000 in
set_option maxHeartbeats 1000000 in
theorem containsP (ad : Option Addr) (n cap : Nat) (x y : Nat → Int) (px py : Int) (w : World) (hr : RdP w ad n x y) (hn : n ≤ 1048576) :
    Calls Try.prog 87 #[.slice ad n cap, .agg #[.int .i64 px, .int .i64 py]] w fun e w' => e = .returned (.bool (decide (0 ≤ firstEq x y px py n 0))) ∧ Below w.heap.size w w' := by
  have HR := Lib.hid hr
  have HI := Lib.hid (fun u h => indexP ad n cap x y px py u h hn)
  clear hr
  by_cases hf : 0 ≤ firstEq x y px py n 0
  · rw [decide_eq_true hf]
    generalize firstEq x y px py n 0 = f at *
    go_enter Try.func87, Try.ntmps87
    go_wp2_with (go_at_call 98; refine (HI.out _ (by exact HR.out.below (below_alloc w _))).mono ?_; rintro e w2 ⟨rfl, hb2⟩; have HB2 := Lib.hid hb2; clear hb2)
    go_ret
    exact ⟨rfl, below_next (below_alloc w _) HB2.out⟩
  · have hd : decide (0 ≤ firstEq x y px py n 0) = false := decide_eq_false hf
    rw [hd]
    generalize firstEq x y px py n 0 = f at *
    go_enter Try.func87, Try.ntmps87
    go_wp2_with (go_at_call 98; refine (HI.out _ (by exact HR.out.below (below_alloc w _))).mono ?_; rintro e w2 ⟨rfl, hb2⟩; have HB2 := Lib.hid hb2; clear hb2)
    go_ret
    exact ⟨rfl, below_next (below_alloc w _) HB2.out⟩

set_option maxRecDepth 100000 in
set_option maxHeartbeats 4000000 in
theorem validI (ad : Option Addr) (n : Nat) (x y : Nat → Int) (w : World) (hr : RdP w ad n x y) (hn : n ≤ 1048576) :
    Calls Try.prog 62 #[.slice ad n n] w fun e w' => e = .returned (.bool (vP x y n)) ∧ Below w.heap.size w w' := by
  have HR := Lib.hid hr
  clear hr
  by_cases hc : 1 ≤ n ∧ n ≤ 16
  · have HV := Lib.hid (show vP x y n = okFrom x y n 0 by unfold vP; rw [decide_eq_true hc]; rfl)
    have hc1 : (1 : Int) ≤ n := by omega
    have hc2 : (n : Int) ≤ 16 := by omega
    rw [HV.out]
    clear hc HV
    go_enter Try.func62, Try.ntmps62
    go_wp2_with (go_at_call 48; refine (countI_yes _ (by omega) (by omega) _).mono ?_; rintro e w' ⟨rfl, rfl⟩)
    go_loopw [3, 4, 11] (fun _ _ i wr => ∃ k d : Nat, k + d = n ∧ i = .int .i64 k ∧ Hid (okFrom x y n 0 = okFrom x y d k) ∧ Hid (Below w.heap.size w wr)) (fun _ _ i _ => n - (intOf i).toNat)
    case atStart => exact ⟨0, n, by omega, rfl, Lib.hid rfl, Lib.hid (Below.refl _ _)⟩
    case round =>
      obtain ⟨k, d, hk, rfl, HF, HBW⟩ := hrel
      by_cases hlt : k < n
      · obtain ⟨d, rfl⟩ : ∃ q, d = q + 1 := ⟨d - 1, by omega⟩
        have HRW := Lib.hid (HR.out.below HBW.out)
        obtain ⟨b, off, rfl, hb, hc⟩ := HRW.out.at hlt
        have h1 := (hc k hlt).1
        have h2 := (hc k hlt).2
        clear hc
        have cX := fun u => coordI (x k) u
        have cY := fun u => coordI (y k) u
        have HC := Lib.hid (fun u h => containsP (some ⟨b, off, none⟩) k n x y (x k) (y k) u h (by omega))
        have HOK := Lib.hid (show okAt x y k = (inC (x k) && inC (y k) && !decide (0 ≤ firstEq x y (x k) (y k) k 0)) from rfl)
        have hb0 : (wr.alloc (.cells #[.int .i64 (x k), .int .i64 (y k)] 77)).cell? ⟨wr.heap.size, 0, none⟩ = some (.int .i64 (x k)) := (cell_of_row _ _ 0 _ _ (0, 0) (heap_alloc_new wr _)).trans rfl
        have hb1 : (wr.alloc (.cells #[.int .i64 (x k), .int .i64 (y k)] 77)).cell? ⟨wr.heap.size, 1, none⟩ = some (.int .i64 (y k)) := (cell_of_row _ _ 1 _ _ (0, 0) (heap_alloc_new wr _)).trans rfl
        cases hx : inC (x k) with
        | false =>
          have HN := Lib.hid (show okFrom x y (d + 1) k = false from okFrom_no (by rw [HOK.out, hx]; rfl))
          rw [hx] at cX
          have qX : ∀ u, Calls Try.prog 86 #[.int .i64 (x k)] u fun e w' => e = .returned (.bool false) ∧ w' = u := fun u => (cX u).mono fun _ _ ⟨a, b⟩ => ⟨a, b.symm⟩
          have qY : ∀ u, Calls Try.prog 86 #[.int .i64 (y k)] u fun e w' => e = .returned (.bool (inC (y k))) ∧ w' = u := fun u => (cY u).mono fun _ _ ⟨a, b⟩ => ⟨a, b.symm⟩
          clear hx cY cX
          go_wp2_with fail
          go_quiet ((go_at_call 86; first | exact quiet_same (qX _) ⟨_, rfl⟩ | exact quiet_same (qY _) ⟨_, rfl⟩))
          go_wp2
          go_ret
          exact ⟨by rw [HF.out, HN.out]; rfl, below_drewN (below_next HBW.out (below_alloc _ _)) _⟩
        | true =>
          rw [hx] at cX
          cases hy : inC (y k) with
          | false =>
            have HN := Lib.hid (show okFrom x y (d + 1) k = false from okFrom_no (by rw [HOK.out, hx, hy]; rfl))
            rw [hy] at cY
            have qX : ∀ u, Calls Try.prog 86 #[.int .i64 (x k)] u fun e w' => e = .returned (.bool true) ∧ w' = u := fun u => (cX u).mono fun _ _ ⟨a, b⟩ => ⟨a, b.symm⟩
            have qY : ∀ u, Calls Try.prog 86 #[.int .i64 (y k)] u fun e w' => e = .returned (.bool false) ∧ w' = u := fun u => (cY u).mono fun _ _ ⟨a, b⟩ => ⟨a, b.symm⟩
            clear hx hy cX cY
            go_wp2_with fail
            go_quiet ((go_at_call 86; first | exact quiet_same (qX _) ⟨_, rfl⟩ | exact quiet_same (qY _) ⟨_, rfl⟩))
            go_wp2
            go_ret
            exact ⟨by rw [HF.out, HN.out]; rfl, below_drewN (below_next HBW.out (below_alloc _ _)) _⟩
          | true =>
            rw [hy] at cY
            have hkn : (k : Int) ≤ n := by omega
            cases hdup : decide (0 ≤ firstEq x y (x k) (y k) k 0) with
            | true =>
              have HN := Lib.hid (show okFrom x y (d + 1) k = false from okFrom_no (by rw [HOK.out, hx, hy, hdup]; rfl))
              have HDUP := Lib.hid hdup
              clear hx hy hdup
              go_wp2_with fail
              go_region_held3 (fun w' => w'.cell? ⟨wr.heap.size, 0, none⟩ = some (.int .i64 (x k)) ∧ w'.cell? ⟨wr.heap.size, 1, none⟩ = some (.int .i64 (y k)))
                (first | go_keep | exact ⟨(HB2.out.cell (p := ⟨wr.heap.size, 0, none⟩) (by simp)).trans hb0, (HB2.out.cell (p := ⟨wr.heap.size, 1, none⟩) (by simp)).trans hb1⟩)
                (first
                  | (go_at_call 86; with_reducible (first | (refine (cX _).mono ?_; rintro e w' ⟨rfl, rfl⟩) | (refine (cY _).mono ?_; rintro e w' ⟨rfl, rfl⟩)))
                  | (go_at_call 87; refine (HC.out _ (by first | exact (HRW.out.take (Nat.le_of_lt hlt)).below (below_alloc wr _) | exact (HRW.out.take (Nat.le_of_lt hlt)).below (below_drew1 (below_alloc wr _)))).mono ?_; rintro e w2 ⟨he, hb2⟩; rw [HDUP.out] at he; subst he; have HB2 := Lib.hid hb2; clear hb2))
              all_goals go_wp2
              all_goals go_ret
              all_goals exact ⟨by rw [HF.out, HN.out]; rfl, below_next (below_next HBW.out (below_alloc _ _)) (by first | exact HB2.out | exact below_undrew1 HB2.out)⟩
            | false =>
              have HN := Lib.hid (show okFrom x y (d + 1) k = okFrom x y d (k + 1) from okFrom_yes (by rw [HOK.out, hx, hy, hdup]; rfl))
              have HDUP := Lib.hid hdup
              clear hx hy hdup
              go_wp2_with fail
              go_region_held3 (fun w' => w'.cell? ⟨wr.heap.size, 0, none⟩ = some (.int .i64 (x k)) ∧ w'.cell? ⟨wr.heap.size, 1, none⟩ = some (.int .i64 (y k)))
                (first | go_keep | exact ⟨(HB2.out.cell (p := ⟨wr.heap.size, 0, none⟩) (by simp)).trans hb0, (HB2.out.cell (p := ⟨wr.heap.size, 1, none⟩) (by simp)).trans hb1⟩)
                (first
                  | (go_at_call 86; with_reducible (first | (refine (cX _).mono ?_; rintro e w' ⟨rfl, rfl⟩) | (refine (cY _).mono ?_; rintro e w' ⟨rfl, rfl⟩)))
                  | (go_at_call 87; refine (HC.out _ (by first | exact (HRW.out.take (Nat.le_of_lt hlt)).below (below_alloc wr _) | exact (HRW.out.take (Nat.le_of_lt hlt)).below (below_drew1 (below_alloc wr _)))).mono ?_; rintro e w2 ⟨he, hb2⟩; rw [HDUP.out] at he; subst he; have HB2 := Lib.hid hb2; clear hb2))
              all_goals go_wp2
              all_goals go_roundw
              all_goals first
                | exact ⟨k + 1, d, by omega, by go_num, Lib.hid (by rw [HF.out, HN.out]), Lib.hid (below_next (below_next HBW.out (below_alloc _ _)) (by first | exact HB2.out | exact below_undrew1 HB2.out))⟩
                | (simp [intOf]; omega)
      · have hd : d = 0 := by omega
        subst hd
        go_wp2
        go_ret
        exact ⟨by rw [HF.out]; rfl, HBW.out⟩
  · have HV : vP x y n = false := by unfold vP; rw [decide_eq_false hc]; rfl
    rw [HV]
    clear HV
    go_enter Try.func62, Try.ntmps62
    go_wp2_with (go_at_call 48; refine (countI_no _ (by omega) _).mono ?_; rintro e w' ⟨rfl, rfl⟩)
    go_ret
    exact ⟨rfl, Below.refl _ _⟩
end Go.Proofs.Ytbmbgailhiepbaa
