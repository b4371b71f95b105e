/- Places and directions, valid or not: both, by contracts. -/
import Derived.Test.YtbmbgailhiepbaaHarP
import Derived.Test.YtbmbgailhiepbaaTapW
import Derived.Deep.RegionLaw
import Derived.Deep.DrawnRows
namespace Go.Proofs.Ytbmbgailhiepbaa
open Go.RowKit
attribute [local go_sem ↓] Go.wp_at_zero Go.wp_at_succ

def inC (a : Int) : Bool := decide (-4096 ≤ a ∧ a ≤ 4096)
def samePt (x y : Nat → Int) (px py : Int) (k : Nat) : Bool := decide (px = x k ∧ py = y k)
/-- The first point from k on, of d, that is this one; -1 if there is none. -/
def firstEq (x y : Nat → Int) (px py : Int) : Nat → Nat → Int
  | 0, _ => -1
  | d + 1, k => if samePt x y px py k then k else firstEq x y px py d (k + 1)
theorem firstEq_bd (x y : Nat → Int) (px py : Int) (d k : Nat) : firstEq x y px py d k = -1 ∨ (0 ≤ firstEq x y px py d k ∧ firstEq x y px py d k < k + d) := by
  induction d generalizing k with
  | zero => exact .inl rfl
  | succ d ih =>
    unfold firstEq
    split
    · right; omega
    · rcases ih (k + 1) with h | h
      · exact .inl h
      · right; omega
def dupB (x y : Nat → Int) (i : Nat) : Bool := decide (0 ≤ firstEq x y (x i) (y i) i 0)
/-- The place at i is good. -/
def okAt (x y : Nat → Int) (i : Nat) : Bool := inC (x i) && inC (y i) && !dupB x y i
def okFrom (x y : Nat → Int) : Nat → Nat → Bool
  | 0, _ => true
  | d + 1, i => okAt x y i && okFrom x y d (i + 1)
def vP (x y : Nat → Int) (n : Nat) : Bool := decide (1 ≤ n ∧ n ≤ 16) && okFrom x y n 0
theorem okFrom_yes {x y : Nat → Int} {d i : Nat} (h : okAt x y i = true) : okFrom x y (d + 1) i = okFrom x y d (i + 1) := by
  show (okAt x y i && okFrom x y d (i + 1)) = _
  rw [h]; rfl
theorem okFrom_no {x y : Nat → Int} {d i : Nat} (h : okAt x y i = false) : okFrom x y (d + 1) i = false := by
  show (okAt x y i && okFrom x y d (i + 1)) = _
  rw [h]; rfl
theorem okFrom_at {x y : Nat → Int} {d i : Nat} (h : okFrom x y d i = true) (j : Nat) (h1 : i ≤ j) (h2 : j < i + d) : okAt x y j = true := by
  induction d generalizing i with
  | zero => omega
  | succ d ih =>
    have h3 : (okAt x y i && okFrom x y d (i + 1)) = true := h
    rw [Bool.and_eq_true] at h3
    by_cases hij : j = i
    · rw [hij]; exact h3.1
    · exact ih h3.2 (by omega) (by omega)
theorem vP_in {x y : Nat → Int} {n : Nat} (h : vP x y n = true) : n ≤ 16 ∧ ∀ j, j < n → (-4096 ≤ x j ∧ x j ≤ 4096) ∧ (-4096 ≤ y j ∧ y j ≤ 4096) := by
  unfold vP at h
  rw [Bool.and_eq_true] at h
  have h1 := of_decide_eq_true h.1
  refine ⟨h1.2, fun j hj => ?_⟩
  have := okFrom_at h.2 j (by omega) (by omega)
  unfold okAt at this
  rw [Bool.and_eq_true, Bool.and_eq_true] at this
  exact ⟨of_decide_eq_true this.1.1, of_decide_eq_true this.1.2⟩

def vD (u v : Int) : Bool := decide ((-64 ≤ u ∧ u ≤ 64) ∧ (-64 ≤ v ∧ v ≤ 64) ∧ u * u + v * v ≤ 4096)

theorem coordI (a : Int) (w : World) :
    Calls Try.prog 86 #[.int .i64 a] w fun e w' => e = .returned (.bool (inC a)) ∧ w = w' := by
  by_cases h : -4096 ≤ a ∧ a ≤ 4096
  · rw [show inC a = true from decide_eq_true h]
    go_enter Try.func86, Try.ntmps86
    go_wp2_with (go_at_call 40; refine (withinI_yes _ _ _ (by omega) (by omega) _).mono ?_; rintro e w' ⟨rfl, rfl⟩)
    all_goals go_ret
    all_goals exact ⟨rfl, rfl⟩
  · rw [show inC a = false from decide_eq_false h]
    go_enter Try.func86, Try.ntmps86
    go_wp2_with (go_at_call 40; refine (withinI_no _ _ _ (by omega) _).mono ?_; rintro e w' ⟨rfl, rfl⟩)
    all_goals go_ret
    all_goals exact ⟨rfl, rfl⟩

set_option maxHeartbeats 1000000 in
theorem placeS (a b : Int) (w : World) :
    Calls Try.prog 84 #[.agg #[.int .i64 a, .int .i64 b]] w fun e w' => e = .returned (.bool (inC a && inC b)) ∧ Below w.heap.size w w' := by
  by_cases h : -4096 ≤ a ∧ a ≤ 4096
  · rw [show inC a = true from decide_eq_true h]
    by_cases h2 : -4096 ≤ b ∧ b ≤ 4096
    · rw [show inC b = true from decide_eq_true h2]
      go_enter Try.func84, Try.ntmps84
      go_wp2_with (go_at_call 36; refine (inS_yes _ _ _ (by omega) (by omega) _).mono ?_; rintro e w' ⟨rfl, rfl⟩)
      all_goals go_ret
      all_goals exact ⟨rfl, below_alloc _ _⟩
    · rw [show inC b = false from decide_eq_false h2]
      go_enter Try.func84, Try.ntmps84
      go_wp2_with (go_at_call 36; first | (refine (inS_yes _ _ _ (by omega) (by omega) _).mono ?_; rintro e w' ⟨rfl, rfl⟩) | (refine (inS_no _ _ _ (by omega) _).mono ?_; rintro e w' ⟨rfl, rfl⟩))
      all_goals go_ret
      all_goals exact ⟨rfl, below_alloc _ _⟩
  · rw [show inC a = false from decide_eq_false h]
    go_enter Try.func84, Try.ntmps84
    go_wp2_with (go_at_call 36; refine (inS_no _ _ _ (by omega) _).mono ?_; rintro e w' ⟨rfl, rfl⟩)
    all_goals go_ret
    all_goals exact ⟨rfl, below_alloc _ _⟩

theorem sq_bd {u : Int} (h1 : -64 ≤ u) (h2 : u ≤ 64) : 0 ≤ u * u ∧ u * u ≤ 4096 := by
  constructor
  · rcases Int.le_total 0 u with h | h
    · exact Int.mul_nonneg h h
    · have := Int.mul_nonneg (show 0 ≤ -u by omega) (show 0 ≤ -u by omega)
      rwa [Int.neg_mul_neg] at this
  · rcases Int.le_total 0 u with h | h
    · have := Int.mul_le_mul h2 h2 h (by omega)
      omega
    · have := Int.mul_le_mul (show -u ≤ 64 by omega) (show -u ≤ 64 by omega) (show 0 ≤ -u by omega) (by omega)
      rw [Int.neg_mul_neg] at this
      omega

set_option maxHeartbeats 2000000 in
theorem dirS (u v : Int) (w : World) :
    Calls Try.prog 58 #[.agg #[.int .i64 u, .int .i64 v]] w fun e w' => e = .returned (.bool (vD u v)) ∧ Below w.heap.size w w' := by
  by_cases h : -64 ≤ u ∧ u ≤ 64
  · by_cases h2 : -64 ≤ v ∧ v ≤ 64
    · have b1 := sq_bd h.1 h.2
      have b2 := sq_bd h2.1 h2.2
      have HV := Lib.hid (show vD u v = decide (u * u + v * v ≤ 4096) by
        unfold vD
        by_cases hs : u * u + v * v ≤ 4096
        · rw [decide_eq_true hs, decide_eq_true ⟨h, h2, hs⟩]
        · rw [decide_eq_false hs, decide_eq_false (fun k => hs k.2.2)])
      rw [HV.out]
      generalize hU : u * u = U at *
      generalize hV : v * v = V at *
      by_cases hs : U + V ≤ 4096
      · rw [decide_eq_true hs]
        go_enter Try.func58, Try.ntmps58
        go_wp2_with (go_at_call 36; refine (inS_yes _ _ _ (by omega) (by omega) _).mono ?_; rintro e w' ⟨rfl, rfl⟩)
        all_goals go_ret
        all_goals exact ⟨rfl, below_alloc _ _⟩
      · have hs2 : decide (U + V ≤ 4096) = false := decide_eq_false hs
        rw [hs2]
        go_enter Try.func58, Try.ntmps58
        go_wp2_with (go_at_call 36; refine (inS_yes _ _ _ (by omega) (by omega) _).mono ?_; rintro e w' ⟨rfl, rfl⟩)
        all_goals go_ret
        all_goals exact ⟨rfl, below_alloc _ _⟩
    · rw [show vD u v = false from decide_eq_false (fun k => h2 k.2.1)]
      go_enter Try.func58, Try.ntmps58
      go_wp2_with (go_at_call 36; first | (refine (inS_yes _ _ _ (by omega) (by omega) _).mono ?_; rintro e w' ⟨rfl, rfl⟩) | (refine (inS_no _ _ _ (by omega) _).mono ?_; rintro e w' ⟨rfl, rfl⟩))
      all_goals go_ret
      all_goals exact ⟨rfl, below_alloc _ _⟩
  · rw [show vD u v = false from decide_eq_false (fun k => h k.1)]
    go_enter Try.func58, Try.ntmps58
    go_wp2_with (go_at_call 36; refine (inS_no _ _ _ (by omega) _).mono ?_; rintro e w' ⟨rfl, rfl⟩)
    all_goals go_ret
    all_goals exact ⟨rfl, below_alloc _ _⟩

set_option maxHeartbeats 2000000 in
theorem dirI (u v : Int) (w : World) :
    Calls Try.prog 63 #[.agg #[.int .i64 u, .int .i64 v]] w fun e w' => e = .returned (.bool (vD u v)) ∧ Below w.heap.size w w' := by
  by_cases h : -64 ≤ u ∧ u ≤ 64
  · by_cases h2 : -64 ≤ v ∧ v ≤ 64
    · have b1 := sq_bd h.1 h.2
      have b2 := sq_bd h2.1 h2.2
      have HV := Lib.hid (show vD u v = decide (u * u + v * v ≤ 4096) by
        unfold vD
        by_cases hs : u * u + v * v ≤ 4096
        · rw [decide_eq_true hs, decide_eq_true ⟨h, h2, hs⟩]
        · rw [decide_eq_false hs, decide_eq_false (fun k => hs k.2.2)])
      rw [HV.out]
      generalize hU : u * u = U at *
      generalize hV : v * v = V at *
      by_cases hs : U + V ≤ 4096
      · rw [decide_eq_true hs]
        go_enter Try.func63, Try.ntmps63
        go_wp2_with (go_at_call 40; refine (withinI_yes _ _ _ (by omega) (by omega) _).mono ?_; rintro e w' ⟨rfl, rfl⟩)
        all_goals go_ret
        all_goals exact ⟨rfl, below_alloc _ _⟩
      · have hs2 : decide (U + V ≤ 4096) = false := decide_eq_false hs
        rw [hs2]
        go_enter Try.func63, Try.ntmps63
        go_wp2_with (go_at_call 40; refine (withinI_yes _ _ _ (by omega) (by omega) _).mono ?_; rintro e w' ⟨rfl, rfl⟩)
        all_goals go_ret
        all_goals exact ⟨rfl, below_alloc _ _⟩
    · rw [show vD u v = false from decide_eq_false (fun k => h2 k.2.1)]
      go_enter Try.func63, Try.ntmps63
      go_wp2_with (go_at_call 40; first | (refine (withinI_yes _ _ _ (by omega) (by omega) _).mono ?_; rintro e w' ⟨rfl, rfl⟩) | (refine (withinI_no _ _ _ (by omega) _).mono ?_; rintro e w' ⟨rfl, rfl⟩))
      all_goals go_ret
      all_goals exact ⟨rfl, below_alloc _ _⟩
  · rw [show vD u v = false from decide_eq_false (fun k => h k.1)]
    go_enter Try.func63, Try.ntmps63
    go_wp2_with (go_at_call 40; refine (withinI_no _ _ _ (by omega) _).mono ?_; rintro e w' ⟨rfl, rfl⟩)
    all_goals go_ret
    all_goals exact ⟨rfl, below_alloc _ _⟩
end Go.Proofs.Ytbmbgailhiepbaa
