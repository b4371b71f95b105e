/- The greatest number outside of a lobe, plain. -/
import Derived.Test.YtjihbkhmkepohaaPeakP
namespace Go.Proofs.Ytjihbkhmkepohaa

def takes2 (f : Nat → Nat) (lo hi k : Nat) (b : Int) : Bool := decide (k < lo ∨ hi < k) && takes f k b
def sideTo (f : Nat → Nat) (lo hi : Nat) : Nat → Int
  | 0 => -1
  | k + 1 => if takes2 f lo hi k (sideTo f lo hi k) then k else sideTo f lo hi k
theorem sideTo_bd (f : Nat → Nat) (lo hi k : Nat) : -1 ≤ sideTo f lo hi k ∧ sideTo f lo hi k < k := by
  induction k with
  | zero => simp [sideTo]
  | succ k ih => unfold sideTo; split <;> omega
theorem side_take {f : Nat → Nat} {lo hi k : Nat} (h0 : k < lo ∨ hi < k) (h : takes f k (sideTo f lo hi k) = true) : sideTo f lo hi (k + 1) = k := by
  unfold sideTo; rw [if_pos (by unfold takes2; rw [h, decide_eq_true h0]; rfl)]
theorem side_keep {f : Nat → Nat} {lo hi k : Nat} (h : takes f k (sideTo f lo hi k) = false) : sideTo f lo hi (k + 1) = sideTo f lo hi k := by
  conv => lhs; unfold sideTo
  rw [if_neg (by unfold takes2; rw [h, Bool.and_false]; exact Bool.false_ne_true)]
theorem side_in {f : Nat → Nat} {lo hi k : Nat} (h0 : ¬ (k < lo ∨ hi < k)) : sideTo f lo hi (k + 1) = sideTo f lo hi k := by
  conv => lhs; unfold sideTo
  rw [if_neg (by unfold takes2; rw [decide_eq_false h0, Bool.false_and]; exact Bool.false_ne_true)]
def sideV (f : Nat → Nat) (b : Int) : Nat := if 0 ≤ b then f b.toNat else 0
def sideF (b : Int) : Bool := decide (0 ≤ b)
theorem sideV_neg {f : Nat → Nat} {b : Int} (h : b < 0) : sideV f b = 0 := by unfold sideV; rw [if_neg (by omega)]
theorem sideV_nat (f : Nat → Nat) (j : Nat) : sideV f (j : Int) = f j := by unfold sideV; rw [if_pos (by omega)]; simp
theorem sideF_neg {b : Int} (h : b < 0) : sideF b = false := decide_eq_false (by omega)
theorem sideF_nat (j : Nat) : sideF (j : Int) = true := decide_eq_true (by omega)
end Go.Proofs.Ytjihbkhmkepohaa
