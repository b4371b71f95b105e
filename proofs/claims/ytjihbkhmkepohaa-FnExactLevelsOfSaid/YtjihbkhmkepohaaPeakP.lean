/- The greatest number's index, plain. -/
import Derived.Laws.FloatArith
namespace Go.Proofs.Ytjihbkhmkepohaa

def ord (a b : Nat) : Option Ordering := FloatKind.f32.format.order a b

def takes (f : Nat → Nat) (k : Nat) (b : Int) : Bool := (ord (f k) (f k) == some .eq) && (decide (b < 0) || (ord (f k) (f b.toNat) == some .gt))
/-- The index of the greatest of the first k numbers, or -1. -/
def peakTo (f : Nat → Nat) : Nat → Int
  | 0 => -1
  | k + 1 => if takes f k (peakTo f k) then k else peakTo f k
theorem peakTo_bd (f : Nat → Nat) (k : Nat) : -1 ≤ peakTo f k ∧ peakTo f k < k := by
  induction k with
  | zero => simp [peakTo]
  | succ k ih => unfold peakTo; split <;> omega
theorem peak_take {f : Nat → Nat} {k : Nat} (h : takes f k (peakTo f k) = true) : peakTo f (k + 1) = k := by unfold peakTo; rw [if_pos h]
theorem peak_keep {f : Nat → Nat} {k : Nat} (h : takes f k (peakTo f k) = false) : peakTo f (k + 1) = peakTo f k := by
  conv => lhs; unfold peakTo
  rw [if_neg (by rw [h]; exact Bool.false_ne_true)]
end Go.Proofs.Ytjihbkhmkepohaa
