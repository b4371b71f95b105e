/- The ends of a lobe, plain. -/
import Derived.Laws.FloatArith
namespace Go.Proofs.Ytjihbkhmkepohaa

def leqB (a b : Nat) : Bool := FloatKind.f32.format.order a b == some .lt || FloatKind.f32.format.order a b == some .eq
def geqB (a b : Nat) : Bool := FloatKind.f32.format.order a b == some .gt || FloatKind.f32.format.order a b == some .eq

/-- As far down from a place as steps may be made; p j: from j to j - 1. -/
def lowEnd (p : Nat → Bool) : Nat → Nat
  | 0 => 0
  | k + 1 => if p (k + 1) then lowEnd p k else k + 1
theorem lowEnd_go {p : Nat → Bool} {j : Nat} (h : 0 < j) (hp : p j = true) : lowEnd p j = lowEnd p (j - 1) := by
  obtain ⟨k, rfl⟩ : ∃ k, j = k + 1 := ⟨j - 1, by omega⟩
  simp [lowEnd, hp]
theorem lowEnd_stop {p : Nat → Bool} {j : Nat} (hp : p j = false) : lowEnd p j = j := by
  cases j with
  | zero => rfl
  | succ k => simp [lowEnd, hp]
theorem lowEnd_zero {p : Nat → Bool} {j : Nat} (h : ¬ 0 < j) : lowEnd p j = j := by
  obtain rfl : j = 0 := by omega
  rfl
theorem lowEnd_le (p : Nat → Bool) (j : Nat) : lowEnd p j ≤ j := by
  induction j with
  | zero => exact Nat.le_refl _
  | succ k ih => unfold lowEnd; split <;> omega

/-- As far up, below n; q j: from j to j + 1. -/
def upFrom (q : Nat → Bool) : Nat → Nat → Nat
  | 0, j => j
  | d + 1, j => if q j then upFrom q d (j + 1) else j
def upEnd (q : Nat → Bool) (n j : Nat) : Nat := upFrom q (n - 1 - j) j
theorem upEnd_go {q : Nat → Bool} {n j : Nat} (h : j + 1 < n) (hq : q j = true) : upEnd q n j = upEnd q n (j + 1) := by
  unfold upEnd
  obtain ⟨d, hd⟩ : ∃ d, n - 1 - j = d + 1 := ⟨n - 1 - j - 1, by omega⟩
  rw [hd, show n - 1 - (j + 1) = d by omega]
  simp [upFrom, hq]
theorem upEnd_stop {q : Nat → Bool} {n j : Nat} (hq : q j = false) : upEnd q n j = j := by
  unfold upEnd
  cases n - 1 - j with
  | zero => rfl
  | succ d => simp [upFrom, hq]
theorem upEnd_end {q : Nat → Bool} {n j : Nat} (h : ¬ j + 1 < n) : upEnd q n j = j := by
  unfold upEnd
  rw [show n - 1 - j = 0 by omega]
  rfl
theorem upFrom_bd (q : Nat → Bool) (d : Nat) : ∀ j, j ≤ upFrom q d j ∧ upFrom q d j ≤ j + d := by
  induction d with
  | zero => intro j; exact ⟨Nat.le_refl _, Nat.le_refl _⟩
  | succ d ih =>
    intro j
    have := ih (j + 1)
    unfold upFrom
    split <;> omega
theorem le_upEnd (q : Nat → Bool) (n j : Nat) : j ≤ upEnd q n j := (upFrom_bd q _ j).1
theorem upEnd_lt (q : Nat → Bool) (n j : Nat) (h : j < n) : upEnd q n j < n := by
  have := (upFrom_bd q (n - 1 - j) j).2
  unfold upEnd
  omega
end Go.Proofs.Ytjihbkhmkepohaa
