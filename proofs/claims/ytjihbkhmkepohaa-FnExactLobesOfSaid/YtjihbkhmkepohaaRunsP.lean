/- Runs of equal neighbours, plain. -/
import Derived.Test.YtjihbkhmkepohaaEndsP
import Derived.Test.YtjihbkhmkepohaaFlc
namespace Go.Proofs.Ytjihbkhmkepohaa

def ordF (a b : Nat) : Option Ordering := FloatKind.f32.format.order a b
/-- Whether x is farther than the run's number. -/
def far (less : Bool) (x r : Nat) : Bool := if less then ordF x r == some .lt else ordF x r == some .gt
/-- Behind the last number of the run from i on. -/
def sameAs (f : Nat → Nat) (i j : Nat) : Bool := ordF (f (j + 1)) (f i) == some .eq
def runEnd (f : Nat → Nat) (n i : Nat) : Nat := upEnd (sameAs f i) n i + 1
def fineRun (less : Bool) (f : Nat → Nat) (n i : Nat) : Bool :=
  (ordF (f i) (f i) == some .eq) && (decide (i = 0) || far less (f (i - 1)) (f i)) && (decide (runEnd f n i = n) || far less (f (runEnd f n i)) (f i))
def runsF (less : Bool) (f : Nat → Nat) (n : Nat) : Nat → Nat → List Int
  | 0, _ => []
  | d + 1, i => if i < n then (if fineRun less f n i then [(i : Int)] else []) ++ runsF less f n d (runEnd f n i) else []

theorem runEnd_bd (f : Nat → Nat) (n i : Nat) (h : i < n) : i < runEnd f n i ∧ runEnd f n i ≤ n := by
  have h1 := le_upEnd (sameAs f i) n i
  have h2 := upEnd_lt (sameAs f i) n i h
  unfold runEnd
  omega
theorem runsF_end (less : Bool) (f : Nat → Nat) (n d : Nat) : runsF less f n d n = [] := by
  cases d with
  | zero => rfl
  | succ d => simp [runsF]
theorem runsF_take {less : Bool} {f : Nat → Nat} {n d i : Nat} (h : i < n) (hf : fineRun less f n i = true) : runsF less f n (d + 1) i = (i : Int) :: runsF less f n d (runEnd f n i) := by
  simp [runsF, h, hf]
theorem runsF_skip {less : Bool} {f : Nat → Nat} {n d i : Nat} (h : i < n) (hf : fineRun less f n i = false) : runsF less f n (d + 1) i = runsF less f n d (runEnd f n i) := by
  simp [runsF, h, hf]
theorem runsF_len (less : Bool) (f : Nat → Nat) (n : Nat) : ∀ d i, (runsF less f n d i).length ≤ n - i := by
  intro d
  induction d with
  | zero => intro i; simp [runsF]
  | succ d ih =>
    intro i
    unfold runsF
    by_cases h : i < n
    · rw [if_pos h, List.length_append]
      have h1 := ih (runEnd f n i)
      have h2 := runEnd_bd f n i h
      have h3 : (if fineRun less f n i then [(i : Int)] else []).length ≤ 1 := by split <;> simp
      omega
    · rw [if_neg h]; simp
/-- Where the number is none, the run is it alone. -/
theorem runEnd_nan {f : Nat → Nat} {n i : Nat} (h : (ordF (f i) (f i) == some .eq) = false) : runEnd f n i = i + 1 := by
  have hs : sameAs f i i = false := by
    unfold sameAs ordF
    cases hn : (FloatKind.f32.decode (f i)).isNaN with
    | true =>
      have : FloatKind.f32.format.order (f (i + 1)) (f i) = none := order_nan_right hn
      rw [this]; rfl
    | false =>
      have : FloatKind.f32.format.order (f i) (f i) = some .eq := order_self hn
      unfold ordF at h
      rw [this] at h
      simp at h
  unfold runEnd
  rw [upEnd_stop hs]
theorem fine_nan {less : Bool} {f : Nat → Nat} {n i : Nat} (h : (ordF (f i) (f i) == some .eq) = false) : fineRun less f n i = false := by
  unfold fineRun; rw [h]; rfl
theorem fine_left {less : Bool} {f : Nat → Nat} {n i : Nat} (h : far less (f (i - 1)) (f i) = false) (h0 : 0 < i) : fineRun less f n i = false := by
  unfold fineRun; rw [h, decide_eq_false (show ¬ i = 0 by omega)]; simp
theorem fine_right {less : Bool} {f : Nat → Nat} {n i e : Nat} (he : runEnd f n i = e) (h : far less (f e) (f i) = false) (h0 : e < n) : fineRun less f n i = false := by
  unfold fineRun; rw [he, h, decide_eq_false (show ¬ e = n by omega)]; simp
theorem fine_yes {less : Bool} {f : Nat → Nat} {n i e : Nat} (he : runEnd f n i = e) (h1 : (ordF (f i) (f i) == some .eq) = true) (h2 : i = 0 ∨ far less (f (i - 1)) (f i) = true) (h3 : e = n ∨ far less (f e) (f i) = true) : fineRun less f n i = true := by
  unfold fineRun
  have a : (decide (i = 0) || far less (f (i - 1)) (f i)) = true := by
    rcases h2 with h | h
    · rw [decide_eq_true h]; rfl
    · rw [h]; simp
  have b : (decide (e = n) || far less (f e) (f i)) = true := by
    rcases h3 with h | h
    · rw [decide_eq_true h]; rfl
    · rw [h]; simp
  rw [he, h1, a, b]; rfl

/-- What has been gathered, as a function of the place. -/
def atL (A : List Int) (j : Nat) : Int := A.getD j 0
theorem atL_append (A : List Int) (x : Int) (j : Nat) (h : j < A.length) : atL (A ++ [x]) j = atL A j := by
  unfold atL; rw [List.getD_eq_getElem?_getD, List.getD_eq_getElem?_getD, List.getElem?_append_left h]
theorem atL_last (A : List Int) (x : Int) : atL (A ++ [x]) A.length = x := by
  unfold atL; simp
theorem length_snoc (A : List Int) (x : Int) : (A ++ [x]).length = A.length + 1 := by simp
end Go.Proofs.Ytjihbkhmkepohaa
