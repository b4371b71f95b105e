/- The harness for matrices: eqMatrix, markMatrix, heldMatrix. -/
import Derived.Test.YtjhpibbhlacigaaHarCE
import Derived.Test.YtjhpibbhlacigaaHarCM
import Derived.Test.YtjhpibbhlacigaaMemM
namespace Go.Proofs.Ytjhpibbhlacigaa
open Go.RowKit

theorem types_ne : (38 : TypeId) ≠ 37 := by decide
def cx (f g : Nat → Nat → Nat) : Nat → Nat → Value := fun j i => .complex .f32 (f j i) (g j i)
/-- The marks of a matrix with rows of m elements, from k on. -/
def mkM (k : Int) (m : Nat) : Nat → Nat → Value := fun j i => .complex .f32 (kb (k + ((j * m : Nat) : Int) + (i : Int))) 1065353216

set_option maxHeartbeats 1000000 in
theorem eqSS_any (ad ad2 : Option Addr) (n cap cap2 m lo hi lo2 hi2 : Nat) (f g f2 g2 : Nat → Nat → Nat) (w : World)
    (h : Mat w lo hi 38 37 (.slice ad n cap) n m (cx f g)) (h2 : Mat w lo2 hi2 38 37 (.slice ad2 n cap2) n m (cx f2 g2)) (hn : n ≤ 1048576) (hm : m ≤ 1048576)
    (hf : ∀ j i, j < n → i < m → cf .f32 (f j i) = cf .f32 (f2 j i)) (hg : ∀ j i, j < n → i < m → cf .f32 (g j i) = cf .f32 (g2 j i)) :
    Calls Try.prog 14 #[.slice ad n cap, .slice ad2 n cap2] w fun e w' => e = .returned (.bool true) ∧ ∃ d, w' = w.drewN d := by
  obtain ⟨row, gb, h⟩ := h
  obtain ⟨row2, gb2, h2⟩ := h2
  have HR := Lib.hid h.out.rd2
  have HR2 := Lib.hid h2.out.rd2
  have HF := Lib.hid hf
  have HG := Lib.hid hg
  have HM := Lib.hid h.rows
  have HM2 := Lib.hid h2.rows
  clear h h2 hf hg
  go_enter Try.func14, Try.ntmps14
  go_wp2
  go_loopw [5] (fun i wr => ∃ k : Nat, k ≤ n ∧ i = .int .i64 k ∧ ∃ d, wr = w.drewN d) (fun i _ => n - (intOf i).toNat)
  case atStart => exact ⟨0, Nat.zero_le _, rfl, 0, rfl⟩
  case round =>
    obtain ⟨k, hk, rfl, d, rfl⟩ := hrel
    by_cases hlt : k < n
    · obtain ⟨b, off, rfl, hb, hc⟩ := HR.out.at hlt
      obtain ⟨b2, off2, rfl, hb2, hc2⟩ := HR2.out.at hlt
      have hck := hc k hlt
      have hck2 := hc2 k hlt
      clear hc hc2
      obtain ⟨_, _, ⟨c, hrow⟩, ho⟩ := HM.out k hlt
      obtain ⟨_, _, ⟨c2, hrow2⟩, ho2⟩ := HM2.out k hlt
      rw [hrow] at hck ho
      rw [hrow2] at hck2 ho2
      have HO := Lib.hid ho.rd2
      have HO2 := Lib.hid ho2.rd2
      have HK := Lib.hid (fun i (hi : i < m) => HF.out k i hlt hi)
      have HL := Lib.hid (fun i (hi : i < m) => HG.out k i hlt hi)
      clear hrow hrow2 ho ho2
      go_wp2_with fail
      go_region_with (go_at_call 18; refine (eqC_any _ _ m c c2 (f k) (g k) (f2 k) (g2 k) _ (by have := HO.out; exact this) (by have := HO2.out; exact this) hm HK.out HL.out).mono ?_; rintro e w' ⟨rfl, d2, rfl⟩)
      all_goals go_wp2
      all_goals go_roundw
      all_goals first
        | exact ⟨k + 1, by omega, by go_num, _, rfl⟩
        | (simp [intOf]; omega)
    · have : k = n := by omega
      subst this
      go_wp2
      go_ret
      exact ⟨rfl, d, rfl⟩
end Go.Proofs.Ytjhpibbhlacigaa
