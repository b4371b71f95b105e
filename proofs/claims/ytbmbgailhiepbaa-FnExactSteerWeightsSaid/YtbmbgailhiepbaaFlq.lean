/- A 32-bit number halved is a number again. -/
import Derived.Test.YtbmbgailhiepbaaFlc
namespace Go.Proofs.Ytbmbgailhiepbaa
open Ieee

theorem read_word_some (f : Format) (neg : Bool) {rung : Nat} (h : rung ≤ f.infRung) : (f.read (f.word neg rung)).isNaN = false := by
  have hi : f.infRung < f.signWeight := f.infRung_lt
  have e2 : f.word neg rung % f.signWeight = rung := by
    unfold Format.word
    cases neg
    · simp [Nat.mod_eq_of_lt (show rung < f.signWeight by omega)]
    · simp [Nat.mod_eq_of_lt (show rung < f.signWeight by omega)]
  unfold Format.read
  simp only [e2]
  by_cases h1 : rung < f.binade
  · simp [h1, Datum.isNaN]
  · by_cases h2 : rung < f.infRung
    · simp [h1, h2, Datum.isNaN]
    · rw [if_neg h1, if_neg h2, if_pos (show rung = f.infRung by omega)]
      rfl

theorem write_some (f : Format) {d : Datum} (h : d.isNaN = false) : (f.read (f.write d)).isNaN = false := by
  cases d with
  | nan s t => simp [Datum.isNaN] at h
  | infinity s => exact read_word_some f s (Nat.le_refl _)
  | number s m p =>
    show (f.read (f.nearest s m p)).isNaN = false
    unfold Format.nearest
    dsimp only
    split
    · exact read_word_some f s (Nat.zero_le _)
    · exact read_word_some f s (Nat.min_le_right ..)

theorem order_some {a b : Datum} (ha : a.isNaN = false) (hb : b.isNaN = false) : ∃ o, a.order b = some o := by
  cases a <;> cases b <;> simp_all [Datum.isNaN, Datum.order]

theorem two_f32 : FloatKind.f32.decode 1073741824 = .number false 8388608 (-22) := by decide +kernel

theorem quotient_some {digits : Nat} {a : Datum} (ha : a.isNaN = false) (s : Bool) (m : Nat) (p : Int) (hm : m ≠ 0) : ∃ d, a.quotient digits (.number s m p) = some d ∧ d.isNaN = false := by
  cases a with
  | nan => simp [Datum.isNaN] at ha
  | infinity t => exact ⟨_, rfl, rfl⟩
  | number t n q =>
    refine ⟨_, by simp only [Datum.quotient]; rw [if_neg hm], rfl⟩

/-- Half of a number that is one. -/
theorem half_some {x : Nat} (h : (FloatKind.f32.format.order x x != some .eq) = false) : ∃ r o, floatBits .quo .f32 x 1073741824 = some r ∧ FloatKind.f32.format.order x r = some o := by
  have hx : (FloatKind.f32.decode x).isNaN = false := by
    cases hn : (FloatKind.f32.decode x).isNaN with
    | false => rfl
    | true =>
      have : FloatKind.f32.format.order x x = none := order_nan_left hn
      rw [this] at h
      simp at h
  have h2 : FloatKind.f32.format.read 1073741824 = .number false 8388608 (-22) := two_f32
  obtain ⟨d, hd, hdn⟩ := quotient_some (digits := FloatKind.f32.format.fractionBits + 2) hx false 8388608 (-22) (by omega)
  obtain ⟨o, ho⟩ := order_some hx (write_some FloatKind.f32.format hdn)
  refine ⟨FloatKind.f32.format.write d, o, ?_, ho⟩
  show (((FloatKind.f32.format.read x).quotient (FloatKind.f32.format.fractionBits + 2) (FloatKind.f32.format.read 1073741824)).map FloatKind.f32.format.write) = _
  rw [h2]
  have hd' : (FloatKind.f32.format.read x).quotient (FloatKind.f32.format.fractionBits + 2) (.number false 8388608 (-22)) = some d := hd
  rw [hd']
  rfl
end Go.Proofs.Ytbmbgailhiepbaa
