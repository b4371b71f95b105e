/- Slices that came in, opened: floats. -/
import Derived.Test.YtbmbgailhiepbaaRows
import Derived.Test.YtbmbgailhiepbaaMem
namespace Go.Proofs.Ytbmbgailhiepbaa
open Go.RowKit Go.ChangeShapes Go.WideShapes

theorem own : ownKnob Try.prog.godebug = none := by kernel_rfl
theorem laidOut : laidOutB Try.prog = true := by kernel_rfl

theorem trod_float_inv {H : Type} {enc : TypeId × Value → H} {P : Program} {w : World} {base : Nat} {spare : Nat → Bool} {held : Bool} {fuel : Nat} {t : TypeId} {k : FloatKind} {v : Value} {x : DataW H × List MemPlace}
    (ht : P.underlying t = some (.float k)) (h : DataW.trod enc P w base spare held fuel t [v] = some x) : ∃ b, v = .float k b ∧ (Lit.float k b).wf = true := by
  cases fuel with
  | zero => simp [DataW.trod] at h
  | succ n =>
    simp only [DataW.trod, ht] at h
    cases v <;> simp at h
    obtain ⟨⟨rfl, hw⟩, _⟩ := h
    exact ⟨_, rfl, hw⟩

theorem trod_int_inv {H : Type} {enc : TypeId × Value → H} {P : Program} {w : World} {base : Nat} {spare : Nat → Bool} {held : Bool} {fuel : Nat} {t : TypeId} {k : IntKind} {v : Value} {x : DataW H × List MemPlace}
    (ht : P.underlying t = some (.int k)) (h : DataW.trod enc P w base spare held fuel t [v] = some x) : ∃ b, v = .int k b ∧ (Lit.int k b).wf = true := by
  cases fuel with
  | zero => simp [DataW.trod] at h
  | succ n =>
    simp only [DataW.trod, ht] at h
    cases v <;> simp at h
    obtain ⟨⟨rfl, hw⟩, _⟩ := h
    exact ⟨_, rfl, hw⟩

/-- A slice of one-cell elements that came in: what it reads as. -/
theorem open_cells {H : Type} {enc : TypeId × Value → H} {P : Program} {w : World} {t e : TypeId} {a0 : Option Addr} {len cap : Nat} {d : DataW H} {ps : List MemPlace}
    (ht : P.underlying t = some (.slice e)) (hc : P.cellsOf e = 1) (hd : DataW.Trod enc P w 0 (fun _ => true) true t (.slice a0 len cap) d ps) :
    ∃ V : Nat → Value, Rd w a0 len V ∧ len ≤ maxLen ∧ ∀ j, j < len → ∃ n x, DataW.trod enc P w 0 (fun _ => true) true n e [V j] = some x := by
  obtain ⟨fuel, hf⟩ := hd
  rcases Go.Deep.open_slice1 ht hc hf with ⟨hcs, _⟩ | ⟨a, len', cap', m, n, V, D, Pl, hcs, _, hl, hm, hmm, _, hx⟩
  · simp [Value.cells] at hcs
    obtain ⟨rfl, rfl, rfl⟩ := hcs
    exact ⟨fun _ => .nilIface, .inl rfl, by unfold maxLen; omega, fun j hj => by omega⟩
  · simp [Value.cells] at hcs
    obtain ⟨rfl, rfl, rfl⟩ := hcs
    simp only [if_true] at hmm
    subst hmm
    refine ⟨V, ?_, by omega, fun j hj => ⟨n, _, (hx j (by omega)).2⟩⟩
    by_cases h0 : len = 0
    · exact .inl h0
    · obtain ⟨b, off, spot⟩ := a
      have h1 := (hx 0 (by omega)).1
      have hspot : spot = none := by simpa [Addr.add] using World.cell?_spot h1
      subst hspot
      refine .inr ⟨b, off, rfl, World.block_lt_of_cell? w _ h1, fun j hj => ?_⟩
      have h2 := (hx j (by omega)).1
      rw [add_plain] at h2
      exact h2

theorem open_f32s {H : Type} {enc : TypeId × Value → H} {P : Program} {w : World} {t e : TypeId} {a0 : Option Addr} {len cap : Nat} {d : DataW H} {ps : List MemPlace}
    (ht : P.underlying t = some (.slice e)) (he : P.underlying e = some (.float .f32)) (hc : P.cellsOf e = 1) (hd : DataW.Trod enc P w 0 (fun _ => true) true t (.slice a0 len cap) d ps) :
    ∃ f : Nat → Nat, Rd w a0 len (fun j => .float .f32 (f j)) ∧ len ≤ maxLen := by
  obtain ⟨V, h1, h2, h3⟩ := open_cells ht hc hd
  obtain ⟨f, hf⟩ := Go.Deep.choose_lt (n := len) (p := fun j (b : Nat) => V j = .float .f32 b) (fun j hj => by
    obtain ⟨n, x, hx⟩ := h3 j hj
    obtain ⟨b, hb, _⟩ := trod_float_inv he hx
    exact ⟨b, hb⟩)
  exact ⟨f, h1.congr hf, h2⟩

theorem open_i64s {H : Type} {enc : TypeId × Value → H} {P : Program} {w : World} {t e : TypeId} {a0 : Option Addr} {len cap : Nat} {d : DataW H} {ps : List MemPlace}
    (ht : P.underlying t = some (.slice e)) (he : P.underlying e = some (.int .i64)) (hc : P.cellsOf e = 1) (hd : DataW.Trod enc P w 0 (fun _ => true) true t (.slice a0 len cap) d ps) :
    ∃ f : Nat → Int, Rd w a0 len (fun j => .int .i64 (f j)) ∧ len ≤ maxLen ∧ ∀ j, j < len → (Lit.int .i64 (f j)).wf = true := by
  obtain ⟨V, h1, h2, h3⟩ := open_cells ht hc hd
  obtain ⟨f, hf⟩ := Go.Deep.choose_lt (n := len) (p := fun j (b : Int) => V j = .int .i64 b ∧ (Lit.int .i64 b).wf = true) (fun j hj => by
    obtain ⟨n, x, hx⟩ := h3 j hj
    exact trod_int_inv he hx)
  exact ⟨f, h1.congr (fun j hj => (hf j hj).1), h2, fun j hj => (hf j hj).2⟩
end Go.Proofs.Ytbmbgailhiepbaa
