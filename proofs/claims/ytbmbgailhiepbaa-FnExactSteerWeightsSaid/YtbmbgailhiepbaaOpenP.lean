/- Pairs of int64 that came in, opened: a slice of them, one by value. -/
import Derived.Test.YtbmbgailhiepbaaOpen
import Derived.Test.YtbmbgailhiepbaaMemP
import Derived.Lib.SmallJoins
namespace Go.Proofs.Ytbmbgailhiepbaa
open Go.RowKit Go.ChangeShapes Go.WideShapes Go.Deep Go.Joins

theorem open_pairs {H : Type} {enc : TypeId × Value → H} {P : Program} {w : World} {t e : TypeId} {f0 f1 : Field} {a0 : Option Addr} {len cap : Nat} {d : DataW H} {ps : List MemPlace}
    (ht : P.underlying t = some (.slice e)) (he : P.underlying e = some (.struct #[f0, f1])) (hone : oneCellFields P #[f0, f1] = true) (hC : P.cellsOf e = 2) (h0 : P.underlying f0.type = some (.int .i64)) (h1 : P.underlying f1.type = some (.int .i64))
    (hd : DataW.Trod enc P w 0 (fun _ => true) true t (.slice a0 len cap) d ps) : ∃ x y : Nat → Int, RdP w a0 len x y ∧ len ≤ maxLen := by
  obtain ⟨fuel, hf⟩ := hd
  rcases open_slice ht hf with ⟨hcs, _⟩ | ⟨a, len', cap', m, n, D, Pl, hcs, _, hl, hm, hmm, _, hx⟩
  · simp [Value.cells] at hcs
    obtain ⟨rfl, rfl, rfl⟩ := hcs
    exact ⟨fun _ => 0, fun _ => 0, .inl rfl, by unfold maxLen; omega⟩
  · simp [Value.cells] at hcs
    obtain ⟨rfl, rfl, rfl⟩ := hcs
    simp only [if_true] at hmm
    subst hmm
    have hcell : ∀ j, j < len → ∃ q : Int × Int, w.cell? (a.add (j * 2)) = some (.int .i64 q.1) ∧ w.cell? (a.add (j * 2 + 1)) = some (.int .i64 q.2) := fun j hj => by
      obtain ⟨cs', hc, ht'⟩ := hx j (by omega)
      rw [hC] at hc
      obtain ⟨_, hcl, hat⟩ := World.cells?_some hc
      obtain ⟨y0, y1, n', _, _, g0, g1⟩ := trod_struct2 he ht'
      obtain ⟨o0, k0⟩ := hone_of hone 0 f0 rfl
      obtain ⟨o1, k1⟩ := hone_of hone 1 f1 rfl
      match cs', hcl with
      | [c0, c1], _ =>
        rw [o0, k0] at g0
        rw [o1, k1] at g1
        obtain ⟨u, hu, _⟩ := trod_int_inv h0 (by simpa using g0)
        obtain ⟨v, hv, _⟩ := trod_int_inv h1 (by simpa using g1)
        have q0 := hat 0 (by omega)
        have q1 := hat 1 (by omega)
        rw [Go.Deep.add_add] at q0 q1
        refine ⟨(u, v), ?_, ?_⟩
        · rw [show j * 2 = j * 2 + 0 from rfl, q0]; simp [hu]
        · rw [q1]; simp [hv]
    obtain ⟨F, hF⟩ := Go.Deep.choose_lt (n := len) (p := fun j (q : Int × Int) => w.cell? (a.add (j * 2)) = some (.int .i64 q.1) ∧ w.cell? (a.add (j * 2 + 1)) = some (.int .i64 q.2)) hcell
    refine ⟨fun j => (F j).1, fun j => (F j).2, ?_, by omega⟩
    by_cases hl0 : len = 0
    · exact .inl hl0
    · obtain ⟨b, off, spot⟩ := a
      have q1 := (hF 0 (by omega)).1
      have hspot : spot = none := by simpa [Addr.add] using World.cell?_spot q1
      subst hspot
      refine .inr ⟨b, off, rfl, World.block_lt_of_cell? w _ q1, fun j hj => ?_⟩
      have q2 := (hF j hj).1
      have q3 := (hF j hj).2
      rw [add_plain] at q2 q3
      exact ⟨q2, q3⟩

theorem open_pair {H : Type} {enc : TypeId × Value → H} {P : Program} {w : World} {r : Reach} {b0 : Nat} {t : TypeId} {f0 f1 : Field} {v : Value} {d : DataW H} {ps : List MemPlace} {base : Nat} {spare : Nat → Bool} {held : Bool}
    (hs : P.underlying t = some (.struct #[f0, f1])) (hone : oneCellFields P #[f0, f1] = true) (hC : P.cellsOf t = 2) (h0 : P.underlying f0.type = some (.int .i64)) (h1 : P.underlying f1.type = some (.int .i64))
    (hv : Value.okWide P w r b0 t v) (h : DataW.Trod enc P w base spare held t v d ps) : ∃ a b : Int, v = .agg #[.int .i64 a, .int .i64 b] := by
  obtain ⟨v0, v1, y0, y1, n, rfl, _, _, g0, g1⟩ := open_agg2 hs hone hC hv h
  obtain ⟨a, rfl, _⟩ := trod_int_inv h0 g0
  obtain ⟨b, rfl, _⟩ := trod_int_inv h1 g1
  exact ⟨a, b, rfl⟩
end Go.Proofs.Ytbmbgailhiepbaa
