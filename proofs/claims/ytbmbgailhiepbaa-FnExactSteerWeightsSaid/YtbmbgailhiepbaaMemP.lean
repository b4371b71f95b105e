/- Memory words for rows of structs of two int64 cells; no program in sight. -/
import Derived.Test.YtbmbgailhiepbaaMem
namespace Go.Proofs.Ytbmbgailhiepbaa
open Go.RowKit

def iv (a : Int) : Value := .int .i64 a
def RdP (w : World) (ad : Option Addr) (n : Nat) (x y : Nat → Int) : Prop :=
  n = 0 ∨ ∃ b off, ad = some ⟨b, off, none⟩ ∧ b < w.heap.size ∧ ∀ j, j < n → w.cell? ⟨b, off + j * 2, none⟩ = some (.int .i64 (x j)) ∧ w.cell? ⟨b, off + j * 2 + 1, none⟩ = some (.int .i64 (y j))
def OwnP (w : World) (lo hi : Nat) (e : TypeId) (v : Value) (n : Nat) (x y : Nat → Int) : Prop :=
  ∃ g cur, v = .slice (some ⟨g, 0, none⟩) n n ∧ lo ≤ g ∧ g < hi ∧ w.heap[g]? = some (.cells cur e (0, 0)) ∧ cur.size = n * 2 ∧ ∀ j, j < n → cur[j * 2]? = some (.int .i64 (x j)) ∧ cur[j * 2 + 1]? = some (.int .i64 (y j))
def LiveP (w : World) (lo hi : Nat) (e : TypeId) (v : Value) (n : Nat) (x y : Nat → Int) : Prop := OwnP w lo hi e v n x y ∧ hi ≤ w.heap.size

theorem RdP.below {w w' : World} {ad : Option Addr} {n : Nat} {x y : Nat → Int} (h : RdP w ad n x y) (hb : Below w.heap.size w w') : RdP w' ad n x y := by
  rcases h with h | ⟨b, off, h1, h2, h3⟩
  · exact .inl h
  · exact .inr ⟨b, off, h1, Nat.lt_of_lt_of_le h2 hb.size, fun j hj => ⟨by rw [hb.cell (p := ⟨b, off + j * 2, none⟩) h2]; exact (h3 j hj).1, by rw [hb.cell (p := ⟨b, off + j * 2 + 1, none⟩) h2]; exact (h3 j hj).2⟩⟩
theorem RdP.at {w : World} {ad : Option Addr} {n : Nat} {x y : Nat → Int} (h : RdP w ad n x y) {k : Nat} (hk : k < n) : ∃ b off, ad = some ⟨b, off, none⟩ ∧ b < w.heap.size ∧ ∀ j, j < n → w.cell? ⟨b, off + j * 2, none⟩ = some (.int .i64 (x j)) ∧ w.cell? ⟨b, off + j * 2 + 1, none⟩ = some (.int .i64 (y j)) := by
  rcases h with h | h
  · omega
  · exact h
theorem RdP.drewN {w : World} {ad : Option Addr} {n : Nat} {x y : Nat → Int} (h : RdP w ad n x y) (m : Nat) : RdP (w.drewN m) ad n x y := h
theorem OwnP.below {w w' : World} {lo hi B : Nat} {e : TypeId} {v : Value} {n : Nat} {x y : Nat → Int} (h : OwnP w lo hi e v n x y) (hb : Below B w w') (hd : hi ≤ B) : OwnP w' lo hi e v n x y := by
  obtain ⟨g, cur, h1, h2, h3, h4, h5⟩ := h
  exact ⟨g, cur, h1, h2, h3, by rw [hb.block g (by omega)]; exact h4, h5⟩
theorem OwnP.kept {w w' : World} {lo hi lo' hi' : Nat} {e : TypeId} {v : Value} {n : Nat} {x y : Nat → Int} (h : OwnP w lo hi e v n x y) (hk : Kept w w' lo' hi') (hd : hi ≤ lo' ∨ hi' ≤ lo) : OwnP w' lo hi e v n x y := by
  obtain ⟨g, cur, h1, h2, h3, h4, h5⟩ := h
  exact ⟨g, cur, h1, h2, h3, by rw [hk.block g (Array.getElem?_eq_some_iff.1 h4).1 (by omega)]; exact h4, h5⟩
theorem OwnP.wider {w : World} {lo hi lo' hi' : Nat} {e : TypeId} {v : Value} {n : Nat} {x y : Nat → Int} (h : OwnP w lo hi e v n x y) (h1 : lo' ≤ lo) (h2 : hi ≤ hi') : OwnP w lo' hi' e v n x y := by
  obtain ⟨g, cur, a, b, c, d⟩ := h
  exact ⟨g, cur, a, by omega, by omega, d⟩
theorem OwnP.congr {w : World} {lo hi : Nat} {e : TypeId} {v : Value} {n : Nat} {x y x' y' : Nat → Int} (h : OwnP w lo hi e v n x y) (hx : ∀ j, j < n → x j = x' j ∧ y j = y' j) : OwnP w lo hi e v n x' y' := by
  obtain ⟨g, cur, a, b, c, d, e, f⟩ := h
  exact ⟨g, cur, a, b, c, d, e, fun j hj => by rw [← (hx j hj).1, ← (hx j hj).2]; exact f j hj⟩
theorem OwnP.cells {w : World} {lo hi : Nat} {e : TypeId} {n cap g : Nat} {x y : Nat → Int} (h : OwnP w lo hi e (.slice (some ⟨g, 0, none⟩) n cap) n x y) {j : Nat} (hj : j < n) : w.cell? ⟨g, j * 2, none⟩ = some (.int .i64 (x j)) ∧ w.cell? ⟨g, j * 2 + 1, none⟩ = some (.int .i64 (y j)) ∧ w.frozen? ⟨g, j * 2, none⟩ = false ∧ w.frozen? ⟨g, j * 2 + 1, none⟩ = false := by
  obtain ⟨g', cur, h1, h2, h3, h4, h5, h6⟩ := h
  simp at h1
  obtain ⟨rfl, rfl⟩ := h1
  exact ⟨by rw [cell_of_row w g _ cur e (0, 0) h4]; exact (h6 j hj).1, by rw [cell_of_row w g _ cur e (0, 0) h4]; exact (h6 j hj).2, frozen_of_row w g _ cur e h4, frozen_of_row w g _ cur e h4⟩
theorem OwnP.form {w : World} {lo hi : Nat} {e : TypeId} {v : Value} {n : Nat} {x y : Nat → Int} (h : OwnP w lo hi e v n x y) : ∃ g, v = .slice (some ⟨g, 0, none⟩) n n ∧ lo ≤ g ∧ g < hi ∧ g < w.heap.size := by
  obtain ⟨g, cur, h1, h2, h3, h4, _⟩ := h
  exact ⟨g, h1, h2, h3, (Array.getElem?_eq_some_iff.1 h4).1⟩
theorem OwnP.rd {w : World} {lo hi : Nat} {e : TypeId} {v : Value} {n : Nat} {x y : Nat → Int} (h : OwnP w lo hi e v n x y) : ∃ ad cap, v = .slice ad n cap ∧ RdP w ad n x y := by
  obtain ⟨g, rfl, h2, h3, h4⟩ := h.form
  refine ⟨_, n, rfl, .inr ⟨g, 0, rfl, h4, fun j hj => ?_⟩⟩
  rw [Nat.zero_add]
  exact ⟨(h.cells hj).1, (h.cells hj).2.1⟩
theorem OwnP.rd2 {w : World} {lo hi : Nat} {e : TypeId} {ad : Option Addr} {cap n : Nat} {x y : Nat → Int} (h : OwnP w lo hi e (.slice ad n cap) n x y) : RdP w ad n x y := by
  obtain ⟨ad', cap', h1, h2⟩ := h.rd
  simp at h1
  rw [h1.1]
  exact h2

/-- One struct stored, cell by cell. -/
theorem OwnP.store {w : World} {lo hi : Nat} {e : TypeId} {n cap g : Nat} {x y : Nat → Int} (h : OwnP w lo hi e (.slice (some ⟨g, 0, none⟩) n cap) n x y) (k : Nat) (a b : Int) :
    OwnP ((w.setCell ⟨g, k * 2, none⟩ (.int .i64 a)).setCell ⟨g, k * 2 + 1, none⟩ (.int .i64 b)) lo hi e (.slice (some ⟨g, 0, none⟩) n cap) n (fun j => if j = k then a else x j) (fun j => if j = k then b else y j) ∧
    Kept w ((w.setCell ⟨g, k * 2, none⟩ (.int .i64 a)).setCell ⟨g, k * 2 + 1, none⟩ (.int .i64 b)) lo hi := by
  obtain ⟨g', cur, h1, h2, h3, h4, h5, h6⟩ := h
  simp at h1
  obtain ⟨rfl, rfl⟩ := h1
  have q1 := heap_setCell_same w g (k * 2) cur e (.int .i64 a) h4
  have q2 := heap_setCell_same _ g (k * 2 + 1) _ e (.int .i64 b) q1
  refine ⟨⟨g, _, rfl, h2, h3, q2, by simpa using h5, fun j hj => ?_⟩, ⟨rfl, rfl, rfl, by simp [World.setCell], fun b' _ hb => ?_⟩⟩
  · have hs : cur.size = cap * 2 := h5
    have h7 := h6 j hj
    by_cases hjk : j = k
    · subst hjk
      have e1 : j * 2 + 1 ≠ j * 2 := by omega
      have e2 : j * 2 < cur.size := by omega
      have e3 : j * 2 + 1 < cur.size := by omega
      simp [e2, e3]
    · have e1 : ¬ k * 2 + 1 = j * 2 := by omega
      have e2 : ¬ k * 2 = j * 2 := by omega
      have e3 : ¬ k * 2 = j * 2 + 1 := by omega
      have e4 : ¬ k * 2 + 1 = j * 2 + 1 := by omega
      refine ⟨?_, ?_⟩
      · show _ = some (Value.int .i64 (if j = k then a else x j))
        rw [Array.getElem?_setIfInBounds, if_neg e1, Array.getElem?_setIfInBounds, if_neg e2, if_neg hjk]
        exact h7.1
      · show _ = some (Value.int .i64 (if j = k then b else y j))
        rw [Array.getElem?_setIfInBounds, if_neg e4, Array.getElem?_setIfInBounds, if_neg e3, if_neg hjk]
        exact h7.2
  · rw [heap_setCell_other _ ⟨g, k * 2 + 1, none⟩ b' _ (by show b' ≠ g; omega), heap_setCell_other w ⟨g, k * 2, none⟩ b' _ (by show b' ≠ g; omega)]

theorem LiveP.mk' {w : World} {lo : Nat} {e : TypeId} {v : Value} {n : Nat} {x y : Nat → Int} (h : OwnP w lo w.heap.size e v n x y) : LiveP w lo w.heap.size e v n x y := ⟨h, Nat.le_refl _⟩
theorem LiveP.below {w w' : World} {lo hi : Nat} {e : TypeId} {v : Value} {n : Nat} {x y : Nat → Int} (h : LiveP w lo hi e v n x y) (hb : Below w.heap.size w w') : LiveP w' lo hi e v n x y :=
  ⟨h.1.below hb h.2, Nat.le_trans h.2 hb.size⟩
theorem LiveP.kept {w w' : World} {lo hi lo' hi' : Nat} {e : TypeId} {v : Value} {n : Nat} {x y : Nat → Int} (h : LiveP w lo hi e v n x y) (hk : Kept w w' lo' hi') (hd : hi ≤ lo' ∨ hi' ≤ lo) : LiveP w' lo hi e v n x y :=
  ⟨h.1.kept hk hd, Nat.le_trans h.2 hk.size⟩
theorem LiveP.marked {w w' : World} {lo hi : Nat} {e : TypeId} {v : Value} {n : Nat} {x y x' y' : Nat → Int} (h : LiveP w lo hi e v n x y) (hk : Kept w w' lo hi) (ho : OwnP w' lo hi e v n x' y') : LiveP w' lo hi e v n x' y' :=
  ⟨ho, Nat.le_trans h.2 hk.size⟩
end Go.Proofs.Ytbmbgailhiepbaa
