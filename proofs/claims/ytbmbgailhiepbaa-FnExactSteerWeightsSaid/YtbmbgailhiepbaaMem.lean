/- Memory words for the walks: what a slice reads as (Rd), a row that the call made (Own), what is left alone (Kept); no program in sight. -/
import Derived.WalkKit
import Derived.ProofKit
import Derived.OpenShut
import Derived.SizedLaws
import Derived.WalkLawsBesides
import Derived.Lib.Hide
import Derived.Deep.Slices
import Derived.Laws.Cover2
namespace Go.Proofs.Ytbmbgailhiepbaa
open Go.RowKit

/-- The slice with this address reads as the n values f 0, f 1, ..; each of one cell. -/
def Rd (w : World) (ad : Option Addr) (n : Nat) (f : Nat → Value) : Prop :=
  n = 0 ∨ ∃ b off, ad = some ⟨b, off, none⟩ ∧ b < w.heap.size ∧ ∀ j, j < n → w.cell? ⟨b, off + j, none⟩ = some (f j)

/-- A slice value whose row was made by the call itself: in a block from lo on and below hi; nothing of it is frozen. -/
def Own (w : World) (lo hi : Nat) (e : TypeId) (v : Value) (n : Nat) (f : Nat → Value) : Prop :=
  (v = .slice none 0 0 ∧ n = 0) ∨
  ∃ g cap cur, v = .slice (some ⟨g, 0, none⟩) n cap ∧ lo ≤ g ∧ g < hi ∧ w.heap[g]? = some (.cells cur e (0, 0)) ∧ n ≤ cap ∧ cap ≤ maxLen ∧ cur.size = cap ∧ ∀ j, j < n → cur[j]? = some (f j)

/-- Blocks that were there, but for those from lo on and below hi, are as they were. -/
structure Kept (w w' : World) (lo hi : Nat) : Prop where
  os : w'.os = w.os
  tape : w'.tape = w.tape
  output : w'.output = w.output
  size : w.heap.size ≤ w'.heap.size
  block : ∀ k, k < w.heap.size → (k < lo ∨ hi ≤ k) → w'.heap[k]? = w.heap[k]?

theorem Kept.of_below {w w' : World} (h : Below w.heap.size w w') (lo hi : Nat) : Kept w w' lo hi :=
  ⟨h.os, h.tape, h.output, h.size, fun k hk _ => h.block k hk⟩

theorem Kept.below {w w' : World} {lo hi B : Nat} (h : Kept w w' lo hi) (hB : B ≤ lo) (hs : B ≤ w.heap.size) : Below B w w' :=
  ⟨h.os, h.tape, h.output, h.size, fun k hk => h.block k (by omega) (by omega)⟩

theorem Own.lt {w : World} {lo hi : Nat} {e : TypeId} {v : Value} {n : Nat} {f : Nat → Value} (h : Own w lo hi e v n f) : v = .slice none 0 0 ∧ n = 0 ∨ ∃ g cap, v = .slice (some ⟨g, 0, none⟩) n cap ∧ lo ≤ g ∧ g < hi ∧ g < w.heap.size := by
  rcases h with h | ⟨g, cap, cur, h1, h2, h3, h4, _⟩
  · exact .inl h
  · exact .inr ⟨g, cap, h1, h2, h3, (Array.getElem?_eq_some_iff.1 h4).1⟩

/-- What is owned stays, where its blocks were left alone. -/
theorem Own.kept {w w' : World} {lo hi lo' hi' : Nat} {e : TypeId} {v : Value} {n : Nat} {f : Nat → Value} (h : Own w lo hi e v n f) (hk : Kept w w' lo' hi') (hd : hi ≤ lo' ∨ hi' ≤ lo) : Own w' lo hi e v n f := by
  rcases h with h | ⟨g, cap, cur, h1, h2, h3, h4, h5⟩
  · exact .inl h
  · refine .inr ⟨g, cap, cur, h1, h2, h3, ?_, h5⟩
    rw [hk.block g (Array.getElem?_eq_some_iff.1 h4).1 (by omega)]
    exact h4

theorem Own.below {w w' : World} {lo hi B : Nat} {e : TypeId} {v : Value} {n : Nat} {f : Nat → Value} (h : Own w lo hi e v n f) (hb : Below B w w') (hd : hi ≤ B) : Own w' lo hi e v n f := by
  rcases h with h | ⟨g, cap, cur, h1, h2, h3, h4, h5⟩
  · exact .inl h
  · exact .inr ⟨g, cap, cur, h1, h2, h3, by rw [hb.block g (by omega)]; exact h4, h5⟩

theorem Own.wider {w : World} {lo hi lo' hi' : Nat} {e : TypeId} {v : Value} {n : Nat} {f : Nat → Value} (h : Own w lo hi e v n f) (h1 : lo' ≤ lo) (h2 : hi ≤ hi') : Own w lo' hi' e v n f := by
  rcases h with h | ⟨g, cap, cur, a, b, c, d⟩
  · exact .inl h
  · exact .inr ⟨g, cap, cur, a, by omega, by omega, d⟩

theorem Own.nil (w : World) (lo hi : Nat) (e : TypeId) (f : Nat → Value) : Own w lo hi e (.slice none 0 0) 0 f := .inl ⟨rfl, rfl⟩

/-- A slice literal without elements. -/
theorem Own.empty (w : World) (e : TypeId) (f : Nat → Value) : Own (w.alloc (.cells #[] e)) w.heap.size (w.alloc (.cells #[] e)).heap.size e (.slice (some ⟨w.heap.size, 0, none⟩) 0 0) 0 f :=
  .inr ⟨w.heap.size, 0, #[], rfl, Nat.le_refl _, by simp, heap_alloc_new w _, Nat.le_refl _, Nat.zero_le _, rfl, fun j hj => by omega⟩
theorem below_alloc (w : World) (o : Obj) : Below w.heap.size w (w.alloc o) := (Below.refl _ _).alloc (Nat.le_refl _) o

theorem Own.congr {w : World} {lo hi : Nat} {e : TypeId} {v : Value} {n : Nat} {f g : Nat → Value} (h : Own w lo hi e v n f) (hfg : ∀ j, j < n → f j = g j) : Own w lo hi e v n g := by
  rcases h with h | ⟨b, cap, cur, a1, a2, a3, a4, a5, a6, a7, a8⟩
  · exact .inl h
  · exact .inr ⟨b, cap, cur, a1, a2, a3, a4, a5, a6, a7, fun j hj => by rw [a8 j hj, hfg j hj]⟩

/-- An owned slice as an argument. -/
theorem Own.rd {w : World} {lo hi : Nat} {e : TypeId} {v : Value} {n : Nat} {f : Nat → Value} (h : Own w lo hi e v n f) : ∃ ad cap, v = .slice ad n cap ∧ Rd w ad n f := by
  rcases h with ⟨rfl, rfl⟩ | ⟨g, cap, cur, rfl, h2, h3, h4, h5, h6, h7, h8⟩
  · exact ⟨none, 0, rfl, .inl rfl⟩
  · refine ⟨_, cap, rfl, .inr ⟨g, 0, rfl, (Array.getElem?_eq_some_iff.1 h4).1, fun j hj => ?_⟩⟩
    rw [Nat.zero_add, cell_of_row w g j cur e (0, 0) h4]
    exact h8 j hj

theorem Own.rd2 {w : World} {lo hi : Nat} {e : TypeId} {ad : Option Addr} {cap : Nat} {n : Nat} {f : Nat → Value} (h : Own w lo hi e (.slice ad n cap) n f) : Rd w ad n f := by
  obtain ⟨ad', cap', h1, h2⟩ := h.rd
  simp at h1
  rw [h1.1]
  exact h2

theorem Rd.below {w w' : World} {ad : Option Addr} {n : Nat} {f : Nat → Value} (h : Rd w ad n f) (hb : Below w.heap.size w w') : Rd w' ad n f := by
  rcases h with h | ⟨b, off, h1, h2, h3⟩
  · exact .inl h
  · exact .inr ⟨b, off, h1, Nat.lt_of_lt_of_le h2 hb.size, fun j hj => by rw [hb.cell (p := ⟨b, off + j, none⟩) h2]; exact h3 j hj⟩

theorem Rd.congr {w : World} {ad : Option Addr} {n : Nat} {f g : Nat → Value} (h : Rd w ad n f) (hfg : ∀ j, j < n → f j = g j) : Rd w ad n g := by
  rcases h with h | ⟨b, off, h1, h2, h3⟩
  · exact .inl h
  · exact .inr ⟨b, off, h1, h2, fun j hj => by rw [h3 j hj, hfg j hj]⟩

/-- One read. -/
theorem Rd.at {w : World} {ad : Option Addr} {n : Nat} {f : Nat → Value} (h : Rd w ad n f) {k : Nat} (hk : k < n) : ∃ b off, ad = some ⟨b, off, none⟩ ∧ b < w.heap.size ∧ ∀ j, j < n → w.cell? ⟨b, off + j, none⟩ = some (f j) := by
  rcases h with h | h
  · omega
  · exact h

theorem list_eq_range {xs : List Value} {n : Nat} {f : Nat → Value} (hl : xs.length = n) (h : ∀ j, j < n → xs[j]? = some (f j)) : xs = (List.range n).map f := by
  apply List.ext_getElem?
  intro i
  by_cases hi : i < n
  · rw [h i hi]; simp [hi]
  · rw [List.getElem?_eq_none (by omega)]; simp [Nat.not_lt.1 hi]

theorem Own.row {w : World} {lo hi : Nat} {e : TypeId} {v : Value} {n : Nat} {f : Nat → Value} (h : Own w lo hi e v n f) : w.ownsRow lo e 1 v n ((List.range n).map f) := by
  rcases h with ⟨rfl, rfl⟩ | ⟨g, cap, cur, rfl, h2, h3, h4, h5, h6, h7, h8⟩
  · exact ⟨by simp, .inl ⟨rfl, rfl⟩⟩
  · refine ⟨by simp, .inr ⟨g, cap, cur, rfl, h2, h4, h5, h6, by omega, ?_⟩⟩
    apply list_eq_range
    · rw [List.length_take]; simp; omega
    · intro j hj
      rw [List.getElem?_take, if_pos (by omega), Array.getElem?_toList]
      exact h8 j hj

theorem Own.of_row {w : World} {lo : Nat} {e : TypeId} {v : Value} {n : Nat} {xs : List Value} {f : Nat → Value} (h : w.ownsRow lo e 1 v n xs) (hx : ∀ j, j < n → xs[j]? = some (f j)) : Own w lo w.heap.size e v n f := by
  obtain ⟨h0, h1⟩ := h
  rcases h1 with h | ⟨g, cap, cur, rfl, h2, h3, h4, h5, h6, h7⟩
  · exact .inl h
  · refine .inr ⟨g, cap, cur, rfl, h2, (Array.getElem?_eq_some_iff.1 h3).1, h3, h4, h5, by omega, fun j hj => ?_⟩
    have e := hx j hj
    rw [← h7, List.getElem?_take, if_pos (by omega), Array.getElem?_toList] at e
    exact e

/-- The law on append leaves this of an owned row. -/
theorem Own.pushed {w' : World} {lo : Nat} {e : TypeId} {v' : Value} {n : Nat} {f : Nat → Value} {u : Value} (h : w'.ownsRow lo e 1 v' (n + 1) ((List.range n).map f ++ [u])) (hu : f n = u) : Own w' lo w'.heap.size e v' (n + 1) f := by
  refine Own.of_row h (fun j hj => ?_)
  by_cases hjn : j < n
  · rw [List.getElem?_append_left (by simpa using hjn)]; simp [hjn]
  · have : j = n := by omega
    subst this
    rw [List.getElem?_append_right (by simp)]; simp [hu]

theorem Own.made {w' : World} {lo : Nat} {e : TypeId} {v' : Value} {n : Nat} {z : Value} (h : w'.ownsRow lo e 1 v' n (madeCells #[z] (n * 1)).toList) : Own w' lo w'.heap.size e v' n (fun _ => z) := by
  refine Own.of_row h (fun j hj => ?_)
  have h1 : j % 1 = 0 := Nat.mod_one j
  simp [madeCells, hj, h1]

theorem Own.block {w : World} {lo hi : Nat} {e : TypeId} {n cap g : Nat} {f : Nat → Value} (h : Own w lo hi e (.slice (some ⟨g, 0, none⟩) n cap) n f) : ∃ cur, w.heap[g]? = some (.cells cur e (0, 0)) ∧ lo ≤ g ∧ g < hi ∧ n ≤ cap ∧ cap ≤ maxLen ∧ cur.size = cap ∧ ∀ j, j < n → cur[j]? = some (f j) := by
  rcases h with ⟨h, _⟩ | ⟨g', cap', cur, h1, h2, h3, h4, h5, h6, h7, h8⟩
  · simp at h
  · simp at h1
    obtain ⟨rfl, rfl⟩ := h1
    exact ⟨cur, h4, h2, h3, h5, h6, h7, h8⟩

theorem Own.cell {w : World} {lo hi : Nat} {e : TypeId} {n cap g : Nat} {f : Nat → Value} (h : Own w lo hi e (.slice (some ⟨g, 0, none⟩) n cap) n f) {j : Nat} (hj : j < n) : w.cell? ⟨g, j, none⟩ = some (f j) := by
  obtain ⟨cur, h1, _, _, _, _, _, h8⟩ := h.block
  rw [cell_of_row w g j cur e (0, 0) h1]
  exact h8 j hj

theorem Own.frozen {w : World} {lo hi : Nat} {e : TypeId} {n cap g : Nat} {f : Nat → Value} (h : Own w lo hi e (.slice (some ⟨g, 0, none⟩) n cap) n f) (j : Nat) : w.frozen? ⟨g, j, none⟩ = false := by
  obtain ⟨cur, h1, _⟩ := h.block
  exact frozen_of_row w g j cur e h1

/-- One store into an owned row. -/
theorem Own.store {w : World} {lo hi : Nat} {e : TypeId} {n cap g : Nat} {f : Nat → Value} (h : Own w lo hi e (.slice (some ⟨g, 0, none⟩) n cap) n f) (j : Nat) (u : Value) :
    Own (w.setCell ⟨g, j, none⟩ u) lo hi e (.slice (some ⟨g, 0, none⟩) n cap) n (fun i => if i = j then u else f i) ∧ Kept w (w.setCell ⟨g, j, none⟩ u) lo hi := by
  obtain ⟨cur, h1, h2, h3, h4, h5, h6, h8⟩ := h.block
  refine ⟨.inr ⟨g, cap, cur.setIfInBounds j u, rfl, h2, h3, heap_setCell_same w g j cur e u h1, h4, h5, by simpa using h6, fun i hi => ?_⟩,
    ⟨rfl, rfl, rfl, by simp [World.setCell], fun k _ hk => heap_setCell_other w ⟨g, j, none⟩ k u (by show k ≠ g; omega)⟩⟩
  rw [Array.getElem?_setIfInBounds]
  by_cases hij : j = i
  · subst hij
    simp [show j < cur.size by omega]
  · rw [if_neg hij, h8 i hi]
    show some (f i) = some (if i = j then u else f i)
    rw [if_neg (fun e => hij e.symm)]

theorem Kept.refl (w : World) (lo hi : Nat) : Kept w w lo hi := ⟨rfl, rfl, rfl, Nat.le_refl _, fun _ _ _ => rfl⟩
theorem Kept.trans {a b c : World} {lo hi : Nat} (h : Kept a b lo hi) (k : Kept b c lo hi) : Kept a c lo hi :=
  ⟨k.os.trans h.os, k.tape.trans h.tape, k.output.trans h.output, Nat.le_trans h.size k.size, fun i hi h' => (k.block i (Nat.lt_of_lt_of_le hi h.size) h').trans (h.block i hi h')⟩
theorem Kept.drewN {a b : World} {lo hi : Nat} (h : Kept a b lo hi) (n : Nat) : Kept a (b.drewN n) lo hi := ⟨h.os, h.tape, h.output, h.size, h.block⟩
theorem below_drewN {B : Nat} {a b : World} (h : Below B a b) (n : Nat) : Below B a (b.drewN n) := ⟨h.os, h.tape, h.output, h.size, h.block⟩
theorem Own.drewN {w : World} {lo hi : Nat} {e : TypeId} {v : Value} {n : Nat} {f : Nat → Value} (h : Own w lo hi e v n f) (m : Nat) : Own (w.drewN m) lo hi e v n f := h
theorem Rd.drewN {w : World} {ad : Option Addr} {n : Nat} {f : Nat → Value} (h : Rd w ad n f) (m : Nat) : Rd (w.drewN m) ad n f := h

theorem below_undrew {B : Nat} {a b : World} {n : Nat} (h : Below B (a.drewN n) b) : Below B a b := ⟨h.os, h.tape, h.output, h.size, h.block⟩
theorem kept_undrew {a b : World} {n lo hi : Nat} (h : Kept (a.drewN n) b lo hi) : Kept a b lo hi := ⟨h.os, h.tape, h.output, h.size, h.block⟩

/-- An owned row that is there still. -/
def Live (w : World) (lo hi : Nat) (e : TypeId) (v : Value) (n : Nat) (f : Nat → Value) : Prop := Own w lo hi e v n f ∧ hi ≤ w.heap.size
theorem Live.mk' {w : World} {lo : Nat} {e : TypeId} {v : Value} {n : Nat} {f : Nat → Value} (h : Own w lo w.heap.size e v n f) : Live w lo w.heap.size e v n f := ⟨h, Nat.le_refl _⟩
theorem Live.below {w w' : World} {lo hi : Nat} {e : TypeId} {v : Value} {n : Nat} {f : Nat → Value} (h : Live w lo hi e v n f) (hb : Below w.heap.size w w') : Live w' lo hi e v n f :=
  ⟨h.1.below hb h.2, Nat.le_trans h.2 hb.size⟩
theorem Live.kept {w w' : World} {lo hi lo' hi' : Nat} {e : TypeId} {v : Value} {n : Nat} {f : Nat → Value} (h : Live w lo hi e v n f) (hk : Kept w w' lo' hi') (hd : hi ≤ lo' ∨ hi' ≤ lo) : Live w' lo hi e v n f :=
  ⟨h.1.kept hk hd, Nat.le_trans h.2 hk.size⟩
theorem Live.marked {w w' : World} {lo hi : Nat} {e : TypeId} {v : Value} {n : Nat} {f g : Nat → Value} (h : Live w lo hi e v n f) (hk : Kept w w' lo hi) (ho : Own w' lo hi e v n g) : Live w' lo hi e v n g :=
  ⟨ho, Nat.le_trans h.2 hk.size⟩
theorem below_next {w a b : World} (h : Below w.heap.size w a) (hb : Below a.heap.size a b) : Below w.heap.size w b := h.trans (hb.mono h.size)
theorem below_kept {w a b : World} {lo hi : Nat} (h : Below w.heap.size w a) (hk : Kept a b lo hi) (hlo : w.heap.size ≤ lo) : Below w.heap.size w b := h.trans (hk.below hlo h.size)

/-- A callee that leaves the world alone, inside a region that draws, whatever the class of worlds. -/
theorem quiet_same {P : Program} {f : FuncId} {args : Array Value} {W : World} {v : Value} {C : World → Prop}
    (h : Calls P f args W fun e w' => e = .returned v ∧ w' = W) (hC : C W) : Calls P f args W fun e w'' => e = .returned v ∧ C w'' :=
  h.mono fun _ _ ⟨he, hw⟩ => ⟨he, by rw [hw]; exact hC⟩
theorem run_store_float {P : Program} {w : World} {a : Addr} {m : Mode} (k : FloatKind) (b : Nat) : (store a (.float k b) m).run P w = stored P w a (.float k b) m := run_store P w a _ m rfl
theorem run_store_complex {P : Program} {w : World} {a : Addr} {m : Mode} (k : FloatKind) (b c : Nat) : (store a (.complex k b c) m).run P w = stored P w a (.complex k b c) m := run_store P w a _ m rfl
attribute [go_sem] run_store_float run_store_complex

theorem ret1 {a b : Value} (h : a = b) : Ending.returned a = .returned b := by rw [h]
end Go.Proofs.Ytbmbgailhiepbaa
