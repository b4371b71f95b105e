/- Memory words for matrices: a row of rows, each row in a block of its own; no program in sight. -/
import Derived.Test.YtjhpibbhlacigaaMem
namespace Go.Proofs.Ytjhpibbhlacigaa
open Go.RowKit

theorem Own.same {w w' : World} {lo hi : Nat} {e : TypeId} {v : Value} {n : Nat} {f : Nat → Value} (h : Own w lo hi e v n f) (hs : ∀ b, lo ≤ b → b < hi → b < w.heap.size → w'.heap[b]? = w.heap[b]?) : Own w' lo hi e v n f := by
  rcases h with h | ⟨g, cap, cur, h1, h2, h3, h4, h5⟩
  · exact .inl h
  · exact .inr ⟨g, cap, cur, h1, h2, h3, by rw [hs g h2 h3 (Array.getElem?_eq_some_iff.1 h4).1]; exact h4, h5⟩

/-- n rows of m elements: the outer row in elements of type e1, each row in elements of type e2. -/
structure MatR (w : World) (lo hi : Nat) (e1 e2 : TypeId) (v : Value) (n m : Nat) (row : Nat → Value) (g : Nat → Nat) (F : Nat → Nat → Value) : Prop where
  out : Own w lo hi e1 v n row
  rows : ∀ j, j < n → lo ≤ g j ∧ g j < hi ∧ (∃ c, row j = .slice (some ⟨g j, 0, none⟩) m c) ∧ Own w (g j) (g j + 1) e2 (row j) m (F j)
  inj : ∀ i j, i < n → j < n → g i = g j → i = j

def Mat (w : World) (lo hi : Nat) (e1 e2 : TypeId) (v : Value) (n m : Nat) (F : Nat → Nat → Value) : Prop := ∃ row g, MatR w lo hi e1 e2 v n m row g F

theorem MatR.nil (w : World) (lo hi : Nat) (e1 e2 : TypeId) (m : Nat) (row : Nat → Value) (g : Nat → Nat) (F : Nat → Nat → Value) : MatR w lo hi e1 e2 (.slice none 0 0) 0 m row g F :=
  ⟨Own.nil _ _ _ _ _, fun _ h => by omega, fun _ _ h => by omega⟩
theorem Mat.nil (w : World) (lo hi : Nat) (e1 e2 : TypeId) (m : Nat) (F : Nat → Nat → Value) : Mat w lo hi e1 e2 (.slice none 0 0) 0 m F :=
  ⟨fun _ => .nilIface, fun _ => 0, MatR.nil _ _ _ _ _ _ _ _ _⟩

theorem MatR.below {w w' : World} {lo hi B : Nat} {e1 e2 : TypeId} {v : Value} {n m : Nat} {row : Nat → Value} {g : Nat → Nat} {F : Nat → Nat → Value} (h : MatR w lo hi e1 e2 v n m row g F) (hb : Below B w w') (hd : hi ≤ B) : MatR w' lo hi e1 e2 v n m row g F :=
  ⟨h.out.below hb hd, fun j hj => by obtain ⟨a, b, c, d⟩ := h.rows j hj; exact ⟨a, b, c, d.below hb (by omega)⟩, h.inj⟩
theorem Mat.below {w w' : World} {lo hi B : Nat} {e1 e2 : TypeId} {v : Value} {n m : Nat} {F : Nat → Nat → Value} (h : Mat w lo hi e1 e2 v n m F) (hb : Below B w w') (hd : hi ≤ B) : Mat w' lo hi e1 e2 v n m F := by
  obtain ⟨row, g, h⟩ := h
  exact ⟨row, g, h.below hb hd⟩
theorem MatR.kept {w w' : World} {lo hi lo' hi' : Nat} {e1 e2 : TypeId} {v : Value} {n m : Nat} {row : Nat → Value} {g : Nat → Nat} {F : Nat → Nat → Value} (h : MatR w lo hi e1 e2 v n m row g F) (hk : Kept w w' lo' hi') (hd : hi ≤ lo' ∨ hi' ≤ lo) : MatR w' lo hi e1 e2 v n m row g F :=
  ⟨h.out.kept hk hd, fun j hj => by obtain ⟨a, b, c, d⟩ := h.rows j hj; exact ⟨a, b, c, d.kept hk (by omega)⟩, h.inj⟩
theorem Mat.kept {w w' : World} {lo hi lo' hi' : Nat} {e1 e2 : TypeId} {v : Value} {n m : Nat} {F : Nat → Nat → Value} (h : Mat w lo hi e1 e2 v n m F) (hk : Kept w w' lo' hi') (hd : hi ≤ lo' ∨ hi' ≤ lo) : Mat w' lo hi e1 e2 v n m F := by
  obtain ⟨row, g, h⟩ := h
  exact ⟨row, g, h.kept hk hd⟩
theorem MatR.wider {w : World} {lo hi lo' hi' : Nat} {e1 e2 : TypeId} {v : Value} {n m : Nat} {row : Nat → Value} {g : Nat → Nat} {F : Nat → Nat → Value} (h : MatR w lo hi e1 e2 v n m row g F) (h1 : lo' ≤ lo) (h2 : hi ≤ hi') : MatR w lo' hi' e1 e2 v n m row g F :=
  ⟨h.out.wider h1 h2, fun j hj => by obtain ⟨a, b, c, d⟩ := h.rows j hj; exact ⟨by omega, by omega, c, d⟩, h.inj⟩
theorem Mat.wider {w : World} {lo hi lo' hi' : Nat} {e1 e2 : TypeId} {v : Value} {n m : Nat} {F : Nat → Nat → Value} (h : Mat w lo hi e1 e2 v n m F) (h1 : lo' ≤ lo) (h2 : hi ≤ hi') : Mat w lo' hi' e1 e2 v n m F := by
  obtain ⟨row, g, h⟩ := h
  exact ⟨row, g, h.wider h1 h2⟩
theorem MatR.congr {w : World} {lo hi : Nat} {e1 e2 : TypeId} {v : Value} {n m : Nat} {row : Nat → Value} {g : Nat → Nat} {F G : Nat → Nat → Value} (h : MatR w lo hi e1 e2 v n m row g F) (hf : ∀ j i, j < n → i < m → F j i = G j i) : MatR w lo hi e1 e2 v n m row g G :=
  ⟨h.out, fun j hj => by obtain ⟨a, b, c, d⟩ := h.rows j hj; exact ⟨a, b, c, d.congr (fun i hi => hf j i hj hi)⟩, h.inj⟩
theorem Mat.congr {w : World} {lo hi : Nat} {e1 e2 : TypeId} {v : Value} {n m : Nat} {F G : Nat → Nat → Value} (h : Mat w lo hi e1 e2 v n m F) (hf : ∀ j i, j < n → i < m → F j i = G j i) : Mat w lo hi e1 e2 v n m G := by
  obtain ⟨row, g, h⟩ := h
  exact ⟨row, g, h.congr hf⟩

theorem Kept.drewN' {a b : World} {lo hi : Nat} (h : Kept a b lo hi) (n : Nat) : Kept (a.drewN n) b lo hi := ⟨h.os, h.tape, h.output, h.size, h.block⟩

/-- A row's block. -/
theorem MatR.rowBlock {w : World} {lo hi : Nat} {e1 e2 : TypeId} {v : Value} {n m : Nat} {row : Nat → Value} {g : Nat → Nat} {F : Nat → Nat → Value} (h : MatR w lo hi e1 e2 v n m row g F) {k : Nat} (hk : k < n) : ∃ cur, w.heap[g k]? = some (.cells cur e2 (0, 0)) := by
  obtain ⟨_, _, ⟨c, hc⟩, o⟩ := h.rows k hk
  rw [hc] at o
  rcases o with ⟨o, _⟩ | ⟨g', cap', cur, h1, h2, h3, h4, _⟩
  · simp at o
  · exact ⟨cur, by rw [show g k = g' by omega]; exact h4⟩

/-- The outer row's block is no row's block. -/
theorem MatR.apart {w : World} {lo hi : Nat} {e1 e2 : TypeId} (hne : e1 ≠ e2) {v : Value} {n m : Nat} {row : Nat → Value} {g : Nat → Nat} {F : Nat → Nat → Value} (h : MatR w lo hi e1 e2 v n m row g F) {k : Nat} (hk : k < n) : v.ownBlock ≠ some (g k) := by
  obtain ⟨cur, hcur⟩ := h.rowBlock hk
  rcases h.out with ⟨_, h0⟩ | ⟨G, cap, cur', rfl, h2, h3, h4, _⟩
  · omega
  · intro hh
    have : G = g k := by simpa [Value.ownBlock] using hh
    rw [this, hcur] at h4
    simp at h4
    exact hne h4.2.symm

/-- One row written anew. -/
theorem MatR.mark {w w' : World} {lo hi : Nat} {e1 e2 : TypeId} (hne : e1 ≠ e2) {v : Value} {n m : Nat} {row : Nat → Value} {g : Nat → Nat} {F : Nat → Nat → Value} (h : MatR w lo hi e1 e2 v n m row g F) {k : Nat} (hk : k < n)
    (K : Kept w w' (g k) (g k + 1)) {f : Nat → Value} (o : Own w' (g k) (g k + 1) e2 (row k) m f) : MatR w' lo hi e1 e2 v n m row g (fun j => if j = k then f else F j) ∧ Kept w w' lo hi := by
  have hap := h.apart hne hk
  have hlt : g k < w.heap.size := by
    obtain ⟨cur, hc⟩ := h.rowBlock hk
    exact (Array.getElem?_eq_some_iff.1 hc).1
  obtain ⟨q1, q2, _⟩ := h.rows k hk
  refine ⟨⟨?_, fun j hj => ?_, h.inj⟩, ⟨K.os, K.tape, K.output, K.size, fun b hb hd => K.block b hb (by omega)⟩⟩
  · rcases h.out with h0 | ⟨G, cap, cur, rfl, h2, h3, h4, h5⟩
    · exact .inl h0
    · refine .inr ⟨G, cap, cur, rfl, h2, h3, ?_, h5⟩
      have hG : G ≠ g k := fun e => hap (by simp [Value.ownBlock, e])
      rw [K.block G (Array.getElem?_eq_some_iff.1 h4).1 (by omega)]
      exact h4
  · obtain ⟨a, b, c, d⟩ := h.rows j hj
    by_cases hjk : j = k
    · subst hjk
      simp only [if_true]
      exact ⟨a, b, c, o⟩
    · rw [if_neg hjk]
      have : g j ≠ g k := fun e => hjk (h.inj j k hj hk e)
      exact ⟨a, b, c, d.kept K (by omega)⟩

/-- A row appended. -/
theorem MatR.pushed {w0 w' : World} {lo : Nat} {e1 e2 : TypeId} (hne : e1 ≠ e2) {v v' u : Value} {n m gk : Nat} {row : Nat → Value} {g : Nat → Nat} {F : Nat → Nat → Value} (h : MatR w0 lo w0.heap.size e1 e2 v n m row g F)
    (hu : ∃ c, u = .slice (some ⟨gk, 0, none⟩) m c) (ho : Own w0 gk (gk + 1) e2 u m (F n)) (hlo : lo ≤ gk) (hgk : gk < w0.heap.size) (hnew : ∀ j, j < n → g j ≠ gk)
    (hown : w'.ownsRow lo e1 1 v' (n + 1) ((List.range n).map row ++ [u])) (hvb : v.ownBlock ≠ some gk) (hsize : w0.heap.size ≤ w'.heap.size) (hgrow : ∀ b, b < w0.heap.size → some b ≠ v.ownBlock → w'.heap[b]? = w0.heap[b]?) :
    MatR w' lo w'.heap.size e1 e2 v' (n + 1) m (fun j => if j = n then u else row j) (fun j => if j = n then gk else g j) F := by
  refine ⟨?_, fun j hj => ?_, fun i j hi hj he => ?_⟩
  · refine Own.of_row hown (fun j hj => ?_)
    by_cases hjn : j < n
    · rw [List.getElem?_append_left (by simpa using hjn), if_neg (by omega)]; simp [hjn]
    · have : j = n := by omega
      subst this
      rw [List.getElem?_append_right (by simp)]; simp
  · by_cases hjn : j = n
    · subst hjn
      simp only [if_true]
      exact ⟨hlo, by omega, hu, ho.same (fun b hb1 hb2 hb3 => hgrow b hb3 (by rw [show b = gk by omega]; exact fun e => hvb e.symm))⟩
    · rw [if_neg hjn, if_neg hjn]
      obtain ⟨a, b, c, d⟩ := h.rows j (by omega)
      exact ⟨a, by omega, c, d.same (fun b hb1 hb2 hb3 => hgrow b hb3 (by rw [show b = g j by omega]; exact fun e => h.apart hne (show j < n by omega) e.symm))⟩
  · by_cases hin : i = n <;> by_cases hjn : j = n
    · omega
    · simp only [hin, hjn, if_true, if_false] at he
      exact absurd he.symm (hnew j (by omega))
    · simp only [hin, hjn, if_true, if_false] at he
      exact absurd he (hnew i (by omega))
    · simp only [hin, hjn, if_false] at he
      exact h.inj i j (by omega) (by omega) he

/-- Append of one row, as a step of the walk. -/
theorem wpList_push_row {P : Program} (w0 : World) {ops : Array Oper} {rest : List Oper} {o : Oper} {a : Act} {Q : Exit → Act → World → Prop} (hgd : o.guard = none) (s x : Operand) (t : TypeId)
    (ho : o.op = .call { callee := .builtin .append, args := #[s, x], argTypes := #[t, t] })
    (e1 e2 : TypeId) (hne : e1 ≠ e2) (i : TypeInfo) (z : Value) (bytes : Nat) (ht : P.underlying t = some (.slice e1)) (hi : P.info? e1 = some i) (hz : i.zero = some z)
    (hsize : i.size = 1) (hby : i.bytes = bytes) (hzs : z.cells.size = 1) (hb64 : bytes ≤ 64)
    (v u : Value) (n m lo gk : Nat) (F : Nat → Nat → Value) (hs : a.eval s = v) (hx : a.eval x = .slice (some ⟨w0.heap.size, 0, none⟩) 1 1)
    (hm : Mat w0 lo gk e1 e2 v n m F) (hu : ∃ c, u = .slice (some ⟨gk, 0, none⟩) m c) (hou : Own w0 gk (gk + 1) e2 u m (F n)) (hlo : lo ≤ gk) (hgk : gk < w0.heap.size) (hn : n ≤ 16777216)
    (h : ∀ v' w', Mat w' lo w'.heap.size e1 e2 v' (n + 1) m F → Below lo w0 w' → wpList P ops Q rest (a.put o.dst v') w') :
    wpList P ops Q (o :: rest) a (w0.alloc (.cells #[u] e1)) := by
  have hnb : (n + 1) * bytes ≤ (n + 1) * 64 := Nat.mul_le_mul_left _ hb64
  obtain ⟨row, g, hm⟩ := hm
  have hvb : v.ownBlock ≠ some gk := by
    rcases hm.out with ⟨rfl, _⟩ | ⟨G, cap, cur, rfl, h2, h3, h4, _⟩
    · simp [Value.ownBlock]
    · simp [Value.ownBlock]; omega
  have h1 : u.oneCell' = true := by obtain ⟨c, rfl⟩ := hu; rfl
  refine wpList_append_own _ hgd s x t ho lo e1 i z 1 bytes ht hi hz hsize hby hzs (by omega) v n _ hs (hm.out.row.alloc _) ⟨w0.heap.size, 0, none⟩ 1 1 [u] hx rfl ?_ ?_ ?_ ?_ ?_ ?_
  · intro j q hj
    match j, hj with
    | 0, hj =>
      simp at hj
      subst hj
      simp [Addr.add]
  · intro q hq
    simp at hq
    subst hq
    exact h1
  · unfold maxLen; omega
  · omega
  · simp; omega
  · intro v' w' hown' hgrow _
    have hg1 : ∀ b, b < w0.heap.size → some b ≠ v.ownBlock → w'.heap[b]? = w0.heap[b]? := fun b hb hbv => by
      rw [hgrow.block b (by simp; omega) hbv]
      exact heap_alloc_old w0 _ hb
    have hsz : w0.heap.size ≤ w'.heap.size := by
      have := hgrow.size
      simp at this
      omega
    refine h v' w' ⟨_, _, MatR.pushed hne (hm.wider (Nat.le_refl _) (Nat.le_of_lt hgk)) hu hou hlo hgk (fun j hj => ?_) hown' hvb hsz hg1⟩ ?_
    · have := (hm.rows j hj).2.1
      omega
    · have hb0 : Below lo w0 (w0.alloc (.cells #[u] e1)) := (Below.refl _ _).alloc (by omega) _
      refine hb0.grown hgrow (by simp; omega) (fun k hk => ?_)
      rcases hm.out.lt with ⟨rfl, _⟩ | ⟨G, cap, rfl, h2, _⟩
      · simp [Value.ownBlock] at hk
      · simp [Value.ownBlock] at hk
        omega
end Go.Proofs.Ytjhpibbhlacigaa
