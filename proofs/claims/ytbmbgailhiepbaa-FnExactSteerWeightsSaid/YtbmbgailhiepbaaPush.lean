/- One element appended to a slice that the call made: the walk's law, in the words of Mem. -/
import Derived.Test.YtbmbgailhiepbaaMem
namespace Go.Proofs.Ytbmbgailhiepbaa
open Go.RowKit

theorem wpList_push {P : Program} (w0 : World) {ops : Array Oper} {rest : List Oper} {o : Oper} {a : Act} {Q : Exit → Act → World → Prop} (hgd : o.guard = none) (s x : Operand) (t : TypeId)
    (ho : o.op = .call { callee := .builtin .append, args := #[s, x], argTypes := #[t, t] })
    (e : TypeId) (i : TypeInfo) (z : Value) (bytes : Nat) (ht : P.underlying t = some (.slice e)) (hi : P.info? e = some i) (hz : i.zero = some z)
    (hsize : i.size = 1) (hby : i.bytes = bytes) (hzs : z.cells.size = 1) (hb64 : bytes ≤ 64)
    (v u : Value) (n lo hi' : Nat) (f F : Nat → Value) (hs : a.eval s = v) (hx : a.eval x = .slice (some ⟨w0.heap.size, 0, none⟩) 1 1)
    (hown : Own w0 lo hi' e v n f) (hF : ∀ j, j < n → f j = F j) (hu : F n = u) (h1 : u.oneCell' = true) (hn : n ≤ 16777216) (hlo : lo ≤ w0.heap.size)
    (h : ∀ v' w', Own w' lo w'.heap.size e v' (n + 1) F → Below lo w0 w' → wpList P ops Q rest (a.put o.dst v') w') :
    wpList P ops Q (o :: rest) a (w0.alloc (.cells #[u] e)) := by
  have hnb : (n + 1) * bytes ≤ (n + 1) * 64 := Nat.mul_le_mul_left _ hb64
  refine wpList_append_own _ hgd s x t ho lo e i z 1 bytes ht hi hz hsize hby hzs (by omega) v n _ hs ((hown.congr hF).row.alloc _) ⟨w0.heap.size, 0, none⟩ 1 1 [u] hx rfl ?_ ?_ ?_ ?_ ?_ ?_
  · intro j q hj
    match j, hj with
    | 0, hj =>
      simp at hj
      subst hj
      simp [Addr.add]
  · intro q hq
    simp at hq
    subst hq
    exact h1
  · unfold maxLen; omega
  · omega
  · simp; omega
  · intro v' w' hown' hgrow _
    refine h v' w' (Own.pushed hown' hu) ?_
    have hb0 : Below lo w0 (w0.alloc (.cells #[u] e)) := (Below.refl _ _).alloc hlo _
    refine hb0.grown hgrow (by simp; omega) (fun k hk => ?_)
    rcases hown.lt with ⟨rfl, _⟩ | ⟨g, cap, rfl, h2, _⟩
    · simp [Value.ownBlock] at hk
    · simp [Value.ownBlock] at hk
      omega
end Go.Proofs.Ytbmbgailhiepbaa
