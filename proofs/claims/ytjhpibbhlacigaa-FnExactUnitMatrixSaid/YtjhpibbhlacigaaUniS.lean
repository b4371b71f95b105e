/- The reference's UnitMatrix, by its contract. -/
import Derived.Test.YtjhpibbhlacigaaUniI
import Derived.Deep.RegionHeld3
import Derived.Deep.AppendLies
import Derived.Deep.OwnRows
import Derived.Deep.RegionLaw
import Derived.Deep.DrawnRows
namespace Go.Proofs.Ytjhpibbhlacigaa
open Go.RowKit

attribute [local go_sem ↓] Go.wp_at_zero Go.wp_at_succ

theorem grown_back {wr w1 : World} {A B : Obj} {row : Option Nat} (hgrow : (((wr.alloc A).alloc B).drew).grownBy w1 row) (b : Nat) (hb : b < (wr.alloc A).heap.size) (hne : some b ≠ row) : w1.heap[b]? = (wr.alloc A).heap[b]? := by
  rw [hgrow.block b (by simp [World.drew] at hb ⊢; omega) hne]
  exact heap_alloc_old (wr.alloc A) B hb

/-- A row of zeros, made and appended. -/
theorem MatR.made {wr w1 : World} {lo : Nat} {e1 e2 : TypeId} (hne : e1 ≠ e2) {ad : Option Addr} {cap k m : Nat} {row : Nat → Value} {g : Nat → Nat} {F : Nat → Nat → Value} {z v' : Value} {B : Obj}
    (h : MatR wr lo wr.heap.size e1 e2 (.slice ad k cap) k m row g F) (hF : ∀ i, i < m → z = F k i) (hlo : lo ≤ wr.heap.size) (hm : m ≤ maxLen)
    (hown : w1.ownsRow lo e1 1 v' (k + 1) ((List.range k).map row ++ [.slice (some ⟨wr.heap.size, 0, none⟩) m m]))
    (hgrow : (((wr.alloc (.cells (madeCells #[z] m) e2)).alloc B).drew).grownBy w1 (Value.slice ad k cap).ownBlock) : Mat w1 lo w1.heap.size e1 e2 v' (k + 1) m F := by
  have hvb : ∀ G, (Value.slice ad k cap).ownBlock = some G → G < wr.heap.size := by
    intro G hG
    rcases h.out.lt with ⟨e, _⟩ | ⟨G', cap', e, _, _, hlt⟩
    · rw [e] at hG; simp [Value.ownBlock] at hG
    · rw [e] at hG
      simp [Value.ownBlock] at hG
      omega
  refine ⟨_, _, MatR.pushed (w0 := wr.alloc (.cells (madeCells #[z] m) e2)) (gk := wr.heap.size) hne ((h.below (below_alloc wr _) (Nat.le_refl _)).wider (Nat.le_refl _) (by simp)) ⟨m, rfl⟩ ?_ hlo (by simp) (fun j hj => ?_) hown (fun e => by have := hvb _ e; omega) ?_ (fun b hb hbv => grown_back hgrow b hb hbv)⟩
  · refine .inr ⟨wr.heap.size, m, madeCells #[z] m, rfl, Nat.le_refl _, Nat.lt_succ_self _, heap_alloc_new wr _, Nat.le_refl _, hm, by simp [madeCells], fun j hj => ?_⟩
    rw [← hF j hj]
    have h1 : j % 1 = 0 := Nat.mod_one j
    simp [madeCells, hj, h1]
  · have := (h.rows j hj).2.1
    omega
  · have := hgrow.size
    simp [World.drew] at this ⊢
    omega

/-- Another type's block is not the row's. -/
theorem MatR.other {w : World} {lo hi : Nat} {e1 e2 : TypeId} {v : Value} {n m : Nat} {row : Nat → Value} {g : Nat → Nat} {F : Nat → Nat → Value} (h : MatR w lo hi e1 e2 v n m row g F) {b : Nat} {cs : Array Value} {t : TypeId} (hb : w.heap[b]? = some (.cells cs t (0, 0))) (ht : t ≠ e1) : some b ≠ v.ownBlock := by
  rcases h.out with ⟨rfl, _⟩ | ⟨G, cap, cur, rfl, h2, h3, h4, _⟩
  · simp [Value.ownBlock]
  · intro hh
    have : b = G := by simpa [Value.ownBlock] using hh
    rw [this, h4] at hb
    simp at hb
    exact ht hb.2.symm

theorem types_ne2 : (24 : TypeId) ≠ 38 := by decide

theorem MatR.but {w w' : World} {lo hi : Nat} {e1 e2 : TypeId} {v : Value} {n m : Nat} {row : Nat → Value} {g : Nat → Nat} {F : Nat → Nat → Value} (h : MatR w lo hi e1 e2 v n m row g F) {b : Nat} {cs : Array Value} {t : TypeId} (hb : w.heap[b]? = some (.cells cs t (0, 0))) (h1 : t ≠ e1) (h2 : t ≠ e2)
    (hs : ∀ x, x ≠ b → w'.heap[x]? = w.heap[x]?) : MatR w' lo hi e1 e2 v n m row g F := by
  refine ⟨?_, fun j hj => ?_, h.inj⟩
  · have hne := h.other hb h1
    rcases h.out with h0 | ⟨G, cap, cur, rfl, a2, a3, a4, a5⟩
    · exact .inl h0
    · refine .inr ⟨G, cap, cur, rfl, a2, a3, ?_, a5⟩
      rw [hs G (fun e => hne (by simp [Value.ownBlock, e]))]
      exact a4
  · obtain ⟨a, c, d, o⟩ := h.rows j hj
    refine ⟨a, c, d, o.same (fun x hx1 hx2 _ => hs x (fun e => ?_))⟩
    obtain ⟨cur, hc⟩ := h.rowBlock hj
    rw [show g j = b by omega, hb] at hc
    simp at hc
    exact h2 hc.2
theorem Mat.but {w w' : World} {lo hi : Nat} {e1 e2 : TypeId} {v : Value} {n m : Nat} {F : Nat → Nat → Value} (h : Mat w lo hi e1 e2 v n m F) {b : Nat} {cs : Array Value} {t : TypeId} (hb : w.heap[b]? = some (.cells cs t (0, 0))) (h1 : t ≠ e1) (h2 : t ≠ e2)
    (hs : ∀ x, x ≠ b → w'.heap[x]? = w.heap[x]?) : Mat w' lo hi e1 e2 v n m F := by
  obtain ⟨row, g, h⟩ := h
  exact ⟨row, g, h.but hb h1 h2 hs⟩

theorem heap3 (w : World) (A B C : Obj) : (((w.alloc A).alloc B).alloc C).heap[w.heap.size]? = some A ∧ (((w.alloc A).alloc B).alloc C).heap[w.heap.size + 1]? = some B ∧ (((w.alloc A).alloc B).alloc C).heap[w.heap.size + 1 + 1]? = some C := by
  refine ⟨?_, ?_, ?_⟩
  · rw [heap_alloc_old _ C (show w.heap.size < ((w.alloc A).alloc B).heap.size by simp; omega)]
    exact heap_alloc2_old w A B
  · rw [heap_alloc_old _ C (show w.heap.size + 1 < ((w.alloc A).alloc B).heap.size by simp)]
    exact heap_alloc2_new w A B
  · have h := heap_alloc_new ((w.alloc A).alloc B) C
    have e : ((w.alloc A).alloc B).heap.size = w.heap.size + 1 + 1 := by simp
    rw [e] at h
    exact h

theorem types_ne3 : (24 : TypeId) ≠ 37 := by decide
theorem below_drew {B : Nat} {a b : World} (h : Below B a b) : Below B a b.drew := ⟨h.os, h.tape, h.output, h.size, h.block⟩

set_option maxRecDepth 100000 in
set_option maxHeartbeats 4000000 in
theorem zeroS (n : Nat) (hn1 : 1 ≤ n) (hn8 : n ≤ 8) (w : World) :
    Calls Try.prog 17 #[.int .i64 n, .int .i64 n] w fun e w' => ∃ v, e = .returned (.agg #[v]) ∧ Mat w' w.heap.size w'.heap.size 38 37 v n n (cx uZ uZ) ∧ Below w.heap.size w w' := by
  obtain ⟨i0, hi, hz0, hz1, hz2⟩ := info_parts info_cx
  obtain ⟨i1, hi', hz0', hz1', hz2'⟩ := info_parts info_row
  go_enter Try.func17, Try.ntmps17
  go_wp2
  go_loopw [6] (fun x wr => ∃ k : Nat, k ≤ n ∧ x = .int .i64 k ∧ ∃ ad cap, Hid (wr.heap[w.heap.size]? = some (.cells #[.slice none 0 0] 24 (0, 0))) ∧ Hid (wr.heap[w.heap.size + 1 + 1]? = some (.cells #[.slice ad k cap] 24 (0, 0))) ∧
      Hid (Mat wr (w.heap.size + 1) wr.heap.size 38 37 (.slice ad k cap) k n (cx uZ uZ)) ∧ Hid (Below w.heap.size w wr)) (fun x _ => n - (intOf x).toNat)
  case atStart =>
    obtain ⟨q0, q1, q2⟩ := heap3 w (.cells #[.slice none 0 0] 24) (.cells #[] 38) (.cells #[.slice (some ⟨w.heap.size + 1, 0, none⟩) 0 0] 24)
    refine ⟨0, Nat.zero_le _, rfl, some ⟨w.heap.size + 1, 0, none⟩, 0, Lib.hid q0, Lib.hid q2, Lib.hid ⟨fun _ => .nilIface, fun _ => 0, ?_, fun _ h => by omega, fun _ _ h => by omega⟩, Lib.hid ((below_alloc2 w _ _).alloc (by simp; omega) _)⟩
    exact .inr ⟨w.heap.size + 1, 0, #[], rfl, Nat.le_refl _, by simp, q1, Nat.le_refl _, Nat.zero_le _, rfl, fun j hj => by omega⟩
  case round =>
    obtain ⟨k, hk, rfl, ad, cap, H0, H1, HM, HB⟩ := hrel
    by_cases hlt : k < n
    · obtain ⟨row, gb, hm⟩ := HM.out
      have HR := Lib.hid hm
      have hrow := hm.out.row
      have hsz : w.heap.size + 1 + 1 < wr.heap.size := (Array.getElem?_eq_some_iff.1 H1.out).1
      have hc1 : wr.cell? ⟨w.heap.size + 1 + 1, 0, none⟩ = some (.slice ad k cap) := (cell_of_row _ _ 0 _ _ (0, 0) H1.out).trans rfl
      have hf1 : wr.frozen? ⟨w.heap.size + 1 + 1, 0, none⟩ = false := frozen_of_row _ _ 0 _ _ H1.out
      have HOW := Lib.hid hrow
      have hmk := fun u => run_make_row (P := Try.prog) 38 37 i0 (.complex .f32 0 0) Try.underlying38 hi hz0 hz1 rfl .i64 .i64 n (by rw [hz2]; omega) (by omega) u
      clear hm hrow HM
      go_wp2_with fail
      have HNE := Lib.hid (HR.out.other H1.out types_ne2)
      have HNE0 := Lib.hid (HR.out.other H0.out types_ne2)
      have HA := Lib.hid ((heap_alloc_old wr (.cells (madeCells #[.complex .f32 0 0] n) 37) hsz).trans H1.out)
      have HA2 := Lib.hid ((heap_alloc_old (wr.alloc (.cells (madeCells #[.complex .f32 0 0] n) 37)) (.cells #[.slice (some ⟨wr.heap.size, 0, none⟩) n n] 38) (show w.heap.size + 1 + 1 < (wr.alloc (.cells (madeCells #[.complex .f32 0 0] n) 37)).heap.size by simp; omega)).trans HA.out)
      have hcA : (wr.alloc (.cells (madeCells #[.complex .f32 0 0] n) 37)).cell? ⟨w.heap.size + 1 + 1, 0, none⟩ = some (.slice ad k cap) := (cell_of_row _ _ 0 _ _ (0, 0) HA.out).trans rfl
      have hcB : ((wr.alloc (.cells (madeCells #[.complex .f32 0 0] n) 37)).alloc (.cells #[.slice (some ⟨wr.heap.size, 0, none⟩) n n] 38)).cell? ⟨w.heap.size + 1 + 1, 0, none⟩ = some (.slice ad k cap) := (cell_of_row _ _ 0 _ _ (0, 0) HA2.out).trans rfl
      go_region_law
        ((refine step_append_lies _ (by rfl) _ _ _ (by rfl) (w.heap.size + 1) 38 i1 (.slice none 0 0) 1 24 Try.underlying22 hi' hz0' hz1' hz2' rfl (by omega) (.slice ad k cap) k ((List.range k).map row) (by rfl) (((HOW.out.alloc _).alloc _).drew) ⟨wr.heap.size + 1, 0, none⟩ 1 1 [.slice (some ⟨wr.heap.size, 0, none⟩) n n] (by rfl) (by rfl) (World.news_of_block (cs := #[.slice (some ⟨wr.heap.size, 0, none⟩) n n]) (t := 38) (fr := (0, 0)) (heap_alloc2_new wr _ _)) (by simp [Value.oneCell']) (by omega) (by unfold maxLen; omega) (by omega) (by simp; omega) (wr.heap.size + 2) (by simp) ?_; intro gg c1 w1 hown1 hgrow hat hlt1; have hc2 : w1.cell? ⟨w.heap.size + 1 + 1, 0, none⟩ = some (.slice ad k cap) := (hgrow.cell_far _ (by simp; omega) HNE.out).trans hcB; have hf2 : w1.frozen? ⟨w.heap.size + 1 + 1, 0, none⟩ = false := (hgrow.frozen_far _ (by simp; omega) HNE.out).trans (frozen_of_row _ _ 0 _ _ HA2.out)))
      all_goals go_wp2
      all_goals go_roundw
      all_goals first
        | (simp [intOf]; omega)
        | (have hA1 := (grown_back hgrow (w.heap.size + 1 + 1) (by simp; omega) HNE.out).trans HA.out
           have hA0 := (grown_back hgrow w.heap.size (by simp; omega) HNE0.out).trans ((heap_alloc_old wr (.cells (madeCells #[.complex .f32 0 0] n) 37) (by omega)).trans H0.out)
           have hM := MatR.made types_ne HR.out (fun i _ => rfl) (by omega) (by unfold maxLen; omega) hown1 hgrow
           have hBw : Below w.heap.size w w1 := (below_drew ((HB.out.alloc HB.out.size _).alloc (by simp; omega) _)).grown hgrow (by simp [World.drew]; omega) (fun q hq => by
             rcases HR.out.out.lt with ⟨e, _⟩ | ⟨G', cap', e, h1, _, _⟩
             · rw [e] at hq; simp [Value.ownBlock] at hq
             · rw [e] at hq; simp [Value.ownBlock] at hq; omega)
           refine ⟨k + 1, by omega, by go_num, some ⟨gg, 0, none⟩, c1, Lib.hid ?_, Lib.hid ?_, Lib.hid ?_, Lib.hid ?_⟩
           · rw [heap_setCell_other w1 ⟨w.heap.size + 1 + 1, 0, none⟩ _ _ (by show w.heap.size ≠ w.heap.size + 1 + 1; omega)]
             exact hA0
           · exact heap_setCell_same w1 (w.heap.size + 1 + 1) 0 _ _ _ hA1
           · exact (hM.but hA1 types_ne2 types_ne3 (fun x hx => heap_setCell_other w1 ⟨w.heap.size + 1 + 1, 0, none⟩ x _ hx)).wider (Nat.le_refl _) (Nat.le_of_eq (heap_size_setCell _ _ _).symm)
           · exact hBw.setCell (by show w.heap.size ≤ w.heap.size + 1 + 1; omega) _)
    · have : k = n := by omega
      subst this
      have hc1 : wr.cell? ⟨w.heap.size + 1 + 1, 0, none⟩ = some (.slice ad k cap) := (cell_of_row _ _ 0 _ _ (0, 0) H1.out).trans rfl
      have hc0 : wr.cell? ⟨w.heap.size, 0, none⟩ = some (.slice none 0 0) := (cell_of_row _ _ 0 _ _ (0, 0) H0.out).trans rfl
      have hf0 : wr.frozen? ⟨w.heap.size, 0, none⟩ = false := frozen_of_row _ _ 0 _ _ H0.out
      go_wp2
      exact bodyPost_ret (v := .agg #[.slice ad k cap]) (by simp [results, Try.results17, hc0, go_sem]) rfl ⟨_, rfl,
        ((HM.out.kept (kept_setCell wr w.heap.size 0 _) (.inr (by omega))).wider (by omega) (Nat.le_of_eq (heap_size_setCell _ _ _).symm)), HB.out.setCell (Nat.le_refl _) _⟩

def uP (k : Nat) (a i : Nat) : Nat := if a < k ∧ a = i then 1065353216 else 0

set_option maxRecDepth 100000 in
set_option maxHeartbeats 4000000 in
theorem unitS (n : Nat) (hn1 : 1 ≤ n) (hn8 : n ≤ 8) (w : World) :
    Calls Try.prog 10 #[.int .i64 n] w fun e w' => ∃ v, e = .returned (.agg #[v]) ∧ Mat w' w.heap.size w'.heap.size 38 37 v n n (cx uF uZ) ∧ Below w.heap.size w w' := by
  go_enter Try.func10, Try.ntmps10
  go_wp2_with (go_at_call 17; refine (zeroS n hn1 hn8 _).mono ?_; rintro e z ⟨v, rfl, hm, hb⟩; obtain ⟨ad, cap, rfl⟩ := hm.slice; have HM := Lib.hid hm; have HB := Lib.hid hb; have H0 := Lib.hid ((hb.block w.heap.size (by simp)).trans (heap_alloc_new w _)); clear hm hb)
  obtain ⟨row, gb, hm⟩ := HM.out
  have HR := Lib.hid hm
  have hws : w.heap.size + 1 ≤ z.heap.size := by have := HB.out.size; simp at this; omega
  clear hm HM
  go_loopw [4, 11] (fun _ x wr => ∃ k : Nat, k ≤ n ∧ x = .int .i64 k ∧ Hid (wr.heap[w.heap.size]? = some (.cells #[.slice none 0 0] 24 (0, 0))) ∧ Hid (wr.heap[z.heap.size]? = some (.cells #[.slice ad n cap] 24 (0, 0))) ∧
      Hid (MatR wr (w.heap.size + 1) z.heap.size 38 37 (.slice ad n cap) n n row gb (cx (uP k) uZ)) ∧ Hid (Below w.heap.size w wr)) (fun _ x _ => n - (intOf x).toNat)
  case atStart =>
    refine ⟨0, Nat.zero_le _, rfl, Lib.hid ((heap_alloc_old z _ (by omega)).trans H0.out), Lib.hid (heap_alloc_new z _), Lib.hid (((HR.out.below (below_alloc z _) (Nat.le_refl _)).congr (fun a i _ _ => ?_)).wider (by simp) (Nat.le_refl _)), Lib.hid (((below_alloc w _).trans (HB.out.mono (by simp))).alloc (by omega) _)⟩
    unfold cx uP uZ
    simp
  case round =>
    obtain ⟨k, hk, rfl, H1, H2, HM, HW⟩ := hrel
    have hc2 : wr.cell? ⟨z.heap.size, 0, none⟩ = some (.slice ad n cap) := (cell_of_row _ _ 0 _ _ (0, 0) H2.out).trans rfl
    by_cases hlt : k < n
    · obtain ⟨b, off, rfl, hb, hc⟩ := HM.out.out.rd2.at hlt
      have hck := hc k hlt
      clear hc
      obtain ⟨g1, g2, ⟨c, hrow⟩, ho⟩ := HM.out.rows k hlt
      have HROW := Lib.hid hrow
      have HG := Lib.hid (And.intro g1 g2)
      rw [hrow] at hck ho
      have hold := ho.cell hlt
      have hfr := ho.frozen k
      have HS := Lib.hid (ho.store k (.complex .f32 1065353216 0))
      clear ho hrow
      go_wp2
      go_roundw
      case rel =>
        have hS := HS.out
        have hO2 := hS.1
        rw [← HROW.out] at hO2
        have hM := MatR.mark types_ne HM.out hlt hS.2 hO2
        have hG := HG.out
        refine ⟨k + 1, by omega, by go_num, Lib.hid ?_, Lib.hid ?_, Lib.hid (hM.1.congr (fun a i ha hi => ?_)), Lib.hid (HW.out.setCell (by show w.heap.size ≤ gb k; omega) _)⟩
        · rw [heap_setCell_other wr ⟨gb k, k, none⟩ _ _ (by show w.heap.size ≠ gb k; omega)]
          exact H1.out
        · rw [heap_setCell_other wr ⟨gb k, k, none⟩ _ _ (by show z.heap.size ≠ gb k; omega)]
          exact H2.out
        · by_cases hak : a = k
          · subst hak
            by_cases hia : i = a
            · subst hia; simp [cx, uP, uZ]
            · have hai : a ≠ i := fun e => hia e.symm
              simp [cx, uP, uZ, hia, hai]
          · simp only [if_neg hak]
            unfold cx uP
            have hiff : (a < k + 1) ↔ (a < k) := by omega
            simp only [hiff]
      case measure => simp [intOf]; omega
    · have : k = n := by omega
      subst this
      have hc0 : wr.cell? ⟨w.heap.size, 0, none⟩ = some (.slice none 0 0) := (cell_of_row _ _ 0 _ _ (0, 0) H1.out).trans rfl
      have hf0 : wr.frozen? ⟨w.heap.size, 0, none⟩ = false := frozen_of_row _ _ 0 _ _ H1.out
      go_wp2
      have hzz := (Array.getElem?_eq_some_iff.1 H2.out).1
      exact bodyPost_ret (v := .agg #[.slice ad k cap]) (by simp [results, Try.results10, hc0, go_sem]) rfl ⟨_, rfl,
        ⟨row, gb, ((HM.out.kept (kept_setCell wr w.heap.size 0 _) (.inr (by omega))).wider (by omega) (by rw [heap_size_setCell]; omega)).congr (fun a i ha hi => by unfold cx uP uF; simp [ha])⟩, HW.out.setCell (Nat.le_refl _) _⟩

set_option maxRecDepth 100000 in
set_option maxHeartbeats 1000000 in
theorem unitMatS (c : Int) (w : World) :
    Calls Try.prog 4 #[.int .i64 c] w fun e w' => ∃ v, e = .returned (.tuple #[.agg #[v], .bool (uOk c)]) ∧ Mat w' w.heap.size w'.heap.size 38 37 v (uLen c) (uLen c) (cx uF uZ) ∧ Below w.heap.size w w' := by
  by_cases h : 1 ≤ c ∧ c ≤ 8
  · rw [show uOk c = true from decide_eq_true h, show uLen c = c.toNat from if_pos h]
    obtain ⟨n, rfl⟩ := Int.eq_ofNat_of_zero_le (show 0 ≤ c by omega)
    have hn1 : 1 ≤ n := by omega
    have hn8 : n ≤ 8 := by omega
    rw [show ((n : Nat) : Int).toNat = n by omega]
    clear h
    go_enter Try.func4, Try.ntmps4
    go_wp2_with (first | (go_at_call 9; refine (inS_yes _ _ _ (by omega) (by omega) _).mono ?_; rintro e w' ⟨rfl, rfl⟩) | (go_at_call 10; refine (unitS n hn1 hn8 _).mono ?_; rintro e w1 ⟨v, rfl, hm, hb⟩; obtain ⟨ad, cap, rfl⟩ := hm.slice; have HM := Lib.hid hm; have HB := Lib.hid hb; have H0 := Lib.hid ((hb.block w.heap.size (by simp)).trans (heap_alloc_new w _)); have hc0 : w1.cell? ⟨w.heap.size, 0, none⟩ = some (.slice none 0 0) := (cell_of_row _ _ 0 _ _ (0, 0) H0.out).trans rfl; have hf0 : w1.frozen? ⟨w.heap.size, 0, none⟩ = false := frozen_of_row _ _ 0 _ _ H0.out; clear hm hb))
    have hm := HM.out
    have hb := HB.out
    simp only [heap_size_alloc'] at hm hb
    exact bodyPost_ret (v := .tuple #[.agg #[.slice ad n cap], .bool true]) (by simp [results, Try.results4, hc0, go_sem]) rfl ⟨_, rfl,
        ((hm.kept (kept_setCell w1 w.heap.size 0 _) (.inr (by omega))).wider (by omega) (Nat.le_of_eq (heap_size_setCell _ _ _).symm)), (((below_alloc w _).trans (hb.mono (by omega))).setCell (Nat.le_refl _) _)⟩
  · rw [show uOk c = false from decide_eq_false h, show uLen c = 0 from if_neg h]
    go_enter Try.func4, Try.ntmps4
    go_wp2_with (go_at_call 9; refine (inS_no _ _ _ (by omega) _).mono ?_; rintro e w' ⟨rfl, rfl⟩)
    have hc0 : (w.alloc (.cells #[.slice none 0 0] 24)).cell? ⟨w.heap.size, 0, none⟩ = some (.slice none 0 0) := (cell_of_row _ _ 0 _ _ (0, 0) (heap_alloc_new w _)).trans rfl
    exact bodyPost_ret (v := .tuple #[.agg #[.slice none 0 0], .bool false]) (by simp [results, Try.results4, hc0, go_sem]) rfl ⟨_, rfl, Mat.nil _ _ _ _ _ _ _, below_alloc w _⟩
end Go.Proofs.Ytjhpibbhlacigaa
