/- The program's UnitMatrix, by its contract. -/
import Derived.Test.YtjhpibbhlacigaaHarN
import Derived.Test.YtjhpibbhlacigaaPush
namespace Go.Proofs.Ytjhpibbhlacigaa
open Go.RowKit

theorem info_cx : (Try.prog.info? 37).map (fun i => (i.zero, i.size, i.bytes)) = some (some (.complex .f32 0 0), 1, 8) := by kernel_rfl
theorem info_row : (Try.prog.info? 38).map (fun i => (i.zero, i.size, i.bytes)) = some (some (.slice none 0 0), 1, 24) := by kernel_rfl

def uF (j i : Nat) : Nat := if j = i then 1065353216 else 0
def uZ (_ _ : Nat) : Nat := 0

theorem Own.narrow {w : World} {lo hi : Nat} {e : TypeId} {n c g : Nat} {f : Nat → Value} (h : Own w lo hi e (.slice (some ⟨g, 0, none⟩) n c) n f) : Own w g (g + 1) e (.slice (some ⟨g, 0, none⟩) n c) n f := by
  obtain ⟨cur, h1, h2, h3, h4, h5, h6, h7⟩ := h.block
  exact .inr ⟨g, c, cur, rfl, Nat.le_refl _, Nat.lt_succ_self _, h1, h4, h5, h6, h7⟩

theorem kept_setCell (w : World) (b off : Nat) (v : Value) : Kept w (w.setCell ⟨b, off, none⟩ v) b (b + 1) :=
  ⟨rfl, rfl, rfl, by simp [World.setCell], fun k _ hk => heap_setCell_other w ⟨b, off, none⟩ k v (by show k ≠ b; omega)⟩
theorem heap_size_alloc' (w : World) (o : Obj) : (w.alloc o).heap.size = w.heap.size + 1 := by simp
theorem heap_size_setCell (w : World) (a : Addr) (v : Value) : (w.setCell a v).heap.size = w.heap.size := by simp [World.setCell]

theorem withinI_yes (a lo hi : Int) (h1 : lo ≤ a) (h2 : a ≤ hi) (w : World) :
    Calls Try.prog 11 #[.int .i64 a, .int .i64 lo, .int .i64 hi] w fun e w' => e = .returned (.bool true) ∧ w = w' := by
  go_enter Try.func11, Try.ntmps11
  go_wp2
  all_goals go_ret
  all_goals exact ⟨rfl, rfl⟩
theorem withinI_no (a lo hi : Int) (h : ¬ (lo ≤ a ∧ a ≤ hi)) (w : World) :
    Calls Try.prog 11 #[.int .i64 a, .int .i64 lo, .int .i64 hi] w fun e w' => e = .returned (.bool false) ∧ w = w' := by
  by_cases h1 : lo ≤ a
  · have h2 : ¬ a ≤ hi := by omega
    go_enter Try.func11, Try.ntmps11
    go_wp2
    all_goals go_ret
    all_goals exact ⟨rfl, rfl⟩
  · go_enter Try.func11, Try.ntmps11
    go_wp2
    all_goals go_ret
    all_goals exact ⟨rfl, rfl⟩

theorem inS_yes (a lo hi : Int) (h1 : lo ≤ a) (h2 : a ≤ hi) (w : World) :
    Calls Try.prog 9 #[.int .i64 a, .int .i64 lo, .int .i64 hi] w fun e w' => e = .returned (.bool true) ∧ w = w' := by
  go_enter Try.func9, Try.ntmps9
  go_wp2
  all_goals go_ret
  all_goals exact ⟨rfl, rfl⟩
theorem inS_no (a lo hi : Int) (h : ¬ (lo ≤ a ∧ a ≤ hi)) (w : World) :
    Calls Try.prog 9 #[.int .i64 a, .int .i64 lo, .int .i64 hi] w fun e w' => e = .returned (.bool false) ∧ w = w' := by
  by_cases h1 : lo ≤ a
  · have h2 : ¬ a ≤ hi := by omega
    go_enter Try.func9, Try.ntmps9
    go_wp2
    all_goals go_ret
    all_goals exact ⟨rfl, rfl⟩
  · go_enter Try.func9, Try.ntmps9
    go_wp2
    all_goals go_ret
    all_goals exact ⟨rfl, rfl⟩

theorem unitI (i j : Nat) (w : World) :
    Calls Try.prog 13 #[.int .i64 i, .int .i64 j] w fun e w' => e = .returned (.complex .f32 (uF i j) 0) ∧ w = w' := by
  by_cases h : i = j
  · subst h
    rw [show uF i i = 1065353216 from if_pos rfl]
    go_enter Try.func13, Try.ntmps13
    go_wp2
    all_goals go_ret
    all_goals exact ⟨rfl, rfl⟩
  · rw [show uF i j = 0 from if_neg h]
    have h2 : ¬ (i : Int) = j := by omega
    go_enter Try.func13, Try.ntmps13
    go_wp2
    all_goals go_ret
    all_goals exact ⟨rfl, rfl⟩

set_option maxRecDepth 100000 in
set_option maxHeartbeats 4000000 in
theorem matrixByI (n : Nat) (hn1 : 1 ≤ n) (hn8 : n ≤ 8) (w : World) :
    Calls Try.prog 12 #[.int .i64 n, .int .i64 n, .func (.func 13) #[] #[]] w fun e w' => ∃ v, e = .returned (.agg #[v]) ∧ Mat w' w.heap.size w'.heap.size 38 37 v n n (cx uF uZ) ∧ Below w.heap.size w w' := by
  obtain ⟨i0, hi, hz0, hz1, hz2⟩ := info_parts info_cx
  obtain ⟨i1, hi', hz0', hz1', hz2'⟩ := info_parts info_row
  go_enter Try.func12, Try.ntmps12
  go_wp2
  go_loopw [8, 9, 10, 13] (fun _ _ _ x wr => ∃ k : Nat, k ≤ n ∧ x = .int .i64 k ∧ ∃ v, Hid (wr.heap[w.heap.size]? = some (.cells #[.slice none 0 0] 24 (0, 0))) ∧ Hid (wr.heap[w.heap.size + 1]? = some (.cells #[v] 24 (0, 0))) ∧
      Hid (Mat wr (w.heap.size + 2) wr.heap.size 38 37 v k n (cx uF uZ)) ∧ Hid (Below w.heap.size w wr)) (fun _ _ _ x _ => n - (intOf x).toNat)
  case atStart => exact ⟨0, Nat.zero_le _, rfl, _, Lib.hid (heap_alloc2_old w _ _), Lib.hid (heap_alloc2_new w _ _), Lib.hid (Mat.nil _ _ _ _ _ _ _), Lib.hid (below_alloc2 w _ _)⟩
  case round =>
    obtain ⟨wo, hwo⟩ : ∃ x, x = wr := ⟨_, rfl⟩
    subst hwo
    obtain ⟨k, hk, rfl, v, H0, H1, HM, HB⟩ := hrel
    by_cases hlt : k < n
    · go_wp2
      go_loopw [9, 10, 18] (fun out _ x wq => ∃ j : Nat, j ≤ n ∧ x = .int .i64 j ∧ Hid (Own wq wo.heap.size wq.heap.size 37 out j (fun i => cx uF uZ k i)) ∧ Hid (Below wo.heap.size wo wq)) (fun _ _ x _ => n - (intOf x).toNat)
      case atStart => exact ⟨0, Nat.zero_le _, rfl, Lib.hid (Own.empty _ _ _), Lib.hid (below_alloc _ _)⟩
      case round =>
        obtain ⟨j, hj, rfl, HOW, HBW⟩ := hrel
        by_cases hltj : j < n
        · go_wp2_with (first | (go_at_call 13; refine (unitI k j _).mono ?_; rintro e w' ⟨rfl, rfl⟩) | (at_builtin; refine wpList_push _ rfl _ _ 38 rfl 37 i0 (.complex .f32 0 0) 8 Try.underlying38 hi hz0 hz1 hz2 rfl (by omega) _ (.complex .f32 (uF k j) 0) j _ _ _ (fun q => cx uF uZ k q) rfl rfl (by exact HOW.out) (fun q hq => rfl) rfl rfl (by omega) (by exact HBW.out.size) ?_; intro v' w2 ho2 hb2; have HO2 := Lib.hid ho2; have HB2 := Lib.hid hb2; clear ho2 hb2))
          go_wp2
          go_roundw
          case rel => exact ⟨j + 1, by omega, by go_num, HO2, Lib.hid (HBW.out.trans HB2.out)⟩
          case measure => simp [intOf]; omega
        · have : j = n := by omega
          subst this
          rcases HOW.out.lt with ⟨_, h0⟩ | ⟨gk, c, rfl, hg1, hg2, hg3⟩
          · omega
          · have hs1 : w.heap.size + 1 < wo.heap.size := (Array.getElem?_eq_some_iff.1 H1.out).1
            have HE1 := Lib.hid ((HBW.out.block (w.heap.size + 1) hs1).trans H1.out)
            have HE0 := Lib.hid ((HBW.out.block w.heap.size (by omega)).trans H0.out)
            have hc1 : wr.cell? ⟨w.heap.size + 1, 0, none⟩ = some v := (cell_of_row _ _ 0 _ _ (0, 0) HE1.out).trans rfl
            have HMW := Lib.hid ((HM.out.below HBW.out (Nat.le_refl _)).wider (Nat.le_refl _) hg1)
            go_wp2_with (at_builtin; refine wpList_push_row _ rfl _ _ 22 rfl 38 37 types_ne i1 (.slice none 0 0) 24 Try.underlying22 hi' hz0' hz1' hz2' rfl (by omega) _ (.slice (some ⟨gk, 0, none⟩) j c) k j (w.heap.size + 2) gk (cx uF uZ) rfl rfl HMW.out ⟨c, rfl⟩ HOW.out.narrow (by omega) hg3 (by omega) ?_; intro v2 w2 hm2 hb2; obtain ⟨ad2, cap2, rfl⟩ := hm2.slice; have HM2 := Lib.hid hm2; have HB2 := Lib.hid hb2; have HF1 := Lib.hid ((hb2.block (w.heap.size + 1) (by omega)).trans HE1.out); have HF0 := Lib.hid ((hb2.block w.heap.size (by omega)).trans HE0.out); have hc2 : w2.cell? ⟨w.heap.size + 1, 0, none⟩ = some v := (cell_of_row _ _ 0 _ _ (0, 0) HF1.out).trans rfl; have hf2 : w2.frozen? ⟨w.heap.size + 1, 0, none⟩ = false := frozen_of_row _ _ 0 _ _ HF1.out; clear hm2 hb2)
            refine ⟨⟨k + 1, by omega, by go_num, .slice ad2 (k + 1) cap2, Lib.hid ?_, Lib.hid ?_, Lib.hid ?_, Lib.hid ?_⟩, by simp [intOf]; omega⟩
            · rw [heap_setCell_other w2 ⟨w.heap.size + 1, 0, none⟩ _ _ (by show w.heap.size ≠ w.heap.size + 1; omega)]
              exact HF0.out
            · exact heap_setCell_same w2 (w.heap.size + 1) 0 _ _ _ HF1.out
            · exact (HM2.out.kept (kept_setCell w2 (w.heap.size + 1) 0 _) (.inr (Nat.le_refl _))).wider (Nat.le_refl _) (Nat.le_of_eq (heap_size_setCell _ _ _).symm)
            · exact (((HB.out.trans (HBW.out.mono (by omega))).trans (HB2.out.mono (by omega)))).setCell (by simp) _
    · have : k = n := by omega
      subst this
      obtain ⟨ad, cap, rfl⟩ := HM.out.slice
      have hc1 : wo.cell? ⟨w.heap.size + 1, 0, none⟩ = some (.slice ad k cap) := (cell_of_row _ _ 0 _ _ (0, 0) H1.out).trans rfl
      have hc0 : wo.cell? ⟨w.heap.size, 0, none⟩ = some (.slice none 0 0) := (cell_of_row _ _ 0 _ _ (0, 0) H0.out).trans rfl
      have hf0 : wo.frozen? ⟨w.heap.size, 0, none⟩ = false := frozen_of_row _ _ 0 _ _ H0.out
      go_wp2
      exact bodyPost_ret (v := .agg #[.slice ad k cap]) (by simp [results, Try.results12, hc0, go_sem]) rfl ⟨_, rfl,
        ((HM.out.kept (kept_setCell wo w.heap.size 0 _) (.inr (by omega))).wider (by omega) (Nat.le_of_eq (heap_size_setCell _ _ _).symm)), HB.out.setCell (Nat.le_refl _) _⟩

def uOk (c : Int) : Bool := decide (1 ≤ c ∧ c ≤ 8)
def uLen (c : Int) : Nat := if 1 ≤ c ∧ c ≤ 8 then c.toNat else 0
theorem uLen_le (c : Int) : uLen c ≤ 8 := by unfold uLen; split <;> omega

set_option maxRecDepth 100000 in
set_option maxHeartbeats 1000000 in
theorem unitMatI (c : Int) (w : World) :
    Calls Try.prog 5 #[.int .i64 c] w fun e w' => ∃ v, e = .returned (.tuple #[.agg #[v], .bool (uOk c)]) ∧ Mat w' w.heap.size w'.heap.size 38 37 v (uLen c) (uLen c) (cx uF uZ) ∧ Below w.heap.size w w' := by
  by_cases h : 1 ≤ c ∧ c ≤ 8
  · rw [show uOk c = true from decide_eq_true h, show uLen c = c.toNat from if_pos h]
    obtain ⟨n, rfl⟩ := Int.eq_ofNat_of_zero_le (show 0 ≤ c by omega)
    have hn1 : 1 ≤ n := by omega
    have hn8 : n ≤ 8 := by omega
    rw [show ((n : Nat) : Int).toNat = n by omega]
    clear h
    go_enter Try.func5, Try.ntmps5
    go_wp2_with (first | (go_at_call 11; refine (withinI_yes _ _ _ (by omega) (by omega) _).mono ?_; rintro e w' ⟨rfl, rfl⟩) | (go_at_call 12; refine (matrixByI n hn1 hn8 _).mono ?_; rintro e w1 ⟨v, rfl, hm, hb⟩; obtain ⟨ad, cap, rfl⟩ := hm.slice; have HM := Lib.hid hm; have HB := Lib.hid hb; have H0 := Lib.hid ((hb.block w.heap.size (by simp)).trans (heap_alloc_new w _)); have hc0 : w1.cell? ⟨w.heap.size, 0, none⟩ = some (.slice none 0 0) := (cell_of_row _ _ 0 _ _ (0, 0) H0.out).trans rfl; have hf0 : w1.frozen? ⟨w.heap.size, 0, none⟩ = false := frozen_of_row _ _ 0 _ _ H0.out; clear hm hb))
    have hm := HM.out
    have hb := HB.out
    simp only [heap_size_alloc'] at hm hb
    exact bodyPost_ret (v := .tuple #[.agg #[.slice ad n cap], .bool true]) (by simp [results, Try.results5, hc0, go_sem]) rfl ⟨_, rfl,
        ((hm.kept (kept_setCell w1 w.heap.size 0 _) (.inr (by omega))).wider (by omega) (Nat.le_of_eq (heap_size_setCell _ _ _).symm)), (((below_alloc w _).trans (hb.mono (by omega))).setCell (Nat.le_refl _) _)⟩
  · rw [show uOk c = false from decide_eq_false h, show uLen c = 0 from if_neg h]
    go_enter Try.func5, Try.ntmps5
    go_wp2_with (go_at_call 11; refine (withinI_no _ _ _ (by omega) _).mono ?_; rintro e w' ⟨rfl, rfl⟩)
    have hc0 : (w.alloc (.cells #[.slice none 0 0] 24)).cell? ⟨w.heap.size, 0, none⟩ = some (.slice none 0 0) := (cell_of_row _ _ 0 _ _ (0, 0) (heap_alloc_new w _)).trans rfl
    exact bodyPost_ret (v := .tuple #[.agg #[.slice none 0 0], .bool false]) (by simp [results, Try.results5, hc0, go_sem]) rfl ⟨_, rfl, Mat.nil _ _ _ _ _ _ _, below_alloc w _⟩
end Go.Proofs.Ytjhpibbhlacigaa
