/- The harness for matrices, marks. -/
import Derived.Test.YtjhpibbhlacigaaHarM
namespace Go.Proofs.Ytjhpibbhlacigaa
open Go.RowKit

theorem mkM_row (k : Int) (m j : Nat) : (fun i : Nat => Value.complex .f32 (kb (k + ((j * m : Nat) : Int) + (i : Int))) 1065353216) = mkM k m j := rfl
theorem jm_succ (j m : Nat) : (((j + 1) * m : Nat) : Int) = ((j * m : Nat) : Int) + (m : Int) := by rw [Nat.succ_mul]; omega
theorem jm_le {j m : Nat} (hj : j ≤ 8) (hm : m ≤ 8) : j * m ≤ 64 := Nat.mul_le_mul hj hm

set_option maxHeartbeats 1000000 in
theorem markSS_any (ad : Option Addr) (n cap m lo hi : Nat) (F : Nat → Nat → Value) (k : Int) (w : World)
    (h : Mat w lo hi 38 37 (.slice ad n cap) n m F) (hn : n ≤ 8) (hm : m ≤ 8) (hk0 : 0 ≤ k) (hk1 : k ≤ 1048576) :
    Calls Try.prog 15 #[.slice ad n cap, .int .i64 k] w fun e w' => e = .returned (.int .i64 (k + ((n * m : Nat) : Int))) ∧ Mat w' lo hi 38 37 (.slice ad n cap) n m (mkM k m) ∧ Kept w w' lo hi := by
  obtain ⟨row, gb, h⟩ := h
  have H0 := Lib.hid h
  clear h
  go_enter Try.func15, Try.ntmps15
  go_wp2
  go_loopw [1, 5] (fun q i wr => ∃ j : Nat, j ≤ n ∧ i = .int .i64 j ∧ (∃ p : Int, q = .int .i64 p ∧ Hid (p = k + ((j * m : Nat) : Int))) ∧ Hid (MatR wr lo hi 38 37 (.slice ad n cap) n m row gb (fun a => if a < j then mkM k m a else F a)) ∧ Hid (Kept w wr lo hi)) (fun _ i _ => n - (intOf i).toNat)
  case atStart => exact ⟨0, Nat.zero_le _, rfl, ⟨k, rfl, Lib.hid (by simp)⟩, Lib.hid (by simpa using H0.out), Lib.hid (Kept.refl _ _ _)⟩
  case round =>
    obtain ⟨j, hj, rfl, ⟨p, rfl, HP⟩, HM, HK⟩ := hrel
    by_cases hlt : j < n
    · obtain ⟨b, off, rfl, hb, hc⟩ := HM.out.out.rd2.at hlt
      have hck := hc j hlt
      clear hc
      obtain ⟨g1, g2, ⟨c, hrow⟩, ho⟩ := HM.out.rows j hlt
      have hjm := jm_le (Nat.le_trans hj hn) hm
      have hp0 : 0 ≤ p := by have := HP.out; omega
      have hp1 : p ≤ 1099511627776 := by have := HP.out; omega
      have HO := Lib.hid ho
      have HROW := Lib.hid hrow
      rw [hrow] at hck
      clear ho hrow
      go_wp2_with (go_at_call 19; refine (markC_any (.slice (some ⟨gb j, 0, none⟩) m c) m _ p _ (gb j) (gb j + 1) (by have := HO.out; rw [HROW.out] at this; exact this) (by omega) hp0 hp1).mono ?_; rintro e w2 ⟨rfl, ho2, hk2⟩; have HO2 := Lib.hid ho2; have HK2 := Lib.hid hk2; clear ho2 hk2)
      go_wp2
      go_roundw
      case rel =>
        have hO2 := HO2.out
        rw [← HROW.out] at hO2
        have hM := MatR.mark types_ne HM.out hlt HK2.out hO2
        refine ⟨j + 1, by omega, by go_num, ⟨p + (m : Int), rfl, Lib.hid (by rw [HP.out, jm_succ]; omega)⟩, Lib.hid (hM.1.congr (fun a i ha hi => ?_)), Lib.hid (HK.out.trans hM.2)⟩
        by_cases haj : a = j
        · subst haj
          simp only [if_true, show a < a + 1 by omega]
          rw [HP.out]; rfl
        · simp only [haj, if_false, show (a < j + 1) = (a < j) by simp; omega]
      case measure => simp [intOf]; omega
    · have : j = n := by omega
      subst this
      have hjm := jm_le (Nat.le_trans hj hn) hm
      have hp := HP.out
      subst hp
      go_wp2
      go_ret
      refine ⟨rfl, ⟨row, gb, HM.out.congr (fun a i ha hi => ?_)⟩, HK.out⟩
      simp only [ha, if_true]

set_option maxHeartbeats 1000000 in
theorem heldSS_any (ad : Option Addr) (n cap m lo hi : Nat) (k : Int) (w : World)
    (h : Mat w lo hi 38 37 (.slice ad n cap) n m (mkM k m)) (hn : n ≤ 8) (hm : m ≤ 8) (hk0 : 0 ≤ k) (hk1 : k ≤ 1048576) :
    Calls Try.prog 16 #[.slice ad n cap, .int .i64 k] w fun e w' => e = .returned (.int .i64 (k + ((n * m : Nat) : Int))) ∧ ∃ d, w' = w.drewN d := by
  obtain ⟨row, gb, h⟩ := h
  have HR := Lib.hid h.out.rd2
  have HM := Lib.hid h.rows
  clear h
  go_enter Try.func16, Try.ntmps16
  go_wp2
  go_loopw [1, 5] (fun q i wr => ∃ j : Nat, j ≤ n ∧ i = .int .i64 j ∧ (∃ p : Int, q = .int .i64 p ∧ Hid (p = k + ((j * m : Nat) : Int))) ∧ ∃ d, wr = w.drewN d) (fun _ i _ => n - (intOf i).toNat)
  case atStart => exact ⟨0, Nat.zero_le _, rfl, ⟨k, rfl, Lib.hid (by simp)⟩, 0, rfl⟩
  case round =>
    obtain ⟨j, hj, rfl, ⟨p, rfl, HP⟩, d, rfl⟩ := hrel
    have hjm := jm_le (Nat.le_trans hj hn) hm
    have hp0 : 0 ≤ p := by have := HP.out; omega
    have hp1 : p ≤ 1099511627776 := by have := HP.out; omega
    by_cases hlt : j < n
    · obtain ⟨b, off, rfl, hb, hc⟩ := HR.out.at hlt
      have hck := hc j hlt
      clear hc
      obtain ⟨g1, g2, ⟨c, hrow⟩, ho⟩ := HM.out j hlt
      rw [hrow] at hck ho
      have HO := Lib.hid ho
      clear ho hrow
      have hpm : ¬ p + (m : Int) < 0 := by omega
      go_wp2_with (go_at_call 20; refine (heldC_any (.slice (some ⟨gb j, 0, none⟩) m c) m p _ (gb j) (gb j + 1) (by have := HO.out.congr (g := fun i => .complex .f32 (kb (p + (i : Int))) 1065353216) (fun i _ => by rw [HP.out]; rfl); exact this) (by omega) hp0 hp1).mono ?_; rintro e w2 ⟨rfl, d2, rfl⟩)
      go_wp2
      go_roundw
      case rel => exact ⟨j + 1, by omega, by go_num, ⟨p + (m : Int), rfl, Lib.hid (by rw [HP.out, jm_succ]; omega)⟩, _, rfl⟩
      case measure => simp [intOf]; omega
    · have : j = n := by omega
      subst this
      have hp := HP.out
      subst hp
      go_wp2
      go_ret
      exact ⟨rfl, _, rfl⟩

theorem below_alloc2 (w : World) (A B : Obj) : Below w.heap.size w ((w.alloc A).alloc B) := ((Below.refl _ _).alloc (Nat.le_refl _) A).alloc (by simp) B
theorem Mat.slice {w : World} {lo hi : Nat} {e1 e2 : TypeId} {v : Value} {n m : Nat} {F : Nat → Nat → Value} (h : Mat w lo hi e1 e2 v n m F) : ∃ ad cap, v = .slice ad n cap := by
  obtain ⟨row, g, h⟩ := h
  obtain ⟨ad, cap, e, _⟩ := h.out.rd
  exact ⟨ad, cap, e⟩
theorem Mat.drewN {w : World} {lo hi : Nat} {e1 e2 : TypeId} {v : Value} {n m : Nat} {F : Nat → Nat → Value} (h : Mat w lo hi e1 e2 v n m F) (d : Nat) : Mat (w.drewN d) lo hi e1 e2 v n m F := by
  obtain ⟨row, g, h⟩ := h
  exact ⟨row, g, h.out, h.rows, h.inj⟩

set_option maxHeartbeats 1000000 in
theorem eqMat_any (v v2 : Value) (n m lo hi lo2 hi2 : Nat) (f g f2 g2 : Nat → Nat → Nat) (w : World)
    (h : Mat w lo hi 38 37 v n m (cx f g)) (h2 : Mat w lo2 hi2 38 37 v2 n m (cx f2 g2)) (hhi : hi ≤ w.heap.size) (hhi2 : hi2 ≤ w.heap.size) (hn : n ≤ 1048576) (hm : m ≤ 1048576)
    (hf : ∀ j i, j < n → i < m → cf .f32 (f j i) = cf .f32 (f2 j i)) (hg : ∀ j i, j < n → i < m → cf .f32 (g j i) = cf .f32 (g2 j i)) :
    Calls Try.prog 6 #[.agg #[v], .agg #[v2]] w fun e w' => e = .returned (.bool true) ∧ Below w.heap.size w w' := by
  obtain ⟨ad, cap, rfl⟩ := h.slice
  obtain ⟨ad2, cap2, rfl⟩ := h2.slice
  have H := Lib.hid h
  have H2 := Lib.hid h2
  have HF := Lib.hid hf
  have HG := Lib.hid hg
  clear h h2 hf hg
  go_enter Try.func6, Try.ntmps6
  go_wp2_with (go_at_call 14; refine (eqSS_any ad ad2 n cap cap2 m lo hi lo2 hi2 f g f2 g2 _ (by exact H.out.below (below_alloc2 w _ _) hhi) (by exact H2.out.below (below_alloc2 w _ _) hhi2) hn hm HF.out HG.out).mono ?_; rintro e w' ⟨rfl, d, rfl⟩)
  go_ret
  exact ⟨rfl, below_drewN (below_alloc2 w _ _) d⟩

set_option maxHeartbeats 1000000 in
theorem markMat_any (v : Value) (n m lo hi : Nat) (F : Nat → Nat → Value) (k : Int) (w : World)
    (h : Mat w lo hi 38 37 v n m F) (hhi : hi ≤ w.heap.size) (hn : n ≤ 8) (hm : m ≤ 8) (hk0 : 0 ≤ k) (hk1 : k ≤ 1048576) :
    Calls Try.prog 7 #[.agg #[v], .int .i64 k] w fun e w' => e = .returned (.int .i64 (k + ((n * m : Nat) : Int))) ∧ Mat w' lo hi 38 37 v n m (mkM k m) ∧ Kept w w' lo hi := by
  obtain ⟨ad, cap, rfl⟩ := h.slice
  have H := Lib.hid h
  clear h
  have hjm := jm_le hn hm
  generalize hp : k + ((n * m : Nat) : Int) = p
  have HP := Lib.hid hp
  clear hp
  go_enter Try.func7, Try.ntmps7
  go_wp2_with (go_at_call 15; refine (markSS_any ad n cap m lo hi F k _ (by exact H.out.below (below_alloc w _) hhi) hn hm hk0 hk1).mono ?_; rintro e w' ⟨he, ho, hk⟩; rw [HP.out] at he; subst he; have HO := Lib.hid ho; have HK := Lib.hid hk; clear ho hk)
  go_ret
  exact ⟨rfl, HO.out, (Kept.of_below (below_alloc w _) lo hi).trans HK.out⟩

set_option maxHeartbeats 1000000 in
theorem heldMat_any (v : Value) (n m lo hi : Nat) (k : Int) (w : World)
    (h : Mat w lo hi 38 37 v n m (mkM k m)) (hhi : hi ≤ w.heap.size) (hn : n ≤ 8) (hm : m ≤ 8) (hk0 : 0 ≤ k) (hk1 : k ≤ 1048576) :
    Calls Try.prog 8 #[.agg #[v], .int .i64 k] w fun e w' => e = .returned (.int .i64 (k + ((n * m : Nat) : Int))) ∧ Below w.heap.size w w' := by
  obtain ⟨ad, cap, rfl⟩ := h.slice
  have H := Lib.hid h
  clear h
  have hjm := jm_le hn hm
  have hp0 : ¬ k + ((n * m : Nat) : Int) < 0 := by omega
  generalize hp : k + ((n * m : Nat) : Int) = p at *
  have HP := Lib.hid hp
  clear hp
  go_enter Try.func8, Try.ntmps8
  go_wp2_with (go_at_call 16; refine (heldSS_any ad n cap m lo hi k _ (by exact H.out.below (below_alloc w _) hhi) hn hm hk0 hk1).mono ?_; rintro e w' ⟨he, d, rfl⟩; rw [HP.out] at he; subst he)
  go_ret
  exact ⟨rfl, below_drewN (below_alloc w _) d⟩
end Go.Proofs.Ytjhpibbhlacigaa
