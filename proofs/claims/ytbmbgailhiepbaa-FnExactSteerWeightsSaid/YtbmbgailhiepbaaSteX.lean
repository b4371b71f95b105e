/- SteerWeights of the reference, by its contract. -/
import Derived.Test.YtbmbgailhiepbaaSteW
namespace Go.Proofs.Ytbmbgailhiepbaa
open Go.RowKit Ieee
attribute [local go_sem ↓] Go.wp_at_zero Go.wp_at_succ

set_option maxRecDepth 100000 in
set_option maxHeartbeats 4000000 in
theorem swS (ad adt : Option Addr) (n m capt : Nat) (x y : Nat → Int) (du dv : Int) (tp : Nat → Nat) (w : World) (hr : RdP w ad n x y) (hrt : Rd w adt m (fun j => .float .f32 (tp j))) (hn : n ≤ 1048576) (hm : m ≤ 1048576) :
    Calls Try.prog 27 #[.slice ad n n, .agg #[.int .i64 du, .int .i64 dv], .slice adt m capt] w fun e w' => ∃ v, e = .returned (.tuple #[v, .bool (swOk x y n du dv m)]) ∧ (∃ fr fi, Own w' w.heap.size w'.heap.size 23 v (swLen x y n du dv m) (fun j => .complex .f32 (fr j) (fi j)) ∧ SwF x y du dv tp (swLen x y n du dv m) fr fi) ∧ Below w.heap.size w w' := by
  have HR := Lib.hid hr
  have HRT := Lib.hid hrt
  have HVP := Lib.hid (fun u h => validS ad n n x y u h hn)
  have cD := fun u => dirS du dv u
  have HBX := Lib.hid (below_alloc w (.cells #[.int .i64 du, .int .i64 dv] 53))
  have HBC := Lib.hid (heap_alloc_new w (.cells #[.int .i64 du, .int .i64 dv] 53))
  have HWs := Lib.hid (show (w.alloc (.cells #[.int .i64 du, .int .i64 dv] 53)).heap.size = w.heap.size + 1 by simp)
  clear hr hrt
  cases hvp : vP x y n with
  | false =>
    obtain ⟨z1, z2⟩ := sw_no (x := x) (y := y) (n := n) (du := du) (dv := dv) (m := m) (by rw [hvp]; rfl)
    have HZ2 := Lib.hid z2
    rw [z1]
    rw [hvp] at HVP
    clear z1 z2 hvp cD
    go_enter Try.func27, Try.ntmps27
    go_wp2_with (go_at_call 57; refine (HVP.out _ (by exact HR.out.below HBX.out)).mono ?_; rintro e w2 ⟨rfl, hb2⟩; have HB2 := Lib.hid hb2; clear hb2)
    go_ret2
    exact ⟨_, rfl, ⟨fun _ => 0, fun _ => 0, by rw [HZ2.out]; exact Own.nil _ _ _ _ _, by rw [HZ2.out]; exact fun j hj => by omega⟩, below_next HBX.out HB2.out⟩
  | true =>
    have HVI := Lib.hid (vP_in hvp)
    cases hvd : vD du dv with
    | false =>
      obtain ⟨z1, z2⟩ := sw_no (x := x) (y := y) (n := n) (du := du) (dv := dv) (m := m) (by rw [hvp, hvd]; rfl)
      have HZ2 := Lib.hid z2
      rw [z1]
      rw [hvp] at HVP
      rw [hvd] at cD
      clear z1 z2 hvp hvd
      go_enter Try.func27, Try.ntmps27
      go_wp2_with (first | (go_at_call 57; refine (HVP.out _ (by exact HR.out.below HBX.out)).mono ?_; rintro e w2 ⟨rfl, hb2⟩; have HB2 := Lib.hid hb2; have HD := Lib.hid ((hb2.block w.heap.size (by have := HWs.out; omega)).trans HBC.out); have hd0 : w2.cell? ⟨w.heap.size, 0, none⟩ = some (.int .i64 du) := (cell_of_row _ _ 0 _ _ (0, 0) HD.out).trans rfl; have hd1 : w2.cell? ⟨w.heap.size, 1, none⟩ = some (.int .i64 dv) := (cell_of_row _ _ 1 _ _ (0, 0) HD.out).trans rfl; clear hb2) | (go_at_call 58; refine (cD _).mono ?_; rintro e w3 ⟨rfl, hb3⟩; have HB3 := Lib.hid hb3; clear hb3))
      go_ret2
      exact ⟨_, rfl, ⟨fun _ => 0, fun _ => 0, by rw [HZ2.out]; exact Own.nil _ _ _ _ _, by rw [HZ2.out]; exact fun j hj => by omega⟩, below_next (below_next HBX.out HB2.out) HB3.out⟩
    | true =>
      have HDI := Lib.hid (vD_in hvd)
      by_cases hmn : m = n
      · obtain ⟨z1, z2⟩ := sw_yes (x := x) (y := y) hvp hvd hmn
        have HZ2 := Lib.hid z2
        rw [z1]
        rw [hvp] at HVP
        rw [hvd] at cD
        clear z1 z2 hvp hvd
        subst hmn
        obtain ⟨i0, hi, hz0, hz1, hz2⟩ := info_parts info_cx
        go_enter Try.func27, Try.ntmps27
        go_wp2_with (first | (go_at_call 57; refine (HVP.out _ (by exact HR.out.below HBX.out)).mono ?_; rintro e w2 ⟨rfl, hb2⟩; have HB2 := Lib.hid hb2; have HD := Lib.hid ((hb2.block w.heap.size (by have := HWs.out; omega)).trans HBC.out); have hd0 : w2.cell? ⟨w.heap.size, 0, none⟩ = some (.int .i64 du) := (cell_of_row _ _ 0 _ _ (0, 0) HD.out).trans rfl; have hd1 : w2.cell? ⟨w.heap.size, 1, none⟩ = some (.int .i64 dv) := (cell_of_row _ _ 1 _ _ (0, 0) HD.out).trans rfl; clear hb2) | (go_at_call 58; refine (cD _).mono ?_; rintro e w3 ⟨rfl, hb3⟩; have HB3 := Lib.hid hb3; have HE := Lib.hid ((hb3.block w.heap.size (Array.getElem?_eq_some_iff.1 HD.out).1).trans HD.out); have hlt3 : w.heap.size < w3.heap.size := (Array.getElem?_eq_some_iff.1 HE.out).1; have he0 : (w3.alloc (.cells #[] 23)).cell? ⟨w.heap.size, 0, none⟩ = some (.int .i64 du) := ((below_alloc w3 _).cell (p := ⟨w.heap.size, 0, none⟩) hlt3).trans ((cell_of_row _ _ 0 _ _ (0, 0) HE.out).trans rfl); have he1 : (w3.alloc (.cells #[] 23)).cell? ⟨w.heap.size, 1, none⟩ = some (.int .i64 dv) := ((below_alloc w3 _).cell (p := ⟨w.heap.size, 1, none⟩) hlt3).trans ((cell_of_row _ _ 1 _ _ (0, 0) HE.out).trans rfl); clear hb3) | (go_at_call 59; refine (steerS ad m m x y du dv _ (by exact (((HR.out.below HBX.out).below HB2.out).below HB3.out).below (below_alloc w3 _)) HVI.out.1 HVI.out.2 HDI.out).mono ?_; rintro e w4 ⟨v4, rfl, ho4, hb4⟩; obtain ⟨ad4, cap4, rfl, hr4⟩ := ho4.rd; have HO4 := Lib.hid ho4; have HR4 := Lib.hid hr4; have HB4 := Lib.hid hb4; clear ho4 hr4 hb4))
        have hw34 : w.heap.size ≤ w3.heap.size := Nat.le_of_lt hlt3
        have HB4w := Lib.hid (below_next (below_next (below_next (below_next HBX.out HB2.out) HB3.out) (below_alloc w3 _)) HB4.out)
        have hs34 : w3.heap.size + 1 ≤ w4.heap.size := by have := HB4.out.size; simp at this; omega
        go_loopw [8, 10] (fun out i wr => ∃ (k : Nat) (fr fi : Nat → Nat), k ≤ m ∧ i = .int .i64 k ∧ Hid (OutK w3.heap.size w4 wr 23 out k (fun j => .complex .f32 (fr j) (fi j))) ∧ Hid (SwF x y du dv tp k fr fi)) (fun _ i _ => m - (intOf i).toNat)
        case atStart =>
          exact ⟨0, fun _ => 0, fun _ => 0, Nat.zero_le _, rfl, Lib.hid ⟨((Own.empty w3 _ _).below HB4.out (Nat.le_refl _)).wider (Nat.le_refl _) HB4.out.size, ⟨w3.heap.size, 0, rfl, .inl rfl⟩, Kept.refl _ _ _⟩, Lib.hid (fun j hj => by omega)⟩
        case round =>
          obtain ⟨k, fr, fi, hk, rfl, HO, HF⟩ := hrel
          have HBw := Lib.hid (HB4w.out.trans (HO.out.2.2.below hw34 (by omega)))
          by_cases hlt : k < m
          · obtain ⟨bt, offt, rfl, hbt, hct⟩ := (HRT.out.below HBw.out).at hlt
            have ht1 := hct k hlt
            clear hct
            obtain ⟨bl, offl, rfl, hbl, hcl⟩ := (HO4.out.kept HO.out.2.2 (.inr (by simp))).rd2.at hlt
            have hl1 := hcl k hlt
            clear hcl
            have cS := fun u => scaleS (phR (tS x y du dv k)) (phI (tS x y du dv k)) (tp k) u
            have HST := Lib.hid (fun (r i : Nat) (q1 : cf .f32 r = mcf .mul .f32 (phR (tS x y du dv k)) (tp k)) (q2 : cf .f32 i = mcf .mul .f32 (phI (tS x y du dv k)) (tp k)) => SwF.step HF.out q1 q2)
            generalize phR (tS x y du dv k) = pr at *
            generalize phI (tS x y du dv k) = pi at *
            generalize tp k = tk at *
            go_wp2_with fail
            go_region_law (first
              | ((refine step_append_lies _ (by rfl) _ _ _ (by rfl) w3.heap.size 23 i0 (.complex .f32 0 0) 1 8 Try.underlying37 hi hz0 hz1 hz2 rfl (by omega) u8 k ((List.range k).map (fun j => .complex .f32 (fr j) (fi j))) (by rfl) ((show (wr.drewN (1 + m')).ownsRow _ _ _ _ _ _ from HO.out.1.row).alloc _) ⟨wr.heap.size, 0, none⟩ 1 1 [.complex .f32 r im] (by rfl) (by rfl) (World.news_of_block (cs := #[.complex .f32 r im]) (t := 23) (fr := (0, 0)) (heap_alloc_new (wr.drewN (1 + m')) _)) (by simp [Value.oneCell']) (by omega) (by have := HVI.out.1; unfold maxLen; omega) (by have := HVI.out.1; omega) (by have := HO.out.2.2.size; simp; omega) (wr.heap.size + 1) (by simp) ?_; intro gg c1 w5 hown5 hgrow5 hat5 hlt5; have HPU := Lib.hid (OutK.push HO.out (F' := fun j => .complex .f32 (if j = k then r else fr j) (if j = k then im else fi j)) (fun j hj => by rw [if_neg (by omega), if_neg (by omega)]) (below_undrew (below_alloc (wr.drewN (1 + m')) _)) hown5 hgrow5 hat5 (by simp)); clear hown5 hgrow5 hat5))
              | ((refine step_append_lies _ (by rfl) _ _ _ (by rfl) w3.heap.size 23 i0 (.complex .f32 0 0) 1 8 Try.underlying37 hi hz0 hz1 hz2 rfl (by omega) u8 k ((List.range k).map (fun j => .complex .f32 (fr j) (fi j))) (by rfl) ((show (wr.drewN (1 + m')).ownsRow _ _ _ _ _ _ from HO.out.1.row).alloc _.drew) ⟨wr.heap.size, 0, none⟩ 1 1 [.complex .f32 r im] (by rfl) (by rfl) (World.news_of_block (cs := #[.complex .f32 r im]) (t := 23) (fr := (0, 0)) (heap_alloc_new (wr.drewN (1 + m')) _)) (by simp [Value.oneCell']) (by omega) (by have := HVI.out.1; unfold maxLen; omega) (by have := HVI.out.1; omega) (by have := HO.out.2.2.size; simp; omega) (wr.heap.size + 1) (by simp) ?_; intro gg c1 w5 hown5 hgrow5 hat5 hlt5; have HPU := Lib.hid (OutK.push HO.out (F' := fun j => .complex .f32 (if j = k then r else fr j) (if j = k then im else fi j)) (fun j hj => by rw [if_neg (by omega), if_neg (by omega)]) (below_drew1 (below_undrew (below_alloc (wr.drewN (1 + m')) _))) hown5 hgrow5 hat5 (by simp)); clear hown5 hgrow5 hat5))
              | (go_simp; go_at_call 60; refine (cS _).mono ?_; rintro e w' ⟨r, im, m', rfl, rfl, hR, hI⟩; have HRI := Lib.hid (And.intro hR hI); clear hR hI))
            all_goals go_wp2
            all_goals go_roundw
            all_goals first
              | (simp [intOf]; omega)
              | exact ⟨k + 1, _, _, by omega, by go_num, HPU, Lib.hid (HST.out _ _ HRI.out.1 HRI.out.2)⟩
          · have : k = m := by omega
            subst this
            go_wp2
            go_ret2
            exact ⟨_, rfl, ⟨fr, fi, by rw [HZ2.out]; exact HO.out.1.wider hw34 (Nat.le_refl _), by rw [HZ2.out]; exact HF.out⟩, HBw.out⟩
      · obtain ⟨z1, z2⟩ := sw_no (x := x) (y := y) (n := n) (du := du) (dv := dv) (m := m) (by rw [hvp, hvd, decide_eq_false hmn]; rfl)
        have HZ2 := Lib.hid z2
        rw [z1]
        rw [hvp] at HVP
        rw [hvd] at cD
        have hmn' : ¬ (m : Int) = n := by omega
        clear z1 z2 hvp hvd hmn
        go_enter Try.func27, Try.ntmps27
        go_wp2_with (first | (go_at_call 57; refine (HVP.out _ (by exact HR.out.below HBX.out)).mono ?_; rintro e w2 ⟨rfl, hb2⟩; have HB2 := Lib.hid hb2; have HD := Lib.hid ((hb2.block w.heap.size (by have := HWs.out; omega)).trans HBC.out); have hd0 : w2.cell? ⟨w.heap.size, 0, none⟩ = some (.int .i64 du) := (cell_of_row _ _ 0 _ _ (0, 0) HD.out).trans rfl; have hd1 : w2.cell? ⟨w.heap.size, 1, none⟩ = some (.int .i64 dv) := (cell_of_row _ _ 1 _ _ (0, 0) HD.out).trans rfl; clear hb2) | (go_at_call 58; refine (cD _).mono ?_; rintro e w3 ⟨rfl, hb3⟩; have HB3 := Lib.hid hb3; clear hb3))
        go_ret2
        exact ⟨_, rfl, ⟨fun _ => 0, fun _ => 0, by rw [HZ2.out]; exact Own.nil _ _ _ _ _, by rw [HZ2.out]; exact fun j hj => by omega⟩, below_next (below_next HBX.out HB2.out) HB3.out⟩
end Go.Proofs.Ytbmbgailhiepbaa
