/- The program's SteerWeights returns what the reference's SteerWeights returns, leaves its slices alone and hands back new memory, for all arguments; no condition. -/
import Derived.Test.YtbmbgailhiepbaaSteX
import Derived.Test.YtbmbgailhiepbaaHarF
import Derived.Test.YtbmbgailhiepbaaHarE
import Derived.Test.YtbmbgailhiepbaaHarMF
import Derived.Test.YtbmbgailhiepbaaHarCE
import Derived.Test.YtbmbgailhiepbaaHarCM
import Derived.Test.YtbmbgailhiepbaaOpenP
import Derived.Deep.DeepCutAuto
import Derived.Deep.RegionHeld3
namespace Go.Proofs.Ytbmbgailhiepbaa
open Go.RowKit

theorem quietB {P : Program} {f : FuncId} {args : Array Value} {w : World} {v : Value} (h : Calls P f args w fun e w' => e = .returned v ∧ ∃ m, w' = w.drewN m) : Calls P f args w fun e w' => e = .returned v ∧ Below w.heap.size w w' :=
  h.mono fun _ _ ⟨he, m, hw⟩ => ⟨he, by rw [hw]; exact below_drewN (Below.refl _ _) m⟩

set_option maxRecDepth 100000 in
set_option maxHeartbeats 8000000 in
theorem FnExactSteerWeights_walk (adp adt : Option Addr) (n m capp capt : Nat) (x y : Nat → Int) (du dv : Int) (tp : Nat → Nat) (w : World) (hr : RdP w adp n x y) (hrt : Rd w adt m (fun j => .float .f32 (tp j))) (hn : n ≤ 9223372036854775807) (hm : m ≤ 9223372036854775807) :
    Calls Try.prog 7 #[.slice adp n capp, .agg #[.int .i64 du, .int .i64 dv], .slice adt m capt] w fun e w' => e = .returned (.bool true) ∧ Below w.heap.size w w' := by
  by_cases hbig : (1048576 : Int) < m
  · clear hr hrt
    go_enter Try.func7, Try.ntmps7
    go_wp2_with fail
    go_ret
    exact ⟨rfl, below_alloc _ _⟩
  · have hm2 : m ≤ 1048576 := by omega
    by_cases hn2 : n ≤ 1048576
    · have HBX := Lib.hid (below_alloc w (.cells #[.int .i64 du, .int .i64 dv] 48))
      have HRP := Lib.hid (hr.below HBX.out)
      have HRT := Lib.hid (hrt.below HBX.out)
      have HBC := Lib.hid (heap_alloc_new w (.cells #[.int .i64 du, .int .i64 dv] 48))
      have HD0 := Lib.hid ((cell_of_row _ _ 0 _ _ (0, 0) HBC.out).trans rfl : (w.alloc (.cells #[.int .i64 du, .int .i64 dv] 48)).cell? ⟨w.heap.size, 0, none⟩ = some (.int .i64 du))
      have HD1 := Lib.hid ((cell_of_row _ _ 1 _ _ (0, 0) HBC.out).trans rfl : (w.alloc (.cells #[.int .i64 du, .int .i64 dv] 48)).cell? ⟨w.heap.size, 1, none⟩ = some (.int .i64 dv))
      have HWlt := Lib.hid (show w.heap.size < (w.alloc (.cells #[.int .i64 du, .int .i64 dv] 48)).heap.size by simp)
      have hlen := swLen_le x y n du dv m
      have cZ := fun u => szP_any adp n capp u hn
      rw [if_pos hn2] at cZ
      have hsz : ¬ (1048576 : Int) - n < 0 := by omega
      have hkk : ¬ (1 + 2 * (n : Int) + (m : Int)) < 0 := by omega
      clear hr hrt HBC
      go_enter Try.func7, Try.ntmps7
      go_wp2_with fail
      generalize w.alloc (.cells #[.int .i64 du, .int .i64 dv] 48) = W at *
      have HB0 := Lib.hid (Below.refl W.heap.size W)
      refine (cZ _).mono ?_
      rintro e w' ⟨rfl, rfl⟩
      have HRPb := Lib.hid (HRP.out.below HB0.out)
      have HRTb := Lib.hid (HRT.out.below HB0.out)
      have hd0 : W.cell? ⟨w.heap.size, 0, none⟩ = some (.int .i64 du) := (HB0.out.cell (p := ⟨w.heap.size, 0, none⟩) HWlt.out).trans HD0.out
      have hd1 : W.cell? ⟨w.heap.size, 1, none⟩ = some (.int .i64 dv) := (HB0.out.cell (p := ⟨w.heap.size, 1, none⟩) HWlt.out).trans HD1.out
      have hltb : w.heap.size < W.heap.size := Nat.lt_of_lt_of_le HWlt.out HB0.out.size
      go_upto_region 7 with fail
      go_cut [8, 9] (fun sa sb wx => ∃ (ada : Option Addr) (cpa : Nat) (fr fi : Nat → Nat), sa = .slice ada (swLen x y n du dv m) cpa ∧ sb = .bool (swOk x y n du dv m) ∧ Hid (Live wx W.heap.size wx.heap.size 23 (.slice ada (swLen x y n du dv m) cpa) (swLen x y n du dv m) (fun j => .complex .f32 (fr j) (fi j))) ∧ Hid (SwF x y du dv tp (swLen x y n du dv m) fr fi) ∧ Hid (Below W.heap.size W wx))
      case first =>
        go_region_held3 (fun w' => w'.cell? ⟨w.heap.size, 0, none⟩ = some (.int .i64 du) ∧ w'.cell? ⟨w.heap.size, 1, none⟩ = some (.int .i64 dv))
          (first | go_keep | exact ⟨(HBS.out.cell (p := ⟨w.heap.size, 0, none⟩) hltb).trans hd0, (HBS.out.cell (p := ⟨w.heap.size, 1, none⟩) hltb).trans hd1⟩ | exact ⟨(HBP.out.cell (p := ⟨w.heap.size, 0, none⟩) hltb).trans hd0, (HBP.out.cell (p := ⟨w.heap.size, 1, none⟩) hltb).trans hd1⟩ | exact ⟨(HBD.out.cell (p := ⟨w.heap.size, 0, none⟩) hltb).trans hd0, (HBD.out.cell (p := ⟨w.heap.size, 1, none⟩) hltb).trans hd1⟩ | exact ⟨(HBT.out.cell (p := ⟨w.heap.size, 0, none⟩) hltb).trans hd0, (HBT.out.cell (p := ⟨w.heap.size, 1, none⟩) hltb).trans hd1⟩)
          (first
            | (go_at_call 28; refine (toP_any adp n capp x y _ (by first | exact HRPb.out | exact HRPb.out.below HBT.out | exact HRPb.out.below HBD.out) hn2).mono ?_; rintro e wp ⟨vp, rfl, hop, hbp⟩; have HBP := Lib.hid (show Below W.heap.size W wp from (by first | exact below_undrew1 hbp | exact below_next HBP.out hbp | exact below_next HBD.out hbp | exact below_next HBT.out hbp)); (try have HLTp := Lib.hid (Live.below HLTd.out hbp)); (try have HLTp := Lib.hid (Live.below HLT0.out hbp)); obtain ⟨gp, rfl, _⟩ := hop.form; have HLP0 := Lib.hid (LiveP.mk' hop); clear hop hbp)
            | (go_at_call 29; refine (toDir_any du dv _).mono ?_; rintro e wd ⟨rfl, hbd⟩; have HBD := Lib.hid (show Below W.heap.size W wd from (by first | exact below_undrew1 hbd | exact below_next HBP.out hbd | exact below_next HBD.out hbd | exact below_next HBT.out hbd)); (try have HLPd := Lib.hid (LiveP.below HLPt.out hbd)); (try have HLPd := Lib.hid (LiveP.below HLP0.out hbd)); (try have HLTd := Lib.hid (Live.below HLTp.out hbd)); (try have HLTd := Lib.hid (Live.below HLT0.out hbd)); clear hbd)
            | (go_at_call 30; refine (toF_any adt m capt tp _ (by first | exact HRTb.out | exact HRTb.out.below HBP.out | exact HRTb.out.below HBD.out) hm2).mono ?_; rintro e wt ⟨vt, rfl, hot, hbt⟩; have HBT := Lib.hid (show Below W.heap.size W wt from (by first | exact below_undrew1 hbt | exact below_next HBP.out hbt | exact below_next HBD.out hbt | exact below_next HBT.out hbt)); (try have HLPt := Lib.hid (LiveP.below HLPd.out hbt)); (try have HLPt := Lib.hid (LiveP.below HLP0.out hbt)); obtain ⟨adT, capT, rfl, _⟩ := hot.rd; have HLT0 := Lib.hid (Live.mk' hot); clear hot hbt)
            | (go_at_call 27; refine (swS _ _ n m _ x y du dv tp _ (by first | exact HLP0.out.1.rd2 | exact HLPd.out.1.rd2 | exact HLPt.out.1.rd2) (by first | exact Own.rd2 HLT0.out.1 | exact Own.rd2 HLTd.out.1 | exact Own.rd2 HLTp.out.1) hn2 hm2).mono ?_; rintro e ws ⟨vs, rfl, ⟨fr, fi, hos, hfs⟩, hbs⟩; have HBS := Lib.hid (show Below W.heap.size W ws from (by first | exact below_undrew1 hbs | exact below_next HBP.out hbs | exact below_next HBD.out hbs | exact below_next HBT.out hbs)); obtain ⟨adS, capS, rfl, _⟩ := hos.rd; have HLS := Lib.hid (show Live ws W.heap.size ws.heap.size 23 _ (swLen x y n du dv m) (fun j => .complex .f32 (fr j) (fi j)) from ⟨hos.wider (by first | exact HBP.out.size | exact HBD.out.size | exact HBT.out.size) (Nat.le_refl _), Nat.le_refl _⟩); have HFS := Lib.hid hfs; clear hos hfs hbs))
        all_goals (go_wp2_with fail; go_meet; exact ⟨_, _, _, _, rfl, rfl, HLS, HFS, HBS⟩)
      case rest =>
        obtain ⟨adw, capw, frw, fiw, rfl, rfl, HLw1, HFw, HBc1⟩ := hcut
        obtain ⟨w1, hwc⟩ : ∃ z, z = wc := ⟨_, rfl⟩
        subst hwc
        have hb1 := HBc1.out
        have HLow := Lib.hid (show W.heap.size ≤ W.heap.size from HB0.out.size)
        have HB1 := Lib.hid (below_next HB0.out hb1)
        clear hb1 hd0 hd1 hltb HRPb HRTb
        go_wp2_with fail
        refine (toP_any adp n capp x y _ (by exact HRP.out.below HB1.out) hn2).mono ?_
        rintro e w2 ⟨v2, rfl, ho2, hb2⟩
        have HDwx := Lib.hid (HLw1.out.2)
        have HLw2 := Lib.hid (Live.below HLw1.out hb2)
        have HLox := Lib.hid (show W.heap.size ≤ w1.heap.size from HB1.out.size)
        have HB2 := Lib.hid (below_next HB1.out hb2)
        obtain ⟨gx, rfl, _⟩ := ho2.form
        have HLx2 := Lib.hid (LiveP.mk' ho2)
        clear ho2 hb2
        go_wp2_with fail
        refine (toF_any adt m capt tp _ (by exact HRT.out.below HB2.out) hm2).mono ?_
        rintro e w3 ⟨v3, rfl, ho3, hb3⟩
        have HDwq := Lib.hid (HLw2.out.2)
        have HDxq := Lib.hid (HLx2.out.2)
        have HLw3 := Lib.hid (Live.below HLw2.out hb3)
        have HLx3 := Lib.hid (LiveP.below HLx2.out hb3)
        have HLoq := Lib.hid (show W.heap.size ≤ w2.heap.size from HB2.out.size)
        have HB3 := Lib.hid (below_next HB2.out hb3)
        obtain ⟨adq, capq, rfl, _⟩ := ho3.rd
        have HLq3 := Lib.hid (Live.mk' ho3)
        clear ho3 hb3
        have hd0 : w3.cell? ⟨w.heap.size, 0, none⟩ = some (.int .i64 du) := (HB3.out.cell (p := ⟨w.heap.size, 0, none⟩) HWlt.out).trans HD0.out
        have hd1 : w3.cell? ⟨w.heap.size, 1, none⟩ = some (.int .i64 dv) := (HB3.out.cell (p := ⟨w.heap.size, 1, none⟩) HWlt.out).trans HD1.out
        go_wp2_with fail
        refine (toDir_any du dv _).mono ?_
        rintro e w4 ⟨rfl, hb4⟩
        have HLw4 := Lib.hid (Live.below HLw3.out hb4)
        have HLx4 := Lib.hid (LiveP.below HLx3.out hb4)
        have HLq4 := Lib.hid (Live.below HLq3.out hb4)
        have HB4 := Lib.hid (below_next HB3.out hb4)
        clear hb4
        clear hd0 hd1
        go_wp2_with fail
        refine (swI _ _ n m _ x y du dv tp _ (by have := HLx4.out.1.rd2; exact this) (by have := Own.rd2 HLq4.out.1; exact this) hn2 hm2).mono ?_
        rintro e w5 ⟨v5, rfl, ⟨frg, fig, ho5, hf5⟩, hb5⟩
        have HDwg := Lib.hid (HLw4.out.2)
        have HDxg := Lib.hid (HLx4.out.2)
        have HDqg := Lib.hid (HLq4.out.2)
        have HLw5 := Lib.hid (Live.below HLw4.out hb5)
        have HLx5 := Lib.hid (LiveP.below HLx4.out hb5)
        have HLq5 := Lib.hid (Live.below HLq4.out hb5)
        have HLog := Lib.hid (show W.heap.size ≤ w4.heap.size from HB4.out.size)
        have HB5 := Lib.hid (below_next HB4.out hb5)
        obtain ⟨adg, capg, rfl, _⟩ := ho5.rd
        have HLg5 := Lib.hid (Live.mk' ho5)
        have HFg := Lib.hid hf5
        clear hf5
        clear ho5 hb5
        go_wp2_with fail
        refine (quietB (eqC_any _ _ (swLen x y n du dv m) _ _ frg fig frw fiw _ (by have := Own.rd2 HLg5.out.1; exact this) (by have := Own.rd2 HLw5.out.1; exact this) (by omega) (fun j hj => by rw [(HFg.out j hj).1, (HFw.out j hj).1]) (fun j hj => by rw [(HFg.out j hj).2, (HFw.out j hj).2]))).mono ?_
        rintro e w6 ⟨rfl, hb6⟩
        have HLw6 := Lib.hid (Live.below HLw5.out hb6)
        have HLx6 := Lib.hid (LiveP.below HLx5.out hb6)
        have HLq6 := Lib.hid (Live.below HLq5.out hb6)
        have HLg6 := Lib.hid (Live.below HLg5.out hb6)
        have HB6 := Lib.hid (below_next HB5.out hb6)
        clear hb6
        go_wp2_with fail
        refine (toP_any adp n capp x y _ (by exact HRP.out.below HB6.out) hn2).mono ?_
        rintro e w7 ⟨v7, rfl, ho7, hb7⟩
        have HDwp := Lib.hid (HLw6.out.2)
        have HDxp := Lib.hid (HLx6.out.2)
        have HDqp := Lib.hid (HLq6.out.2)
        have HDgp := Lib.hid (HLg6.out.2)
        have HLw7 := Lib.hid (Live.below HLw6.out hb7)
        have HLx7 := Lib.hid (LiveP.below HLx6.out hb7)
        have HLq7 := Lib.hid (Live.below HLq6.out hb7)
        have HLg7 := Lib.hid (Live.below HLg6.out hb7)
        have HLop := Lib.hid (show W.heap.size ≤ w6.heap.size from HB6.out.size)
        have HB7 := Lib.hid (below_next HB6.out hb7)
        obtain ⟨gp, rfl, _⟩ := ho7.form
        have HLp7 := Lib.hid (LiveP.mk' ho7)
        clear ho7 hb7
        go_wp2_with fail
        refine (eqP_any _ _ n _ _ x y _ (by have := HLx7.out.1.rd2; exact this) (by have := HLp7.out.1.rd2; exact this) hn2).mono ?_
        rintro e w8 ⟨rfl, hb8⟩
        have HLw8 := Lib.hid (Live.below HLw7.out hb8)
        have HLx8 := Lib.hid (LiveP.below HLx7.out hb8)
        have HLq8 := Lib.hid (Live.below HLq7.out hb8)
        have HLg8 := Lib.hid (Live.below HLg7.out hb8)
        have HLp8 := Lib.hid (LiveP.below HLp7.out hb8)
        have HB8 := Lib.hid (below_next HB7.out hb8)
        clear hb8
        go_wp2_with fail
        refine (toF_any adt m capt tp _ (by exact HRT.out.below HB8.out) hm2).mono ?_
        rintro e w9 ⟨v9, rfl, ho9, hb9⟩
        have HDwu := Lib.hid (HLw8.out.2)
        have HDxu := Lib.hid (HLx8.out.2)
        have HDqu := Lib.hid (HLq8.out.2)
        have HDgu := Lib.hid (HLg8.out.2)
        have HDpu := Lib.hid (HLp8.out.2)
        have HLw9 := Lib.hid (Live.below HLw8.out hb9)
        have HLx9 := Lib.hid (LiveP.below HLx8.out hb9)
        have HLq9 := Lib.hid (Live.below HLq8.out hb9)
        have HLg9 := Lib.hid (Live.below HLg8.out hb9)
        have HLp9 := Lib.hid (LiveP.below HLp8.out hb9)
        have HLou := Lib.hid (show W.heap.size ≤ w8.heap.size from HB8.out.size)
        have HB9 := Lib.hid (below_next HB8.out hb9)
        obtain ⟨adu, capu, rfl, _⟩ := ho9.rd
        have HLu9 := Lib.hid (Live.mk' ho9)
        clear ho9 hb9
        go_wp2_with fail
        refine (quietB (eqF_any _ _ m _ _ tp tp _ (by have := Own.rd2 HLq9.out.1; exact this) (by have := Own.rd2 HLu9.out.1; exact this) hm2 (fun _ _ => rfl))).mono ?_
        rintro e w10 ⟨rfl, hb10⟩
        have HLw10 := Lib.hid (Live.below HLw9.out hb10)
        have HLx10 := Lib.hid (LiveP.below HLx9.out hb10)
        have HLq10 := Lib.hid (Live.below HLq9.out hb10)
        have HLg10 := Lib.hid (Live.below HLg9.out hb10)
        have HLp10 := Lib.hid (LiveP.below HLp9.out hb10)
        have HLu10 := Lib.hid (Live.below HLu9.out hb10)
        have HB10 := Lib.hid (below_next HB9.out hb10)
        clear hb10
        go_wp2_with fail
        refine (markP_any _ n x y 1 _ w1.heap.size w2.heap.size (by have := HLx10.out.1; exact this) hn2 (by omega) (by omega)).mono ?_
        rintro e w11 ⟨rfl, ho11, hk11⟩
        have HB11 := Lib.hid (below_kept HB10.out hk11 HLox.out)
        have HLw11 := Lib.hid (Live.kept HLw10.out hk11 (.inl HDwx.out))
        have HLx11 := Lib.hid (LiveP.marked HLx10.out hk11 ho11)
        have HLq11 := Lib.hid (Live.kept HLq10.out hk11 (.inr HDxq.out))
        have HLg11 := Lib.hid (Live.kept HLg10.out hk11 (.inr HDxg.out))
        have HLp11 := Lib.hid (LiveP.kept HLp10.out hk11 (.inr HDxp.out))
        have HLu11 := Lib.hid (Live.kept HLu10.out hk11 (.inr HDxu.out))
        clear ho11 hk11
        go_wp2_with fail
        refine (markF_any (.slice adq m capq) m _ (1 + 2 * (n : Int)) _ w2.heap.size w3.heap.size (by have := HLq11.out.1; exact this) (by omega) (by omega) (by omega)).mono ?_
        rintro e w12 ⟨rfl, ho12, hk12⟩
        have HB12 := Lib.hid (below_kept HB11.out hk12 HLoq.out)
        have HLw12 := Lib.hid (Live.kept HLw11.out hk12 (.inl HDwq.out))
        have HLx12 := Lib.hid (LiveP.kept HLx11.out hk12 (.inl HDxq.out))
        have HLq12 := Lib.hid (Live.marked HLq11.out hk12 ho12)
        have HLg12 := Lib.hid (Live.kept HLg11.out hk12 (.inr HDqg.out))
        have HLp12 := Lib.hid (LiveP.kept HLp11.out hk12 (.inr HDqp.out))
        have HLu12 := Lib.hid (Live.kept HLu11.out hk12 (.inr HDqu.out))
        clear ho12 hk12
        go_wp2_with fail
        refine (quietB (eqC_any _ _ (swLen x y n du dv m) _ _ frg fig frw fiw _ (by have := Own.rd2 HLg12.out.1; exact this) (by have := Own.rd2 HLw12.out.1; exact this) (by omega) (fun j hj => by rw [(HFg.out j hj).1, (HFw.out j hj).1]) (fun j hj => by rw [(HFg.out j hj).2, (HFw.out j hj).2]))).mono ?_
        rintro e w13 ⟨rfl, hb13⟩
        have HLw13 := Lib.hid (Live.below HLw12.out hb13)
        have HLx13 := Lib.hid (LiveP.below HLx12.out hb13)
        have HLq13 := Lib.hid (Live.below HLq12.out hb13)
        have HLg13 := Lib.hid (Live.below HLg12.out hb13)
        have HLp13 := Lib.hid (LiveP.below HLp12.out hb13)
        have HLu13 := Lib.hid (Live.below HLu12.out hb13)
        have HB13 := Lib.hid (below_next HB12.out hb13)
        clear hb13
        go_wp2_with fail
        refine (markC_any (.slice adg (swLen x y n du dv m) capg) (swLen x y n du dv m) _ 1 _ w4.heap.size w5.heap.size (by have := HLg13.out.1; exact this) (by omega) (by omega) (by omega)).mono ?_
        rintro e w14 ⟨rfl, ho14, hk14⟩
        have HB14 := Lib.hid (below_kept HB13.out hk14 HLog.out)
        have HLw14 := Lib.hid (Live.kept HLw13.out hk14 (.inl HDwg.out))
        have HLx14 := Lib.hid (LiveP.kept HLx13.out hk14 (.inl HDxg.out))
        have HLq14 := Lib.hid (Live.kept HLq13.out hk14 (.inl HDqg.out))
        have HLg14 := Lib.hid (Live.marked HLg13.out hk14 ho14)
        have HLp14 := Lib.hid (LiveP.kept HLp13.out hk14 (.inr HDgp.out))
        have HLu14 := Lib.hid (Live.kept HLu13.out hk14 (.inr HDgu.out))
        clear ho14 hk14
        go_wp2_with fail
        refine (quietB (heldC_any (.slice adg (swLen x y n du dv m) capg) (swLen x y n du dv m) 1 _ w4.heap.size w5.heap.size (by have := HLg14.out.1; exact this) (by omega) (by omega) (by omega))).mono ?_
        rintro e w15 ⟨rfl, hb15⟩
        have HLw15 := Lib.hid (Live.below HLw14.out hb15)
        have HLx15 := Lib.hid (LiveP.below HLx14.out hb15)
        have HLq15 := Lib.hid (Live.below HLq14.out hb15)
        have HLg15 := Lib.hid (Live.below HLg14.out hb15)
        have HLp15 := Lib.hid (LiveP.below HLp14.out hb15)
        have HLu15 := Lib.hid (Live.below HLu14.out hb15)
        have HB15 := Lib.hid (below_next HB14.out hb15)
        clear hb15
        have HRPb := Lib.hid (HRP.out.below HB15.out)
        have HRTb := Lib.hid (HRT.out.below HB15.out)
        have hd0 : w15.cell? ⟨w.heap.size, 0, none⟩ = some (.int .i64 du) := (HB15.out.cell (p := ⟨w.heap.size, 0, none⟩) HWlt.out).trans HD0.out
        have hd1 : w15.cell? ⟨w.heap.size, 1, none⟩ = some (.int .i64 dv) := (HB15.out.cell (p := ⟨w.heap.size, 1, none⟩) HWlt.out).trans HD1.out
        have hltb : w.heap.size < w15.heap.size := Nat.lt_of_lt_of_le HWlt.out HB15.out.size
        go_upto_region 30 with fail
        go_cut [17, 18] (fun sa sb wx => ∃ (ada : Option Addr) (cpa : Nat) (fr fi : Nat → Nat), sa = .slice ada (swLen x y n du dv m) cpa ∧ sb = .bool (swOk x y n du dv m) ∧ Hid (Live wx w15.heap.size wx.heap.size 23 (.slice ada (swLen x y n du dv m) cpa) (swLen x y n du dv m) (fun j => .complex .f32 (fr j) (fi j))) ∧ Hid (SwF x y du dv tp (swLen x y n du dv m) fr fi) ∧ Hid (Below w15.heap.size w15 wx))
        case first =>
          go_region_held3 (fun w' => w'.cell? ⟨w.heap.size, 0, none⟩ = some (.int .i64 du) ∧ w'.cell? ⟨w.heap.size, 1, none⟩ = some (.int .i64 dv))
            (first | go_keep | exact ⟨(HBS.out.cell (p := ⟨w.heap.size, 0, none⟩) hltb).trans hd0, (HBS.out.cell (p := ⟨w.heap.size, 1, none⟩) hltb).trans hd1⟩ | exact ⟨(HBP.out.cell (p := ⟨w.heap.size, 0, none⟩) hltb).trans hd0, (HBP.out.cell (p := ⟨w.heap.size, 1, none⟩) hltb).trans hd1⟩ | exact ⟨(HBD.out.cell (p := ⟨w.heap.size, 0, none⟩) hltb).trans hd0, (HBD.out.cell (p := ⟨w.heap.size, 1, none⟩) hltb).trans hd1⟩ | exact ⟨(HBT.out.cell (p := ⟨w.heap.size, 0, none⟩) hltb).trans hd0, (HBT.out.cell (p := ⟨w.heap.size, 1, none⟩) hltb).trans hd1⟩)
            (first
              | (go_at_call 28; refine (toP_any adp n capp x y _ (by first | exact HRPb.out | exact HRPb.out.below HBT.out | exact HRPb.out.below HBD.out) hn2).mono ?_; rintro e wp ⟨vp, rfl, hop, hbp⟩; have HBP := Lib.hid (show Below w15.heap.size w15 wp from (by first | exact below_undrew1 hbp | exact below_next HBP.out hbp | exact below_next HBD.out hbp | exact below_next HBT.out hbp)); (try have HLTp := Lib.hid (Live.below HLTd.out hbp)); (try have HLTp := Lib.hid (Live.below HLT0.out hbp)); obtain ⟨gp, rfl, _⟩ := hop.form; have HLP0 := Lib.hid (LiveP.mk' hop); clear hop hbp)
              | (go_at_call 29; refine (toDir_any du dv _).mono ?_; rintro e wd ⟨rfl, hbd⟩; have HBD := Lib.hid (show Below w15.heap.size w15 wd from (by first | exact below_undrew1 hbd | exact below_next HBP.out hbd | exact below_next HBD.out hbd | exact below_next HBT.out hbd)); (try have HLPd := Lib.hid (LiveP.below HLPt.out hbd)); (try have HLPd := Lib.hid (LiveP.below HLP0.out hbd)); (try have HLTd := Lib.hid (Live.below HLTp.out hbd)); (try have HLTd := Lib.hid (Live.below HLT0.out hbd)); clear hbd)
              | (go_at_call 30; refine (toF_any adt m capt tp _ (by first | exact HRTb.out | exact HRTb.out.below HBP.out | exact HRTb.out.below HBD.out) hm2).mono ?_; rintro e wt ⟨vt, rfl, hot, hbt⟩; have HBT := Lib.hid (show Below w15.heap.size w15 wt from (by first | exact below_undrew1 hbt | exact below_next HBP.out hbt | exact below_next HBD.out hbt | exact below_next HBT.out hbt)); (try have HLPt := Lib.hid (LiveP.below HLPd.out hbt)); (try have HLPt := Lib.hid (LiveP.below HLP0.out hbt)); obtain ⟨adT, capT, rfl, _⟩ := hot.rd; have HLT0 := Lib.hid (Live.mk' hot); clear hot hbt)
              | (go_at_call 31; refine (swI _ _ n m _ x y du dv tp _ (by first | exact HLP0.out.1.rd2 | exact HLPd.out.1.rd2 | exact HLPt.out.1.rd2) (by first | exact Own.rd2 HLT0.out.1 | exact Own.rd2 HLTd.out.1 | exact Own.rd2 HLTp.out.1) hn2 hm2).mono ?_; rintro e ws ⟨vs, rfl, ⟨fr, fi, hos, hfs⟩, hbs⟩; have HBS := Lib.hid (show Below w15.heap.size w15 ws from (by first | exact below_undrew1 hbs | exact below_next HBP.out hbs | exact below_next HBD.out hbs | exact below_next HBT.out hbs)); obtain ⟨adS, capS, rfl, _⟩ := hos.rd; have HLS := Lib.hid (show Live ws w15.heap.size ws.heap.size 23 _ (swLen x y n du dv m) (fun j => .complex .f32 (fr j) (fi j)) from ⟨hos.wider (by first | exact HBP.out.size | exact HBD.out.size | exact HBT.out.size) (Nat.le_refl _), Nat.le_refl _⟩); have HFS := Lib.hid hfs; clear hos hfs hbs))
          all_goals (go_wp2_with fail; go_meet; exact ⟨_, _, _, _, rfl, rfl, HLS, HFS, HBS⟩)
        case rest =>
          obtain ⟨adh, caph, frh, fih, rfl, rfl, HLh16, HFh, HBc16⟩ := hcut
          obtain ⟨w16, hwc⟩ : ∃ z, z = wc := ⟨_, rfl⟩
          subst hwc
          have hb16 := HBc16.out
          have HDwh := Lib.hid (HLw15.out.2)
          have HDxh := Lib.hid (HLx15.out.2)
          have HDqh := Lib.hid (HLq15.out.2)
          have HDgh := Lib.hid (HLg15.out.2)
          have HDph := Lib.hid (HLp15.out.2)
          have HDuh := Lib.hid (HLu15.out.2)
          have HLw16 := Lib.hid (Live.below HLw15.out hb16)
          have HLx16 := Lib.hid (LiveP.below HLx15.out hb16)
          have HLq16 := Lib.hid (Live.below HLq15.out hb16)
          have HLg16 := Lib.hid (Live.below HLg15.out hb16)
          have HLp16 := Lib.hid (LiveP.below HLp15.out hb16)
          have HLu16 := Lib.hid (Live.below HLu15.out hb16)
          have HLoh := Lib.hid (show W.heap.size ≤ w15.heap.size from HB15.out.size)
          have HB16 := Lib.hid (below_next HB15.out hb16)
          clear hb16 hd0 hd1 hltb HRPb HRTb
          go_wp2_with fail
          refine (quietB (eqC_any _ _ (swLen x y n du dv m) _ _ frh fih frw fiw _ (by have := Own.rd2 HLh16.out.1; exact this) (by have := Own.rd2 HLw16.out.1; exact this) (by omega) (fun j hj => by rw [(HFh.out j hj).1, (HFw.out j hj).1]) (fun j hj => by rw [(HFh.out j hj).2, (HFw.out j hj).2]))).mono ?_
          rintro e w17 ⟨rfl, hb17⟩
          have HLw17 := Lib.hid (Live.below HLw16.out hb17)
          have HLx17 := Lib.hid (LiveP.below HLx16.out hb17)
          have HLq17 := Lib.hid (Live.below HLq16.out hb17)
          have HLg17 := Lib.hid (Live.below HLg16.out hb17)
          have HLp17 := Lib.hid (LiveP.below HLp16.out hb17)
          have HLu17 := Lib.hid (Live.below HLu16.out hb17)
          have HLh17 := Lib.hid (Live.below HLh16.out hb17)
          have HB17 := Lib.hid (below_next HB16.out hb17)
          clear hb17
          go_wp2_with fail
          refine (quietB (heldC_any (.slice adg (swLen x y n du dv m) capg) (swLen x y n du dv m) 1 _ w4.heap.size w5.heap.size (by have := HLg17.out.1; exact this) (by omega) (by omega) (by omega))).mono ?_
          rintro e w18 ⟨rfl, hb18⟩
          have HLw18 := Lib.hid (Live.below HLw17.out hb18)
          have HLx18 := Lib.hid (LiveP.below HLx17.out hb18)
          have HLq18 := Lib.hid (Live.below HLq17.out hb18)
          have HLg18 := Lib.hid (Live.below HLg17.out hb18)
          have HLp18 := Lib.hid (LiveP.below HLp17.out hb18)
          have HLu18 := Lib.hid (Live.below HLu17.out hb18)
          have HLh18 := Lib.hid (Live.below HLh17.out hb18)
          have HB18 := Lib.hid (below_next HB17.out hb18)
          clear hb18
          go_wp2_with fail
          go_ret
          exact ⟨rfl, below_next HBX.out HB18.out⟩
    · have cZ := fun u => szP_any adp n capp u hn
      rw [if_neg hn2] at cZ
      clear hr hrt
      go_enter Try.func7, Try.ntmps7
      go_wp2_with (go_at_call 26; refine (cZ _).mono ?_; rintro e w' ⟨rfl, rfl⟩)
      go_ret
      exact ⟨rfl, below_alloc _ _⟩

end Go.Proofs.Ytbmbgailhiepbaa
