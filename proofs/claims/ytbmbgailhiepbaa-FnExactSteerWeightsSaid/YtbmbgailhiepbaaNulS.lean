/- The reference's polynomial, by its contract. -/
import Derived.Test.YtbmbgailhiepbaaNulI
import Derived.Laws.ComplexArith
import Derived.Deep.RegionLaw
import Derived.Deep.DrawnRows
namespace Go.Proofs.Ytbmbgailhiepbaa
open Go.RowKit Ieee

attribute [local go_sem ↓] Go.wp_at_zero Go.wp_at_succ

theorem own_drew {w : World} {lo hi : Nat} {e : TypeId} {v : Value} {n : Nat} {f : Nat → Value} (h : Own w lo hi e v n f) : Own w.drew lo hi e v n f := h
theorem kept_drew {a b : World} {lo hi : Nat} (h : Kept a b lo hi) : Kept a b.drew lo hi := ⟨h.os, h.tape, h.output, h.size, h.block⟩

theorem run_csub {P : Program} {a b c d e : Nat} (ha : Fs a e) (hb : Fs b e) (hc : Fs c e) (hd : Fs d e) (he : e ≤ 126) (t : TypeId) (w : World) :
    (binOp .sub t (.complex .f32 a b) (.complex .f32 c d)).run P w = .ok (.complex .f32 (sB a c) (sB b d)) w := by
  refine run_complex_sum w .sub (.inr rfl) t .f32 a b c d _ _ ?_
  unfold cSumBits
  rw [(sB_fs ha hc he).1, (sB_fs hb hd he).1]
  rfl

set_option maxRecDepth 100000 in
set_option maxHeartbeats 4000000 in
theorem polyS (ad : Option Addr) (n cap : Nat) (zr zi : Nat → Nat) (w : World) (hr : Rd w ad n (fun j => .complex .f32 (zr j) (zi j))) (hz : ∀ j, j < n → Fs (zr j) 5 ∧ Fs (zi j) 5) (hn : n ≤ 15) :
    Calls Try.prog 50 #[.slice ad n cap] w fun e w' => ∃ v, e = .returned v ∧ Own w' w.heap.size w'.heap.size 23 v (n + 1) (fun j => cv (coR zr zi n j)) ∧ Below w.heap.size w w' := by
  obtain ⟨i0, hi, hz0, hz1, hz2⟩ := info_parts info_cx
  have HR := Lib.hid hr
  have HZ := Lib.hid hz
  have hnle : (n : Int) ≤ 15 := by omega
  have hn15 : ¬ (15 : Int) < n := by omega
  clear hr hz
  go_enter Try.func50, Try.ntmps50
  go_wp2
  go_loopw [3, 4, 5, 6] (fun out x _ _ wr => ∃ k : Nat, k ≤ n ∧ x = .int .i64 k ∧ Hid (Own wr w.heap.size wr.heap.size 23 out (k + 1) (fun j => cv (coR zr zi k j))) ∧ Hid (Below w.heap.size w wr)) (fun _ x _ _ _ => n - (intOf x).toNat)
  case atStart => exact ⟨0, Nat.zero_le _, rfl, Lib.hid (Own.one w _ _ _ rfl), Lib.hid (below_alloc _ _)⟩
  case round =>
    obtain ⟨wo, hwo⟩ : ∃ x, x = wr := ⟨_, rfl⟩
    subst hwo
    obtain ⟨k, hk, rfl, HOW, HBW⟩ := hrel
    by_cases hlt : k < n
    · obtain ⟨b, off, rfl, hb, hc⟩ := HR.out.at hlt
      have hck : wo.cell? ⟨b, off + k, none⟩ = some (.complex .f32 (zr k) (zi k)) := (HBW.out.cell (p := ⟨b, off + k, none⟩) hb).trans (hc k hlt)
      clear hc
      go_wp2_with (at_builtin; refine wpList_push _ rfl _ _ 37 rfl 23 i0 (.complex .f32 0 0) 8 Try.underlying37 hi hz0 hz1 hz2 rfl (by omega) _ (.complex .f32 0 0) (k + 1) _ _ _ (fun q => cv (oldC zr zi k q)) rfl rfl (by exact HOW.out) (fun q hq => by unfold oldC; rw [if_pos (by omega)]) (by unfold oldC; rw [if_neg (by omega)]; rfl) rfl (by omega) (by exact HBW.out.size) ?_; intro v' w2 ho2 hb2; obtain ⟨ad2, cap2, rfl, _⟩ := ho2.rd; have HO2 := Lib.hid ho2; have HB2' := Lib.hid hb2; have HB2 := Lib.hid (HBW.out.trans hb2); clear ho2 hb2)
      rcases HO2.out.lt with ⟨_, h0⟩ | ⟨g, c, he, hg1, hg2, hg3⟩
      · omega
      · simp only [Value.slice.injEq] at he
        obtain ⟨rfl, -, rfl⟩ := he
        have HZ2 := Lib.hid (oldC_fs HZ.out hn k hk)
        have HZ1 := Lib.hid (HZ.out k hlt)
        have HCK := Lib.hid hck
        have hbw := hb
        clear hck
        go_loopw [5, 6] (fun x _ wq => ∃ (q : Nat) (i : Int), i + 1 ≤ q ∧ (q : Int) ≤ i + 1 ∧ q ≤ k + 1 + 1 ∧ x = .int .i64 i ∧ Hid (Own wq w.heap.size w2.heap.size 23 (.slice (some ⟨g, 0, none⟩) (k + 1 + 1) cap2) (k + 1 + 1) (fun j => cv (if q ≤ j then coR zr zi (k + 1) j else oldC zr zi k j))) ∧ Hid (Kept w2 wq w.heap.size w2.heap.size)) (fun x _ _ => (intOf x + 1).toNat)
        case atStart => exact ⟨k + 1 + 1, (k : Int) + 1, by omega, by omega, by omega, rfl, Lib.hid (HO2.out.congr (fun j hj => by rw [if_neg (by omega)])), Lib.hid (Kept.refl _ _ _)⟩
        case round =>
          obtain ⟨q, i, hq1, hq2, hq3, rfl, HO, HK⟩ := hrel
          have hckw : wr.cell? ⟨b, off + k, none⟩ = some (.complex .f32 (zr k) (zi k)) := (((HK.out.below (Nat.le_refl _) HB2.out.size).cell (p := ⟨b, off + k, none⟩) hb).trans ((HB2'.out.cell (p := ⟨b, off + k, none⟩) hb).trans HCK.out))
          by_cases hi0 : i < 0
          · have hi0' : ¬ 0 ≤ i := by omega
            have hq0 : q = 0 := by omega
            subst hq0
            go_wp2
            go_roundw
            case rel => exact ⟨k + 1, by omega, by go_num, Lib.hid ((HO.out.wider (Nat.le_refl _) HK.out.size).congr (fun j hj => by rw [if_pos (Nat.zero_le _)])), Lib.hid (kept_below HB2.out HK.out)⟩
            case measure => simp [intOf]; omega
          · by_cases hi1 : i = 0
            · subst hi1
              have hq0 : q = 1 := by omega
              subst hq0
              have ho := HO.out
              have hold := ho.cell (j := 0) (by omega)
              have hfr := ho.frozen 0
              rw [if_neg (by omega)] at hold
              have HEQ := Lib.hid (coR_zero zr zi k)
              have fO := HZ2.out 0
              have cM := fun u => mulCS HZ1.out.1 HZ1.out.2 fO.1 fO.2 (by omega) u
              have fM := mul_fs HZ1.out.1 HZ1.out.2 fO.1 fO.2 (by omega)
              have cL := fun u => run_csub (P := Try.prog) (fs_zero.mono (Nat.zero_le _)) (fs_zero.mono (Nat.zero_le _)) fM.1 fM.2 (by omega) 23 u
              have HEV := Lib.hid (show cv (coR zr zi (k + 1) 0) = .complex .f32 (sB 0 (mulR (zr k) (zi k) (oldC zr zi k 0).1 (oldC zr zi k 0).2)) (sB 0 (mulI (zr k) (zi k) (oldC zr zi k 0).1 (oldC zr zi k 0).2)) by rw [HEQ.out]; rfl)
              clear fO fM
              have hold' : wr.cell? ⟨g, 0, none⟩ = some (.complex .f32 (oldC zr zi k 0).1 (oldC zr zi k 0).2) := hold
              clear hold
              generalize mulR (zr k) (zi k) (oldC zr zi k 0).1 (oldC zr zi k 0).2 = mr at *
              generalize mulI (zr k) (zi k) (oldC zr zi k 0).1 (oldC zr zi k 0).2 = mi at *
              generalize sB 0 mr = nr at *
              generalize sB 0 mi = ni at *
              generalize (oldC zr zi k 0).1 = c1 at *
              generalize (oldC zr zi k 0).2 = c2 at *
              have HS := Lib.hid (ho.store 0 (.complex .f32 nr ni))
              clear ho
              have hb0 : (0 : Int) < (k : Int) + 1 + 1 := by omega
              go_wp2
              go_region_law (first | (go_simp; go_at_call 75; refine (cM _).mono ?_; rintro e w' ⟨rfl, rfl⟩))
              all_goals go_wp2
              all_goals go_roundw
              all_goals first
                | (simp [intOf]; done)
                | (refine ⟨0, -1, by omega, by omega, by omega, by first | rfl | go_num, Lib.hid (Own.congr (own_drew HS.out.1) (fun j hj => ?_)), Lib.hid (kept_drew (HK.out.trans HS.out.2))⟩
                   by_cases hj0 : j = 0
                   · subst hj0
                     rw [if_pos rfl, if_pos (Nat.le_refl _), HEV.out]
                   · rw [if_neg hj0, if_pos (by omega), if_pos (by omega)])
            · obtain ⟨p, hp⟩ : ∃ p : Nat, i = (p : Int) + 1 := ⟨(i - 1).toNat, by omega⟩
              subst hp
              have hq0 : q = p + 2 := by omega
              subst hq0
              have ho := HO.out
              have hold := ho.cell (j := p + 1) (by omega)
              have holdb := ho.cell (j := p) (by omega)
              have hfr := ho.frozen (p + 1)
              rw [if_neg (by omega)] at hold holdb
              have HEQ := Lib.hid (coR_succ zr zi k p)
              have fO := HZ2.out (p + 1)
              have fP := HZ2.out p
              have cM := fun u => mulCS HZ1.out.1 HZ1.out.2 fO.1 fO.2 (by omega) u
              have fM := mul_fs HZ1.out.1 HZ1.out.2 fO.1 fO.2 (by omega)
              have cL := fun u => run_csub (P := Try.prog) (fP.1.mono (Nat.le_add_right _ _)) (fP.2.mono (Nat.le_add_right _ _)) fM.1 fM.2 (by omega) 23 u
              have HEV := Lib.hid (show cv (coR zr zi (k + 1) (p + 1)) = .complex .f32 (sB (oldC zr zi k p).1 (mulR (zr k) (zi k) (oldC zr zi k (p + 1)).1 (oldC zr zi k (p + 1)).2)) (sB (oldC zr zi k p).2 (mulI (zr k) (zi k) (oldC zr zi k (p + 1)).1 (oldC zr zi k (p + 1)).2)) by rw [HEQ.out]; rfl)
              clear fO fM fP
              have hold' : wr.cell? ⟨g, p + 1, none⟩ = some (.complex .f32 (oldC zr zi k (p + 1)).1 (oldC zr zi k (p + 1)).2) := hold
              have holdb' : wr.cell? ⟨g, p, none⟩ = some (.complex .f32 (oldC zr zi k p).1 (oldC zr zi k p).2) := holdb
              clear hold holdb
              generalize mulR (zr k) (zi k) (oldC zr zi k (p + 1)).1 (oldC zr zi k (p + 1)).2 = mr at *
              generalize mulI (zr k) (zi k) (oldC zr zi k (p + 1)).1 (oldC zr zi k (p + 1)).2 = mi at *
              generalize sB (oldC zr zi k p).1 mr = nr at *
              generalize sB (oldC zr zi k p).2 mi = ni at *
              generalize (oldC zr zi k (p + 1)).1 = c1 at *
              generalize (oldC zr zi k (p + 1)).2 = c2 at *
              generalize (oldC zr zi k p).1 = b1 at *
              generalize (oldC zr zi k p).2 = b2 at *
              have HS := Lib.hid (ho.store (p + 1) (.complex .f32 nr ni))
              clear ho
              have hb0 : (p : Int) + 1 < (k : Int) + 1 + 1 := by omega
              have hb1 : (0 : Int) ≤ (p : Int) + 1 := by omega
              go_wp2
              go_region_law (first | (go_simp; go_at_call 75; refine (cM _).mono ?_; rintro e w' ⟨rfl, rfl⟩))
              all_goals go_wp2
              all_goals go_roundw
              all_goals first
                | (simp [intOf]; omega)
                | (refine ⟨p + 1, (p : Int), by omega, by omega, by omega, by first | rfl | go_num, Lib.hid (Own.congr (own_drew HS.out.1) (fun j hj => ?_)), Lib.hid (kept_drew (HK.out.trans HS.out.2))⟩
                   by_cases hj0 : j = p + 1
                   · subst hj0
                     rw [if_pos rfl, if_pos (Nat.le_refl _), HEV.out]
                   · rw [if_neg hj0]
                     by_cases hj1 : p + 2 ≤ j
                     · rw [if_pos hj1, if_pos (by omega)]
                     · rw [if_neg hj1, if_neg (by omega)])
    · have : k = n := by omega
      subst this
      go_wp2
      go_ret
      exact ⟨_, rfl, HOW.out, HBW.out⟩
end Go.Proofs.Ytbmbgailhiepbaa
