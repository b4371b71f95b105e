/- NullWeights, both, by contracts. -/
import Derived.Test.YtbmbgailhiepbaaNulW
namespace Go.Proofs.Ytbmbgailhiepbaa
open Go.RowKit Ieee

def nwOk (s : Int) (u : Nat → Int) (n : Nat) : Bool := decide ((1 ≤ s ∧ s ≤ 4096) ∧ n ≤ 15 ∧ ∀ j, j < n → inU (u j) = true)
def nwLen (s : Int) (u : Nat → Int) (n : Nat) : Nat := if nwOk s u n then n + 1 else 0
def nzR (s : Int) (u : Nat → Int) (j : Nat) : Nat := phR (tuB s (u j))
def nzI (s : Int) (u : Nat → Int) (j : Nat) : Nat := phI (tuB s (u j))
def nwC (s : Int) (u : Nat → Int) (n j : Nat) : Nat × Nat := ((coR (nzR s u) (nzI s u) n j).1, Op.negFloat .f32 (coR (nzR s u) (nzI s u) n j).2)

theorem nw_yes {s : Int} {u : Nat → Int} {n : Nat} (h1 : 1 ≤ s) (h2 : s ≤ 4096) (h3 : n ≤ 15) (h4 : ∀ j, j < n → inU (u j) = true) : nwOk s u n = true ∧ nwLen s u n = n + 1 := by
  have h : nwOk s u n = true := decide_eq_true ⟨⟨h1, h2⟩, h3, h4⟩
  exact ⟨h, by unfold nwLen; rw [h]; rfl⟩
theorem nw_no {s : Int} {u : Nat → Int} {n : Nat} (h : ¬ ((1 ≤ s ∧ s ≤ 4096) ∧ n ≤ 15 ∧ ∀ j, j < n → inU (u j) = true)) : nwOk s u n = false ∧ nwLen s u n = 0 := by
  have h : nwOk s u n = false := decide_eq_false h
  exact ⟨h, by unfold nwLen; rw [h]; rfl⟩
theorem nwLen_le (s : Int) (u : Nat → Int) (n : Nat) : nwLen s u n ≤ 16 := by
  unfold nwLen
  split
  · rename_i h
    have := of_decide_eq_true h
    omega
  · omega
theorem nz_fs {s : Int} {u : Nat → Int} {n : Nat} (h1 : 1 ≤ s) (h2 : s ≤ 4096) (h4 : ∀ j, j < n → inU (u j) = true) : ∀ j, j < n → Fs (nzR s u j) 5 ∧ Fs (nzI s u j) 5 := fun j hj => by
  have hu := inU_yes (h4 j hj)
  have hb := turns_bd h1 h2 hu.1 hu.2
  have ht := (tuB_all hb.1 hb.2).2
  exact ⟨phR_fs ht, phI_fs ht⟩

theorem hasBad_no {u : Nat → Int} {n : Nat} (h : ∀ j, j < n → inU (u j) = true) : hasBad u n = false := by
  unfold hasBad; rw [firstBad_all n 0 (by omega) h]; rfl
theorem hasBad_yes {u : Nat → Int} {n : Nat} (h : ¬ ∀ j, j < n → inU (u j) = true) : hasBad u n = true := by
  have : ∃ j, j < n ∧ inU (u j) = false := by
    apply Classical.byContradiction
    intro hno
    apply h
    intro j hj
    cases hg : inU (u j) with
    | true => rfl
    | false => exact absurd ⟨j, hj, hg⟩ hno
  obtain ⟨j, hj, hg⟩ := this
  unfold hasBad
  exact decide_eq_true (firstBad_some n 0 (by omega) j (by omega) hj hg)

set_option maxRecDepth 100000 in
set_option maxHeartbeats 4000000 in
theorem nullI (s : Int) (ad : Option Addr) (n cap : Nat) (u : Nat → Int) (w : World) (hr : Rd w ad n (fun j => .int .i64 (u j))) (hn : n ≤ 1048576) :
    Calls Try.prog 20 #[.int .i64 s, .slice ad n cap] w fun e w' => ∃ v, e = .returned (.tuple #[v, .bool (nwOk s u n)]) ∧ Own w' w.heap.size w'.heap.size 23 v (nwLen s u n) (fun j => cv (nwC s u n j)) ∧ Below w.heap.size w w' := by
  by_cases hs : 1 ≤ s ∧ s ≤ 4096
  · obtain ⟨hs1, hs2⟩ := hs
    by_cases hn15 : n ≤ 15
    · have hni : ¬ (15 : Int) < n := by omega
      have hnd : decide ((15 : Int) < n) = false := decide_eq_false hni
      have cC := containsI ad n cap u w hr hn
      by_cases hall : ∀ j, j < n → inU (u j) = true
      · obtain ⟨z1, z2⟩ := nw_yes hs1 hs2 hn15 hall
        rw [z1, z2]
        rw [hasBad_no hall] at cC
        have CC := Lib.hid cC
        have HALL := Lib.hid hall
        have HFS := Lib.hid (nz_fs hs1 hs2 hall)
        have HR := Lib.hid hr
        clear cC hall hr z1 z2
        obtain ⟨i0, hi, hz0, hz1, hz2⟩ := info_parts info_cx
        go_enter Try.func20, Try.ntmps20
        go_wp2_with (first | (go_at_call 40; refine (withinI_yes _ _ _ (by omega) (by omega) _).mono ?_; rintro e w' ⟨rfl, rfl⟩) | (go_at_call 53; refine CC.out.mono ?_; rintro e w' ⟨rfl, rfl⟩))
        go_loopw [7, 9, 30] (fun out _ x wr => ∃ k : Nat, k ≤ n ∧ x = .int .i64 k ∧ Hid (Own wr w.heap.size wr.heap.size 23 out k (fun j => .complex .f32 (nzR s u j) (nzI s u j))) ∧ Hid (Below w.heap.size w wr)) (fun _ _ x _ => n - (intOf x).toNat)
        case atStart => exact ⟨0, Nat.zero_le _, rfl, Lib.hid (Own.empty _ _ _), Lib.hid (below_alloc _ _)⟩
        case round =>
          obtain ⟨k, hk, rfl, HOW, HBW⟩ := hrel
          by_cases hlt : k < n
          · obtain ⟨b, off, rfl, hb, hc⟩ := HR.out.at hlt
            have hck : wr.cell? ⟨b, off + k, none⟩ = some (.int .i64 (u k)) := (HBW.out.cell (p := ⟨b, off + k, none⟩) hb).trans (hc k hlt)
            clear hc
            have hu := inU_yes (HALL.out k hlt)
            have hbd := turns_bd hs1 hs2 hu.1 hu.2
            obtain ⟨t1, t2⟩ := tuB_all hbd.1 hbd.2
            have HER := Lib.hid (show nzR s u k = phR (fB .quo (floatOfInt .f64 (s * u k)) 4661225614328463360) from rfl)
            have HEI := Lib.hid (show nzI s u k = phI (fB .quo (floatOfInt .f64 (s * u k)) 4661225614328463360) from rfl)
            have r1 := run_fB (P := Try.prog) t1 63
            have cP := fun v => phasorI _ t2 v
            clear t1 t2
            generalize phR (fB .quo (floatOfInt .f64 (s * u k)) 4661225614328463360) = pr at *
            generalize phI (fB .quo (floatOfInt .f64 (s * u k)) 4661225614328463360) = pi at *
            generalize fB .quo (floatOfInt .f64 (s * u k)) 4661225614328463360 = t at *
            generalize u k = uk at *
            generalize hZ : s * uk = Z at *
            go_wp2_with (first | (go_at_call 54; refine (cP _).mono ?_; rintro e w' ⟨rfl, rfl⟩) | (at_builtin; refine wpList_push _ rfl _ _ 37 rfl 23 i0 (.complex .f32 0 0) 8 Try.underlying37 hi hz0 hz1 hz2 rfl (by omega) _ (.complex .f32 pr pi) k _ _ _ (fun j => .complex .f32 (nzR s u j) (nzI s u j)) rfl rfl (by exact HOW.out) (fun q hq => rfl) (by rw [HER.out, HEI.out]) rfl (by omega) (by exact HBW.out.size) ?_; intro v' w2 ho2 hb2; have HO2 := Lib.hid ho2; have HB2 := Lib.hid hb2; clear ho2 hb2))
            go_wp2
            go_roundw
            case rel => exact ⟨k + 1, by omega, by go_num, HO2, Lib.hid (HBW.out.trans HB2.out)⟩
            case measure => simp [intOf]; omega
          · have : k = n := by omega
            subst this
            obtain ⟨wo, hwo⟩ : ∃ x, x = wr := ⟨_, rfl⟩
            subst hwo
            obtain ⟨adz, capz, rfl, hrz⟩ := HOW.out.rd
            have HRZ := Lib.hid hrz
            clear hrz
            go_wp2_with (go_at_call 55; refine (polyI adz k capz (nzR s u) (nzI s u) _ (by exact HRZ.out) HFS.out hn15).mono ?_; rintro e w2 ⟨v2, rfl, ho2, hb2⟩; have HO2 := Lib.hid ho2; have HB2 := Lib.hid hb2; obtain ⟨ad2, cap2, rfl, _⟩ := ho2.rd; clear ho2 hb2)
            rcases HO2.out.lt with ⟨_, h0⟩ | ⟨g, c, he, hg1, hg2, hg3⟩
            · omega
            · simp only [Value.slice.injEq] at he
              obtain ⟨rfl, -, rfl⟩ := he
              go_loopw [12, 13, 51] (fun _ _ x wq => ∃ q : Nat, q ≤ k + 1 ∧ x = .int .i64 q ∧ Hid (Own wq wo.heap.size w2.heap.size 23 (.slice (some ⟨g, 0, none⟩) (k + 1) cap2) (k + 1) (fun j => if j < q then cv (nwC s u k j) else cv (coR (nzR s u) (nzI s u) k j))) ∧ Hid (Kept w2 wq wo.heap.size w2.heap.size)) (fun _ _ x _ => k + 1 - (intOf x).toNat)
              case atStart => exact ⟨0, Nat.zero_le _, rfl, Lib.hid (by simpa using HO2.out), Lib.hid (Kept.refl _ _ _)⟩
              case round =>
                obtain ⟨q, hq, rfl, HO, HK⟩ := hrel
                by_cases hlq : q < k + 1
                · have ho := HO.out
                  have hold := ho.cell hlq
                  have hfr := ho.frozen q
                  rw [if_neg (by omega)] at hold
                  have hold' : wr.cell? ⟨g, q, none⟩ = some (.complex .f32 (coR (nzR s u) (nzI s u) k q).1 (coR (nzR s u) (nzI s u) k q).2) := hold
                  have HEV := Lib.hid (show cv (nwC s u k q) = .complex .f32 (coR (nzR s u) (nzI s u) k q).1 (Op.negFloat .f32 (coR (nzR s u) (nzI s u) k q).2) from rfl)
                  clear hold
                  generalize (coR (nzR s u) (nzI s u) k q).1 = c1 at *
                  generalize (coR (nzR s u) (nzI s u) k q).2 = c2 at *
                  have cJ := fun v => conjI c1 c2 v
                  generalize Op.negFloat .f32 c2 = c3 at *
                  have HS := Lib.hid (ho.store q (.complex .f32 c1 c3))
                  clear ho
                  go_wp2_with (go_at_call 56; refine (cJ _).mono ?_; rintro e w' ⟨rfl, rfl⟩)
                  go_roundw
                  case rel =>
                    refine ⟨q + 1, by omega, by go_num, Lib.hid (HS.out.1.congr (fun j hj => ?_)), Lib.hid (HK.out.trans HS.out.2)⟩
                    by_cases hjq : j = q
                    · subst hjq
                      rw [if_pos rfl, if_pos (by omega), HEV.out]
                    · rw [if_neg hjq]
                      by_cases hjl : j < q
                      · rw [if_pos hjl, if_pos (by omega)]
                      · rw [if_neg hjl, if_neg (by omega)]
                  case measure => simp [intOf]; omega
                · have : q = k + 1 := by omega
                  subst this
                  go_wp2
                  go_ret2
                  exact ⟨_, rfl, ((HO.out.wider HBW.out.size HK.out.size).congr (fun j hj => by rw [if_pos hj])), (HBW.out.trans (HB2.out.mono HBW.out.size)).trans (HK.out.below HBW.out.size (Nat.le_trans HBW.out.size HB2.out.size))⟩
      · obtain ⟨z1, z2⟩ := nw_no (s := s) (u := u) (n := n) (fun h => hall h.2.2)
        rw [z1, z2]
        rw [hasBad_yes hall] at cC
        have CC := Lib.hid cC
        clear cC hall hr z1 z2
        go_enter Try.func20, Try.ntmps20
        go_wp2_with (first | (go_at_call 40; refine (withinI_yes _ _ _ (by omega) (by omega) _).mono ?_; rintro e w' ⟨rfl, rfl⟩) | (go_at_call 53; refine CC.out.mono ?_; rintro e w' ⟨rfl, rfl⟩))
        go_ret2
        exact ⟨_, rfl, Own.nil _ _ _ _ _, Below.refl _ _⟩
    · obtain ⟨z1, z2⟩ := nw_no (s := s) (u := u) (n := n) (fun h => hn15 h.2.1)
      rw [z1, z2]
      have hni : (15 : Int) < n := by omega
      have hnd : decide ((15 : Int) < n) = true := decide_eq_true hni
      clear z1 z2 hr
      go_enter Try.func20, Try.ntmps20
      go_wp2_with (first | (go_at_call 40; refine (withinI_yes _ _ _ (by omega) (by omega) _).mono ?_; rintro e w' ⟨rfl, rfl⟩))
      go_ret2
      exact ⟨_, rfl, Own.nil _ _ _ _ _, Below.refl _ _⟩
  · obtain ⟨z1, z2⟩ := nw_no (s := s) (u := u) (n := n) (fun h => hs h.1)
    rw [z1, z2]
    clear z1 z2 hr
    go_enter Try.func20, Try.ntmps20
    go_wp2_with (first | (go_at_call 40; refine (withinI_no _ _ _ (by omega) _).mono ?_; rintro e w' ⟨rfl, rfl⟩))
    go_ret2
    exact ⟨_, rfl, Own.nil _ _ _ _ _, Below.refl _ _⟩
set_option maxRecDepth 100000 in
set_option maxHeartbeats 4000000 in
theorem nullS (s : Int) (ad : Option Addr) (n cap : Nat) (u : Nat → Int) (w : World) (hr : Rd w ad n (fun j => .int .i64 (u j))) (hn : n ≤ 1048576) :
    Calls Try.prog 18 #[.int .i64 s, .slice ad n cap] w fun e w' => ∃ v, e = .returned (.tuple #[v, .bool (nwOk s u n)]) ∧ Own w' w.heap.size w'.heap.size 23 v (nwLen s u n) (fun j => cv (nwC s u n j)) ∧ Below w.heap.size w w' := by
  by_cases hs : 1 ≤ s ∧ s ≤ 4096
  · obtain ⟨hs1, hs2⟩ := hs
    by_cases hn15 : n ≤ 15
    · have hni : ¬ (15 : Int) < n := by omega
      have hnd : decide ((15 : Int) < n) = false := decide_eq_false hni
      have HR := Lib.hid hr
      have HY := Lib.hid (fun h => nw_yes (u := u) hs1 hs2 hn15 h)
      have HN := Lib.hid (nw_no (s := s) (u := u) (n := n))
      have HFS := Lib.hid (fun h => nz_fs (u := u) (n := n) hs1 hs2 h)
      clear hr
      obtain ⟨i0, hi, hz0, hz1, hz2⟩ := info_parts info_cx
      go_enter Try.func18, Try.ntmps18
      go_wp2_with (first | (go_at_call 36; refine (inS_yes _ _ _ (by omega) (by omega) _).mono ?_; rintro e w' ⟨rfl, rfl⟩))
      go_loopw [6, 7] (fun out x wr => ∃ k : Nat, k ≤ n ∧ x = .int .i64 k ∧ Hid (∀ j, j < k → inU (u j) = true) ∧ Hid (Own wr w.heap.size wr.heap.size 23 out k (fun j => .complex .f32 (nzR s u j) (nzI s u j))) ∧ Hid (Below w.heap.size w wr)) (fun _ x _ => n - (intOf x).toNat)
      case atStart => exact ⟨0, Nat.zero_le _, rfl, Lib.hid (fun j hj => by omega), Lib.hid (Own.empty _ _ _), Lib.hid (below_alloc _ _)⟩
      case round =>
        obtain ⟨k, hk, rfl, HALL, HOW, HBW⟩ := hrel
        by_cases hlt : k < n
        · obtain ⟨b, off, rfl, hb, hc⟩ := HR.out.at hlt
          have hck : wr.cell? ⟨b, off + k, none⟩ = some (.int .i64 (u k)) := (HBW.out.cell (p := ⟨b, off + k, none⟩) hb).trans (hc k hlt)
          clear hc
          cases hg : inU (u k) with
          | false =>
            have HF := Lib.hid (HN.out (fun h => by have := h.2.2 k hlt; rw [hg] at this; cases this))
            have hu := inU_no hg
            clear hg
            generalize u k = uk at *
            go_wp2_with (first | (go_at_call 36; refine (inS_no _ _ _ (by omega) _).mono ?_; rintro e w' ⟨rfl, rfl⟩))
            go_ret2
            exact ⟨_, by rw [HF.out.1]; rfl, by rw [HF.out.2]; exact Own.nil _ _ _ _ _, HBW.out⟩
          | true =>
            have hu := inU_yes hg
            have HA2 := Lib.hid (show ∀ j, j < k + 1 → inU (u j) = true from fun j hj => by
              by_cases hjk : j = k
              · rw [hjk]; exact hg
              · exact HALL.out j (by omega))
            clear hg
            have hbd := turns_bd hs1 hs2 hu.1 hu.2
            obtain ⟨t1, t2⟩ := tuB_all hbd.1 hbd.2
            have HER := Lib.hid (show nzR s u k = phR (fB .quo (floatOfInt .f64 (s * u k)) 4661225614328463360) from rfl)
            have HEI := Lib.hid (show nzI s u k = phI (fB .quo (floatOfInt .f64 (s * u k)) 4661225614328463360) from rfl)
            have r1 := run_fB (P := Try.prog) t1 63
            have cP := fun v => phasorS _ t2 v
            clear t1 t2
            generalize phR (fB .quo (floatOfInt .f64 (s * u k)) 4661225614328463360) = pr at *
            generalize phI (fB .quo (floatOfInt .f64 (s * u k)) 4661225614328463360) = pi at *
            generalize fB .quo (floatOfInt .f64 (s * u k)) 4661225614328463360 = t at *
            generalize u k = uk at *
            generalize hZ : s * uk = Z at *
            go_wp2_with (first | (go_at_call 36; refine (inS_yes _ _ _ (by omega) (by omega) _).mono ?_; rintro e w' ⟨rfl, rfl⟩) | (go_at_call 47; refine (cP _).mono ?_; rintro e w' ⟨rfl, rfl⟩) | (at_builtin; refine wpList_push _ rfl _ _ 37 rfl 23 i0 (.complex .f32 0 0) 8 Try.underlying37 hi hz0 hz1 hz2 rfl (by omega) _ (.complex .f32 pr pi) k _ _ _ (fun j => .complex .f32 (nzR s u j) (nzI s u j)) rfl rfl (by exact HOW.out) (fun q hq => rfl) (by rw [HER.out, HEI.out]) rfl (by omega) (by exact HBW.out.size) ?_; intro v' w2 ho2 hb2; have HO2 := Lib.hid ho2; have HB2 := Lib.hid hb2; clear ho2 hb2))
            go_wp2
            go_roundw
            case rel => exact ⟨k + 1, by omega, by go_num, HA2, HO2, Lib.hid (HBW.out.trans HB2.out)⟩
            case measure => simp [intOf]; omega
        · have : k = n := by omega
          subst this
          obtain ⟨z1, z2⟩ := HY.out HALL.out
          have HZ1 := Lib.hid z1
          have HZ2 := Lib.hid z2
          have HFS2 := Lib.hid (HFS.out HALL.out)
          clear z1 z2
          obtain ⟨wo, hwo⟩ : ∃ x, x = wr := ⟨_, rfl⟩
          subst hwo
          obtain ⟨adz, capz, rfl, hrz⟩ := HOW.out.rd
          have HRZ := Lib.hid hrz
          clear hrz
          go_wp2_with (go_at_call 50; refine (polyS adz k capz (nzR s u) (nzI s u) _ (by exact HRZ.out) HFS2.out hn15).mono ?_; rintro e w2 ⟨v2, rfl, ho2, hb2⟩; have HP2 := Lib.hid ho2; have HQ2 := Lib.hid hb2; obtain ⟨ad2, cap2, rfl, hr2⟩ := ho2.rd; have HR2 := Lib.hid hr2; clear ho2 hb2 hr2)
          go_loopw [9, 10] (fun out x wq => ∃ q : Nat, q ≤ k + 1 ∧ x = .int .i64 q ∧ Hid (Own wq w2.heap.size wq.heap.size 23 out q (fun j => cv (nwC s u k j))) ∧ Hid (Below w2.heap.size w2 wq)) (fun _ x _ => k + 1 - (intOf x).toNat)
          case atStart => exact ⟨0, Nat.zero_le _, rfl, Lib.hid (Own.empty _ _ _), Lib.hid (below_alloc _ _)⟩
          case round =>
            obtain ⟨q, hq, rfl, HO, HB⟩ := hrel
            by_cases hlq : q < k + 1
            · obtain ⟨b, off, rfl, hb, hc⟩ := HR2.out.at hlq
              have hold : wr.cell? ⟨b, off + q, none⟩ = some (.complex .f32 (coR (nzR s u) (nzI s u) k q).1 (coR (nzR s u) (nzI s u) k q).2) := (HB.out.cell (p := ⟨b, off + q, none⟩) hb).trans (hc q hlq)
              clear hc
              have HEV := Lib.hid (show cv (nwC s u k q) = .complex .f32 (coR (nzR s u) (nzI s u) k q).1 (Op.negFloat .f32 (coR (nzR s u) (nzI s u) k q).2) from rfl)
              generalize (coR (nzR s u) (nzI s u) k q).1 = c1 at *
              generalize (coR (nzR s u) (nzI s u) k q).2 = c2 at *
              have cJ := fun v => conjS c1 c2 v
              generalize Op.negFloat .f32 c2 = c3 at *
              go_wp2_with (first | (go_at_call 51; refine (cJ _).mono ?_; rintro e w' ⟨rfl, rfl⟩) | (at_builtin; refine wpList_push _ rfl _ _ 37 rfl 23 i0 (.complex .f32 0 0) 8 Try.underlying37 hi hz0 hz1 hz2 rfl (by omega) _ (.complex .f32 c1 c3) q _ _ _ (fun j => cv (nwC s u k j)) rfl rfl (by exact HO.out) (fun q hq => rfl) (by rw [HEV.out]) rfl (by omega) (by exact HB.out.size) ?_; intro v' w2 ho2 hb2; have HO2 := Lib.hid ho2; have HB2 := Lib.hid hb2; clear ho2 hb2))
              go_wp2
              go_roundw
              case rel => exact ⟨q + 1, by omega, by go_num, HO2, Lib.hid (HB.out.trans HB2.out)⟩
              case measure => simp [intOf]; omega
            · have : q = k + 1 := by omega
              subst this
              go_wp2
              go_ret2
              exact ⟨_, by rw [HZ1.out]; rfl, by rw [HZ2.out]; exact HO.out.wider (Nat.le_trans HBW.out.size HQ2.out.size) (Nat.le_refl _), (HBW.out.trans (HQ2.out.mono HBW.out.size)).trans (HB.out.mono (Nat.le_trans HBW.out.size HQ2.out.size))⟩
    · obtain ⟨z1, z2⟩ := nw_no (s := s) (u := u) (n := n) (fun h => hn15 h.2.1)
      rw [z1, z2]
      have hni : (15 : Int) < n := by omega
      have hnd : decide ((15 : Int) < n) = true := decide_eq_true hni
      clear z1 z2 hr
      go_enter Try.func18, Try.ntmps18
      go_wp2_with (first | (go_at_call 36; refine (inS_yes _ _ _ (by omega) (by omega) _).mono ?_; rintro e w' ⟨rfl, rfl⟩))
      go_ret2
      exact ⟨_, rfl, Own.nil _ _ _ _ _, Below.refl _ _⟩
  · obtain ⟨z1, z2⟩ := nw_no (s := s) (u := u) (n := n) (fun h => hs h.1)
    rw [z1, z2]
    clear z1 z2 hr
    go_enter Try.func18, Try.ntmps18
    go_wp2_with (first | (go_at_call 36; refine (inS_no _ _ _ (by omega) _).mono ?_; rintro e w' ⟨rfl, rfl⟩))
    go_ret2
    exact ⟨_, rfl, Own.nil _ _ _ _ _, Below.refl _ _⟩
end Go.Proofs.Ytbmbgailhiepbaa
