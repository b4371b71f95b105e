/- Both walks of LevelsOf. -/
import Derived.Test.YtjihbkhmkepohaaLogT
import Derived.Test.YtjihbkhmkepohaaPeakW
import Derived.Test.YtjihbkhmkepohaaInfoI
import Derived.Test.YtjihbkhmkepohaaPush
import Derived.Deep.RegionWith
namespace Go.Proofs.Ytjihbkhmkepohaa
open Go.RowKit Ieee

theorem maxS (a b : Int) (w : World) :
    Calls Try.prog 48 #[.int .i64 a, .int .i64 b] w fun e w' => e = .returned (.int .i64 (max a b)) ∧ w = w' := by
  rcases Int.lt_trichotomy a b with h | h | h
  · have h2 : ¬ b < a := by omega
    rw [show max a b = b by omega]
    go_enter Try.func48, Try.ntmps48
    go_wp2
    all_goals go_ret
    all_goals exact ⟨rfl, rfl⟩
  · subst h
    have h2 : ¬ a < a := by omega
    rw [show max a a = a by omega]
    go_enter Try.func48, Try.ntmps48
    go_wp2
    all_goals go_ret
    all_goals exact ⟨rfl, rfl⟩
  · have h2 : ¬ a < b := by omega
    rw [show max a b = a by omega]
    go_enter Try.func48, Try.ntmps48
    go_wp2
    all_goals go_ret
    all_goals exact ⟨rfl, rfl⟩
def topF (f : Nat → Nat) (n : Nat) : Nat := f (peakN f n).toNat
def lvOk (f : Nat → Nat) (n : Nat) : Bool := peakB f n && posB (topF f n)
def lvLen (f : Nat → Nat) (n : Nat) : Nat := if lvOk f n then n else 0
def lvAt (f : Nat → Nat) (n j : Nat) : Int := level (topF f n) (f j)

theorem peak_at {f : Nat → Nat} {n : Nat} (h : peakB f n = true) : ∃ p : Nat, p < n ∧ n ≤ 129 ∧ peakN f n = p ∧ peakTo f n = p ∧ topF f n = f p := by
  unfold peakB at h
  have h' := of_decide_eq_true h
  have hb := peakTo_bd f n
  refine ⟨(peakTo f n).toNat, by omega, by omega, ?_, by omega, ?_⟩
  · unfold peakN; rw [if_pos h']; omega
  · unfold topF peakN; rw [if_pos h']
theorem lv_no1 {f : Nat → Nat} {n : Nat} (h : peakB f n = false) : lvOk f n = false ∧ lvLen f n = 0 := by
  have : lvOk f n = false := by unfold lvOk; rw [h]; rfl
  exact ⟨this, by unfold lvLen; rw [this]; rfl⟩
theorem lv_no2 {f : Nat → Nat} {n p : Nat} (ht : topF f n = f p) (h : posB (f p) = false) : lvOk f n = false ∧ lvLen f n = 0 := by
  have : lvOk f n = false := by unfold lvOk; rw [ht, h]; simp
  exact ⟨this, by unfold lvLen; rw [this]; rfl⟩
theorem lv_yes {f : Nat → Nat} {n p : Nat} (h1 : peakB f n = true) (ht : topF f n = f p) (h : posB (f p) = true) : lvOk f n = true ∧ lvLen f n = n := by
  have : lvOk f n = true := by unfold lvOk; rw [h1, ht, h]; rfl
  exact ⟨this, by unfold lvLen; rw [this]; rfl⟩
theorem lvAt_pos {f : Nat → Nat} {n p j : Nat} (ht : topF f n = f p) (h : posB (f j) = true) : lvAt f n j = max (-2000) (lev (f j) - lev (f p)) := by
  unfold lvAt level; rw [ht, h]; rfl
theorem lvAt_neg {f : Nat → Nat} {n j : Nat} (h : posB (f j) = false) : lvAt f n j = -2000 := by
  unfold lvAt level; rw [h]; rfl

theorem peakB_count {f : Nat → Nat} {n : Nat} (h : ¬ ((1 ≤ n ∧ n ≤ 129) ∧ 0 ≤ peakTo f n)) : peakB f n = false := by unfold peakB; exact decide_eq_false h

set_option maxRecDepth 100000 in
set_option maxHeartbeats 4000000 in
theorem levelsI (ad : Option Addr) (n cap : Nat) (f : Nat → Nat) (w : World) (hr : Rd w ad n (fun j => .float .f32 (f j))) (hn : n ≤ 1048576) :
    Calls Try.prog 33 #[.slice ad n cap] w fun e w' => ∃ v, e = .returned (.tuple #[v, .bool (lvOk f n)]) ∧ Own w' w.heap.size w'.heap.size 2 v (lvLen f n) (fun j => .int .i64 (lvAt f n j)) ∧ Below w.heap.size w w' := by
  have cP := fun u hu => implPeakOf_any ad n cap f u hu hn
  have HR := Lib.hid hr
  clear hr
  cases hpk : peakB f n with
  | false =>
    obtain ⟨z1, z2⟩ := lv_no1 hpk
    rw [hpk] at cP
    rw [z1, z2]
    have cQ := cP w HR.out
    clear z1 z2 hpk cP
    generalize peakN f n = P at *
    have CQ := Lib.hid cQ
    clear cQ
    go_enter Try.func33, Try.ntmps33
    go_wp2_with (go_at_call 17; refine CQ.out.mono ?_; rintro e w' ⟨rfl, m, rfl⟩)
    go_ret2
    exact ⟨_, rfl, Own.nil _ _ _ _ _, below_drewN (Below.refl _ _) _⟩
  | true =>
    obtain ⟨p, hp, hn129, hpn, -, htop⟩ := peak_at hpk
    rw [hpk, hpn] at cP
    have cQ := cP w HR.out
    have CQ := Lib.hid cQ
    clear cQ cP
    obtain ⟨b, off, rfl, hb, hc⟩ := HR.out.at hp
    have HC := Lib.hid hc
    have hcp := hc p hp
    clear hc
    cases hpos : posB (f p) with
    | false =>
      obtain ⟨z1, z2⟩ := lv_no2 htop hpos
      rw [z1, z2]
      have cT := fun u => tenthsI_no (f p) hpos u
      clear z1 z2 hpk htop hpos hpn
      generalize f p = tp at *
      go_enter Try.func33, Try.ntmps33
      go_wp2_with (first | (go_at_call 17; refine CQ.out.mono ?_; rintro e w' ⟨rfl, m, rfl⟩) | (go_at_call 49; refine (cT _).mono ?_; rintro e w' ⟨rfl, m2, rfl⟩))
      go_ret2
      exact ⟨_, rfl, Own.nil _ _ _ _ _, below_drewN (Below.refl _ _) _⟩
    | true =>
      obtain ⟨z1, z2⟩ := lv_yes hpk htop hpos
      rw [z1, z2]
      have cT := fun u => tenthsI_yes (f p) hpos u
      have hT := lev_bd hpos
      have HA := Lib.hid (fun j (h : posB (f j) = true) => lvAt_pos (j := j) htop h)
      have HB := Lib.hid (fun j (h : posB (f j) = false) => lvAt_neg (n := n) (j := j) h)
      clear z1 z2 hpk htop hpos hpn
      generalize lev (f p) = T at *
      obtain ⟨i0, hi, hz0, hz1, hz2⟩ := info_parts info_i64
      go_enter Try.func33, Try.ntmps33
      go_wp2_with (first | (go_at_call 17; refine CQ.out.mono ?_; rintro e w' ⟨rfl, m, rfl⟩) | (go_at_call 49; refine (cT _).mono ?_; rintro e w' ⟨rfl, m2, rfl⟩))
      go_loopw [7, 9, 10, 11, 12, 33] (fun out _ _ _ _ i wr => ∃ k : Nat, k ≤ n ∧ i = .int .i64 k ∧ Hid (Own wr w.heap.size wr.heap.size 2 out k (fun j => .int .i64 (lvAt f n j))) ∧ Hid (Below w.heap.size w wr)) (fun _ _ _ _ _ i _ => n - (intOf i).toNat)
      case atStart => exact ⟨0, Nat.zero_le _, rfl, Lib.hid (Own.empty _ _ _), Lib.hid (@below_undrew w.heap.size w _ (m + m2) (below_alloc (w.drewN (m + m2)) _))⟩
      case round =>
        obtain ⟨k, hk, rfl, HOW, HBW⟩ := hrel
        by_cases hlt : k < n
        · have hck : wr.cell? ⟨b, off + k, none⟩ = some (.float .f32 (f k)) := (HBW.out.cell (p := ⟨b, off + k, none⟩) hb).trans (HC.out k hlt)
          cases hpk : posB (f k) with
          | true =>
            have cU := fun u => tenthsI_yes (f k) hpk u
            have hV := lev_bd hpk
            have hel := HA.out k hpk
            have HEL := Lib.hid hel
            clear hel hpk
            generalize lev (f k) = V at *
            by_cases hmx : -2000 < V - T
            · have hmm : max (-2000) (V - T) = V - T := by omega
              rw [hmm] at HEL
              clear hmm
              go_wp2_with (first | (go_at_call 49; refine (cU _).mono ?_; rintro e w' ⟨rfl, m3, rfl⟩) | (at_builtin; refine wpList_push _ rfl _ _ 37 rfl 2 i0 (.int .i64 0) 8 Try.underlying37 hi hz0 hz1 hz2 rfl (by omega) _ (.int .i64 (V - T)) k _ _ _ (fun q => .int .i64 (lvAt f n q)) rfl rfl (by exact HOW.out.drewN _) (fun q hq => rfl) (by rw [HEL.out]) rfl (by omega) (by exact HBW.out.size) ?_; intro v' w2 ho2 hb2; have HO2 := Lib.hid ho2; have HB2 := Lib.hid hb2; clear ho2 hb2))
              go_wp2
              go_roundw
              case rel => exact ⟨k + 1, by omega, by go_num, HO2, Lib.hid ((below_drewN HBW.out _).trans HB2.out)⟩
              case measure => simp [intOf]; omega
            · have hmm : max (-2000) (V - T) = -2000 := by omega
              rw [hmm] at HEL
              clear hmm
              go_wp2_with (first | (go_at_call 49; refine (cU _).mono ?_; rintro e w' ⟨rfl, m3, rfl⟩) | (at_builtin; refine wpList_push _ rfl _ _ 37 rfl 2 i0 (.int .i64 0) 8 Try.underlying37 hi hz0 hz1 hz2 rfl (by omega) _ (.int .i64 (-2000)) k _ _ _ (fun q => .int .i64 (lvAt f n q)) rfl rfl (by exact HOW.out.drewN _) (fun q hq => rfl) (by rw [HEL.out]) rfl (by omega) (by exact HBW.out.size) ?_; intro v' w2 ho2 hb2; have HO2 := Lib.hid ho2; have HB2 := Lib.hid hb2; clear ho2 hb2))
              go_wp2
              go_roundw
              case rel => exact ⟨k + 1, by omega, by go_num, HO2, Lib.hid ((below_drewN HBW.out _).trans HB2.out)⟩
              case measure => simp [intOf]; omega
          | false =>
            have cU := fun u => tenthsI_no (f k) hpk u
            have HEL := Lib.hid (HB.out k hpk)
            clear hpk
            go_wp2_with (first | (go_at_call 49; refine (cU _).mono ?_; rintro e w' ⟨rfl, m3, rfl⟩) | (at_builtin; refine wpList_push _ rfl _ _ 37 rfl 2 i0 (.int .i64 0) 8 Try.underlying37 hi hz0 hz1 hz2 rfl (by omega) _ (.int .i64 (-2000)) k _ _ _ (fun q => .int .i64 (lvAt f n q)) rfl rfl (by exact HOW.out.drewN _) (fun q hq => rfl) (by rw [HEL.out]) rfl (by omega) (by exact HBW.out.size) ?_; intro v' w2 ho2 hb2; have HO2 := Lib.hid ho2; have HB2 := Lib.hid hb2; clear ho2 hb2))
            go_wp2
            go_roundw
            case rel => exact ⟨k + 1, by omega, by go_num, HO2, Lib.hid ((below_drewN HBW.out _).trans HB2.out)⟩
            case measure => simp [intOf]; omega
        · have : k = n := by omega
          subst this
          go_wp2
          go_ret2
          exact ⟨_, rfl, HOW.out, HBW.out⟩
set_option maxRecDepth 100000 in
set_option maxHeartbeats 4000000 in
theorem levelsS (ad : Option Addr) (n cap : Nat) (f : Nat → Nat) (w : World) (hr : Rd w ad n (fun j => .float .f32 (f j))) (hn : n ≤ 1048576) :
    Calls Try.prog 32 #[.slice ad n cap] w fun e w' => ∃ v, e = .returned (.tuple #[v, .bool (lvOk f n)]) ∧ Own w' w.heap.size w'.heap.size 2 v (lvLen f n) (fun j => .int .i64 (lvAt f n j)) ∧ Below w.heap.size w w' := by
  have cP := fun u hu => l03Peak_any ad n cap f u hu hn
  have HR := Lib.hid hr
  clear hr
  cases hpk : peakB f n with
  | false =>
    obtain ⟨z1, z2⟩ := lv_no1 hpk
    rw [z1, z2]
    have cQ := cP w HR.out
    have hbd := peakTo_bd f n
    have hno : ¬ ((1 ≤ n ∧ n ≤ 129) ∧ 0 ≤ peakTo f n) := by unfold peakB at hpk; exact of_decide_eq_false hpk
    clear z1 z2 hpk cP
    generalize peakTo f n = P at *
    have CQ := Lib.hid cQ
    clear cQ
    by_cases h1 : (1 : Int) ≤ n
    · by_cases h2 : (n : Int) ≤ 129
      · have h3 : P < 0 := by omega
        clear hno hbd
        go_enter Try.func32, Try.ntmps32
        go_wp2_with (first | (go_at_call 36; refine CQ.out.mono ?_; rintro e w' ⟨rfl, m, rfl⟩) | go_in)
        go_ret2
        exact ⟨_, rfl, Own.nil _ _ _ _ _, below_drewN (Below.refl _ _) _⟩
      · clear hno hbd
        go_enter Try.func32, Try.ntmps32
        go_wp2_with (first | (go_at_call 36; refine CQ.out.mono ?_; rintro e w' ⟨rfl, m, rfl⟩) | go_in)
        go_ret2
        exact ⟨_, rfl, Own.nil _ _ _ _ _, Below.refl _ _⟩
    · clear hno hbd
      go_enter Try.func32, Try.ntmps32
      go_wp2_with (first | (go_at_call 36; refine CQ.out.mono ?_; rintro e w' ⟨rfl, m, rfl⟩) | go_in)
      go_ret2
      exact ⟨_, rfl, Own.nil _ _ _ _ _, Below.refl _ _⟩
  | true =>
    obtain ⟨p, hp, hn129, -, hpn, htop⟩ := peak_at hpk
    rw [hpn] at cP
    have cQ := cP w HR.out
    have CQ := Lib.hid cQ
    clear cQ cP
    have h1 : (1 : Int) ≤ n := by omega
    have h2 : (n : Int) ≤ 129 := by omega
    obtain ⟨b, off, rfl, hb, hc⟩ := HR.out.at hp
    have HC := Lib.hid hc
    have hcp := hc p hp
    clear hc
    cases hpos : posB (f p) with
    | false =>
      obtain ⟨z1, z2⟩ := lv_no2 htop hpos
      rw [z1, z2]
      have cT := fun u => positiveS (f p) u
      rw [hpos] at cT
      clear z1 z2 hpk htop hpos hpn
      generalize f p = tp at *
      go_enter Try.func32, Try.ntmps32
      go_wp2_with (first | (go_at_call 36; refine CQ.out.mono ?_; rintro e w' ⟨rfl, m, rfl⟩) | (go_at_call 46; refine (cT _).mono ?_; rintro e w' ⟨rfl, m2, rfl⟩) | go_in)
      go_ret2
      exact ⟨_, rfl, Own.nil _ _ _ _ _, below_drewN (Below.refl _ _) _⟩
    | true =>
      obtain ⟨z1, z2⟩ := lv_yes hpk htop hpos
      rw [z1, z2]
      have cT := fun u => positiveS (f p) u
      rw [hpos] at cT
      have cTT := fun u => tenthsS (f p) hpos u
      have hT := lev_bd hpos
      have HA := Lib.hid (fun j (h : posB (f j) = true) => lvAt_pos (j := j) htop h)
      have HB := Lib.hid (fun j (h : posB (f j) = false) => lvAt_neg (n := n) (j := j) h)
      clear z1 z2 hpk htop hpos hpn
      generalize lev (f p) = T at *
      obtain ⟨i0, hi, hz0, hz1, hz2⟩ := info_parts info_i64
      go_enter Try.func32, Try.ntmps32
      go_wp2_with (first | (go_at_call 36; refine CQ.out.mono ?_; rintro e w' ⟨rfl, m, rfl⟩) | (go_at_call 46; refine (cT _).mono ?_; rintro e w' ⟨rfl, m2, rfl⟩) | (go_at_call 47; refine (cTT _).mono ?_; rintro e w' ⟨rfl, rfl⟩) | go_in)
      go_loopw [6, 7, 8, 32] (fun out _ _ i wr => ∃ k : Nat, k ≤ n ∧ i = .int .i64 k ∧ Hid (Own wr w.heap.size wr.heap.size 2 out k (fun j => .int .i64 (lvAt f n j))) ∧ Hid (Below w.heap.size w wr)) (fun _ _ _ i _ => n - (intOf i).toNat)
      case atStart => exact ⟨0, Nat.zero_le _, rfl, Lib.hid (Own.empty _ _ _), Lib.hid (@below_undrew w.heap.size w _ (m + m2) (below_alloc (w.drewN (m + m2)) _))⟩
      case round =>
        obtain ⟨k, hk, rfl, HOW, HBW⟩ := hrel
        by_cases hlt : k < n
        · have hck : wr.cell? ⟨b, off + k, none⟩ = some (.float .f32 (f k)) := (HBW.out.cell (p := ⟨b, off + k, none⟩) hb).trans (HC.out k hlt)
          cases hpk : posB (f k) with
          | true =>
            have cU := fun u => positiveS (f k) u
            rw [hpk] at cU
            have cV := fun u => tenthsS (f k) hpk u
            have hV := lev_bd hpk
            have hel := HA.out k hpk
            have HEL := Lib.hid hel
            clear hel hpk
            generalize lev (f k) = V at *
            have cM := fun u => maxS (-2000) (V - T) u
            generalize hMM : max (-2000) (V - T) = MM at *
            clear hMM
            go_wp2_with (first | (go_at_call 46; refine (cU _).mono ?_; rintro e w' ⟨rfl, m3, rfl⟩) | (go_at_call 47; refine (cV _).mono ?_; rintro e w' ⟨rfl, rfl⟩) | (go_at_call 48; refine (cM _).mono ?_; rintro e w' ⟨rfl, rfl⟩) | (at_builtin; refine wpList_push _ rfl _ _ 37 rfl 2 i0 (.int .i64 0) 8 Try.underlying37 hi hz0 hz1 hz2 rfl (by omega) _ (.int .i64 (MM)) k _ _ _ (fun q => .int .i64 (lvAt f n q)) rfl rfl (by exact HOW.out.drewN _) (fun q hq => rfl) (by rw [HEL.out]) rfl (by omega) (by exact HBW.out.size) ?_; intro v' w2 ho2 hb2; have HO2 := Lib.hid ho2; have HB2 := Lib.hid hb2; clear ho2 hb2))
            go_wp2
            go_roundw
            case rel => exact ⟨k + 1, by omega, by go_num, HO2, Lib.hid ((below_drewN HBW.out _).trans HB2.out)⟩
            case measure => simp [intOf]; omega
          | false =>
            have cU := fun u => positiveS (f k) u
            rw [hpk] at cU
            have HEL := Lib.hid (HB.out k hpk)
            clear hpk
            go_wp2_with (first | (go_at_call 46; refine (cU _).mono ?_; rintro e w' ⟨rfl, m3, rfl⟩) | (at_builtin; refine wpList_push _ rfl _ _ 37 rfl 2 i0 (.int .i64 0) 8 Try.underlying37 hi hz0 hz1 hz2 rfl (by omega) _ (.int .i64 (-2000)) k _ _ _ (fun q => .int .i64 (lvAt f n q)) rfl rfl (by exact HOW.out.drewN _) (fun q hq => rfl) (by rw [HEL.out]) rfl (by omega) (by exact HBW.out.size) ?_; intro v' w2 ho2 hb2; have HO2 := Lib.hid ho2; have HB2 := Lib.hid hb2; clear ho2 hb2))
            go_wp2
            go_roundw
            case rel => exact ⟨k + 1, by omega, by go_num, HO2, Lib.hid ((below_drewN HBW.out _).trans HB2.out)⟩
            case measure => simp [intOf]; omega
        · have : k = n := by omega
          subst this
          go_wp2
          go_ret2
          exact ⟨_, rfl, HOW.out, HBW.out⟩
end Go.Proofs.Ytjihbkhmkepohaa
