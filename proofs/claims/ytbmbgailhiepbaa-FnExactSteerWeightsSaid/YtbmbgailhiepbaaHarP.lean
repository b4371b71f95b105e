/- The harness for places: toPlaceS, eqPlaceS, markPlaceS, toDirection. -/
import Derived.Test.YtbmbgailhiepbaaRows
import Derived.Test.YtbmbgailhiepbaaMemP
import Derived.BigQuiet
import Derived.Deep.RegionWith
namespace Go.Proofs.Ytbmbgailhiepbaa
open Go.RowKit

theorem info_place : (Try.prog.info? 77).map (fun i => (i.zero, i.size, i.bytes)) = some (some (.agg #[.int .i64 0, .int .i64 0]), 2, 16) := by kernel_rfl
theorem below_alloc3 (w : World) (A B C : Obj) : Below w.heap.size w (((w.alloc A).alloc B).alloc C) := (((Below.refl _ _).alloc (Nat.le_refl _) A).alloc (by simp) B).alloc (by simp; omega) C
theorem below_alloc2' (w : World) (A B : Obj) : Below w.heap.size w ((w.alloc A).alloc B) := ((Below.refl _ _).alloc (Nat.le_refl _) A).alloc (by simp) B

set_option maxHeartbeats 1000000 in
theorem toPlace_any (x y : Int) (w : World) :
    Calls Try.prog 61 #[.agg #[.int .i64 x, .int .i64 y]] w fun e w' => e = .returned (.agg #[.int .i64 x, .int .i64 y]) ∧ Below w.heap.size w w' := by
  go_enter Try.func61, Try.ntmps61
  go_wp2
  exact bodyPost_ret (v := .agg #[.int .i64 x, .int .i64 y]) (by simp [results, Try.results61, go_sem]) rfl ⟨rfl, below_alloc3 w _ _ _⟩
set_option maxHeartbeats 1000000 in
theorem toDir_any (x y : Int) (w : World) :
    Calls Try.prog 29 #[.agg #[.int .i64 x, .int .i64 y]] w fun e w' => e = .returned (.agg #[.int .i64 x, .int .i64 y]) ∧ Below w.heap.size w w' := by
  go_enter Try.func29, Try.ntmps29
  go_wp2
  exact bodyPost_ret (v := .agg #[.int .i64 x, .int .i64 y]) (by simp [results, Try.results29, go_sem]) rfl ⟨rfl, below_alloc3 w _ _ _⟩

set_option maxHeartbeats 1000000 in
theorem szP_any (ad : Option Addr) (n cap : Nat) (w : World) (hn : n ≤ 9223372036854775807) :
    Calls Try.prog 26 #[.slice ad n cap, .int .i64 1048576] w fun e w' => e = .returned (.int .i64 (if n ≤ 1048576 then 1048576 - (n : Int) else -1)) ∧ w = w' := by
  by_cases h : n ≤ 1048576
  · rw [if_pos h]
    have h1 : ¬ (1048576 : Int) - n < 0 := by omega
    go_enter Try.func26, Try.ntmps26
    go_wp2
    all_goals go_ret
    all_goals exact ⟨rfl, rfl⟩
  · rw [if_neg h]
    have h1 : (1048576 : Int) - n < 0 := by omega
    go_enter Try.func26, Try.ntmps26
    go_wp2
    all_goals go_ret
    all_goals exact ⟨rfl, rfl⟩

theorem made2 {w : World} {lo : Nat} {e : TypeId} {g n : Nat} (h : w.ownsRow lo e 2 (.slice (some ⟨g, 0, none⟩) n n) n (madeCells (Value.agg #[.int .i64 0, .int .i64 0]).cells (n * 2)).toList) : OwnP w lo w.heap.size e (.slice (some ⟨g, 0, none⟩) n n) n (fun _ => 0) (fun _ => 0) := by
  obtain ⟨h0, h1⟩ := h
  rcases h1 with ⟨h, _⟩ | ⟨g', cap, cur, hv, h2, h3, h4, h5, h6, h7⟩
  · simp at h
  · simp at hv
    obtain ⟨rfl, rfl⟩ := hv
    have hsz : cur.size = n * 2 := h6
    have hcur : ∀ i, i < n * 2 → cur[i]? = some (.int .i64 0) := fun i hi => by
      have e1 : (List.take (n * 2) cur.toList)[i]? = (madeCells (Value.agg #[.int .i64 0, .int .i64 0]).cells (n * 2)).toList[i]? := by rw [h7]
      rw [List.getElem?_take, if_pos hi, Array.getElem?_toList, Array.getElem?_toList] at e1
      rw [e1]
      have h8 : (Value.agg #[.int .i64 0, .int .i64 0]).cells = #[.int .i64 0, .int .i64 0] := by simp [Value.cells]
      rw [h8]
      have h9 : i % 2 = 0 ∨ i % 2 = 1 := by omega
      rcases h9 with h9 | h9 <;> simp [madeCells, hi, h9]
    exact ⟨g, cur, rfl, h2, (Array.getElem?_eq_some_iff.1 h3).1, h3, hsz, fun j hj => ⟨hcur _ (by omega), hcur _ (by omega)⟩⟩

set_option maxRecDepth 100000 in
set_option maxHeartbeats 1000000 in
theorem toP_any (ad : Option Addr) (n cap : Nat) (x y : Nat → Int) (w : World) (hr : RdP w ad n x y) (hn : n ≤ 1048576) :
    Calls Try.prog 28 #[.slice ad n cap] w fun e w' => ∃ v, e = .returned v ∧ OwnP w' w.heap.size w'.heap.size 77 v n x y ∧ Below w.heap.size w w' := by
  obtain ⟨i0, hi, hz0, hz1, hz2⟩ := info_parts info_place
  have HR := Lib.hid hr
  clear hr
  go_enter Try.func28, Try.ntmps28
  go_wp2_with (at_make; refine wpList_make_full _ rfl _ _ 51 rfl w.heap.size 77 i0 (.agg #[.int .i64 0, .int .i64 0]) 2 Try.underlying51 hi hz0 hz1 _ _ _ _ n rfl rfl rfl rfl (by rw [hz2]; omega) (by unfold maxLen; omega) (Nat.le_refl _) ?_; intro w1 hown hgrow)
  have HO := Lib.hid (made2 hown)
  have hb1 : Below w.heap.size w w1 := (Below.refl _ _).grown hgrow (Nat.le_refl _) (by intro k hk; cases hk)
  have HB := Lib.hid hb1
  clear hown hgrow hb1
  go_loopw [4] (fun i wr => ∃ k : Nat, k ≤ n ∧ i = .int .i64 k ∧ Hid (OwnP wr w.heap.size wr.heap.size 77 (.slice (some ⟨w.heap.size, 0, none⟩) n n) n (fun j => if j < k then x j else 0) (fun j => if j < k then y j else 0)) ∧ Hid (Below w.heap.size w wr)) (fun i _ => n - (intOf i).toNat)
  case atStart => exact ⟨0, Nat.zero_le _, rfl, Lib.hid (by simpa using HO.out), HB⟩
  case round =>
    obtain ⟨k, hk, rfl, HOW, HBW⟩ := hrel
    by_cases hlt : k < n
    · obtain ⟨b, off, rfl, hb, hc⟩ := HR.out.at hlt
      have hck : wr.cell? ⟨b, off + k * 2, none⟩ = some (.int .i64 (x k)) := (HBW.out.cell (p := ⟨b, off + k * 2, none⟩) hb).trans (hc k hlt).1
      have hck2 : wr.cell? ⟨b, off + k * 2 + 1, none⟩ = some (.int .i64 (y k)) := (HBW.out.cell (p := ⟨b, off + k * 2 + 1, none⟩) hb).trans (hc k hlt).2
      clear hc
      go_wp2_with (go_at_call 61; refine (toPlace_any (x k) (y k) _).mono ?_; rintro e w2 ⟨rfl, hb2⟩; have HB2 := Lib.hid hb2; have HO2 := Lib.hid (HOW.out.below hb2 (Nat.le_refl _)); obtain ⟨hx1, hx2, hx3, hx4⟩ := HO2.out.cells hlt; have HS := Lib.hid (HO2.out.store k (x k) (y k)); clear hb2)
      refine ⟨⟨k + 1, by omega, by go_num, Lib.hid ((HS.out.1.wider (Nat.le_refl _) (Nat.le_trans HB2.out.size HS.out.2.size)).congr (fun j hj => ?_)), Lib.hid (((HBW.out.trans (HB2.out.mono HBW.out.size)).setCell (Nat.le_refl _) _).setCell (Nat.le_refl _) _)⟩, by simp [intOf]; omega⟩
      by_cases hjk : j = k
      · subst hjk; simp
      · have hiff : (j < k + 1) ↔ (j < k) := by omega
        simp [hjk, hiff]
    · have : k = n := by omega
      subst this
      go_wp2
      go_ret
      exact ⟨_, rfl, HOW.out.congr (fun j hj => by simp [hj]), HBW.out⟩

set_option maxHeartbeats 1000000 in
theorem eqPlace_any (x y : Int) (w : World) :
    Calls Try.prog 66 #[.agg #[.int .i64 x, .int .i64 y], .agg #[.int .i64 x, .int .i64 y]] w fun e w' => e = .returned (.bool true) ∧ Below w.heap.size w w' := by
  go_enter Try.func66, Try.ntmps66
  go_wp2
  all_goals go_ret
  all_goals exact ⟨rfl, below_alloc2' w _ _⟩

theorem below_undrew1 {B : Nat} {a b : World} (h : Below B a.drew b) : Below B a b := ⟨h.os, h.tape, h.output, h.size, h.block⟩

set_option maxRecDepth 100000 in
set_option maxHeartbeats 1000000 in
theorem eqP_any (ad ad2 : Option Addr) (n cap cap2 : Nat) (x y : Nat → Int) (w : World) (hr : RdP w ad n x y) (hr2 : RdP w ad2 n x y) (hn : n ≤ 1048576) :
    Calls Try.prog 32 #[.slice ad n cap, .slice ad2 n cap2] w fun e w' => e = .returned (.bool true) ∧ Below w.heap.size w w' := by
  have HR := Lib.hid hr
  have HR2 := Lib.hid hr2
  clear hr hr2
  go_enter Try.func32, Try.ntmps32
  go_wp2
  go_loopw [5] (fun i wr => ∃ k : Nat, k ≤ n ∧ i = .int .i64 k ∧ Hid (Below w.heap.size w wr)) (fun i _ => n - (intOf i).toNat)
  case atStart => exact ⟨0, Nat.zero_le _, rfl, Lib.hid (Below.refl _ _)⟩
  case round =>
    obtain ⟨k, hk, rfl, HBW⟩ := hrel
    by_cases hlt : k < n
    · obtain ⟨b, off, rfl, hb, hc⟩ := (HR.out.below HBW.out).at hlt
      obtain ⟨b2, off2, rfl, hb2, hc2⟩ := (HR2.out.below HBW.out).at hlt
      have h1 := (hc k hlt).1
      have h2 := (hc k hlt).2
      have h3 := (hc2 k hlt).1
      have h4 := (hc2 k hlt).2
      clear hc hc2
      go_wp2_with fail
      go_region_with (go_at_call 66; refine (eqPlace_any (x k) (y k) _).mono ?_; rintro e w2 ⟨rfl, hb9⟩; have HB2 := Lib.hid hb9; clear hb9)
      all_goals go_wp2
      all_goals go_roundw
      all_goals first
        | exact ⟨k + 1, by omega, by go_num, Lib.hid (below_next HBW.out (by first | exact HB2.out | exact below_undrew1 HB2.out))⟩
        | (simp [intOf]; omega)
    · have : k = n := by omega
      subst this
      go_wp2
      go_ret
      exact ⟨rfl, HBW.out⟩

set_option maxRecDepth 100000 in
set_option maxHeartbeats 1000000 in
theorem markP_any (v : Value) (n : Nat) (x y : Nat → Int) (k : Int) (w : World) (lo hi : Nat) (h : OwnP w lo hi 77 v n x y) (hn : n ≤ 1048576) (hk0 : 0 ≤ k) (hk1 : k ≤ 1099511627776) :
    Calls Try.prog 33 #[v, .int .i64 k] w fun e w' => e = .returned (.int .i64 (k + 2 * (n : Int))) ∧ OwnP w' lo hi 77 v n (fun j => k + 2 * (j : Int)) (fun j => k + 2 * (j : Int) + 1) ∧ Kept w w' lo hi := by
  obtain ⟨g, rfl, hg1, hg2, hg3⟩ := h.form
  have H := Lib.hid h
  clear h
  go_enter Try.func33, Try.ntmps33
  go_wp2
  go_loopw [1, 5] (fun q i wr => ∃ (m : Nat) (p : Int), m ≤ n ∧ i = .int .i64 m ∧ q = .int .i64 p ∧ p ≤ k + 2 * (m : Int) ∧ k + 2 * (m : Int) ≤ p ∧ Hid (OwnP wr lo hi 77 (.slice (some ⟨g, 0, none⟩) n n) n (fun j => if j < m then k + 2 * (j : Int) else x j) (fun j => if j < m then k + 2 * (j : Int) + 1 else y j)) ∧ Hid (Kept w wr lo hi)) (fun _ i _ => n - (intOf i).toNat)
  case atStart => exact ⟨0, k, Nat.zero_le _, rfl, rfl, by omega, by omega, Lib.hid (by simpa using H.out), Lib.hid (Kept.refl _ _ _)⟩
  case round =>
    obtain ⟨m, p, hm, rfl, rfl, hp1, hp2, HO, HK⟩ := hrel
    by_cases hlt : m < n
    · obtain ⟨hx1, hx2, hx3, hx4⟩ := HO.out.cells hlt
      have HS := Lib.hid (HO.out.store m p (p + 1))
      have hp0 : 0 ≤ p := by omega
      have hp9 : p ≤ 2199023255552 := by omega
      go_wp2
      refine ⟨⟨m + 1, p + 1 + 1, by omega, by go_num, by first | rfl | go_num, by omega, by omega, Lib.hid (HS.out.1.congr (fun j hj => ?_)), Lib.hid (HK.out.trans HS.out.2)⟩, by simp [intOf]; omega⟩
      have hpp : p = k + 2 * (m : Int) := by omega
      by_cases hjm : j = m
      · subst hjm; simp [hpp]
      · have hiff : (j < m + 1) ↔ (j < m) := by omega
        simp [hjm, hiff]
    · have : m = n := by omega
      subst this
      have hpp : p = k + 2 * (m : Int) := by omega
      subst hpp
      go_wp2
      go_ret
      exact ⟨rfl, HO.out.congr (fun j hj => by simp [hj]), HK.out⟩
end Go.Proofs.Ytbmbgailhiepbaa
