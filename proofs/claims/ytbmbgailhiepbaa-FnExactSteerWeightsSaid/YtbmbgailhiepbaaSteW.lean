/- SteerWeights of the program, by its contract. -/
import Derived.Test.YtbmbgailhiepbaaSteT
import Derived.Test.YtbmbgailhiepbaaScale
namespace Go.Proofs.Ytbmbgailhiepbaa
open Go.RowKit Ieee

/-- A row that grows beside another one that is newer: its block is s, or newer than all of w4. -/
def OutK (s : Nat) (w4 wr : World) (e : TypeId) (out : Value) (k : Nat) (F : Nat → Value) : Prop :=
  Own wr s wr.heap.size e out k F ∧ (∃ g cap, out = .slice (some ⟨g, 0, none⟩) k cap ∧ (g = s ∨ w4.heap.size ≤ g)) ∧ Kept w4 wr s (s + 1)

theorem OutK.push {s : Nat} {w4 wr W' w' : World} {e : TypeId} {out : Value} {k g c : Nat} {F F' : Nat → Value} {u : Value} (h : OutK s w4 wr e out k F) (hF : ∀ j, j < k → F j = F' j) (hb : Below wr.heap.size wr W')
    (hown : w'.ownsRow s e 1 (.slice (some ⟨g, 0, none⟩) (k + 1) c) (k + 1) ((List.range k).map F ++ [u])) (hgrow : W'.grownBy w' out.ownBlock) (hat : out.ownBlock = some g ∨ g = wr.heap.size + 1) (hu : F' k = u) :
    OutK s w4 w' e (.slice (some ⟨g, 0, none⟩) (k + 1) c) (k + 1) F' := by
  obtain ⟨h1, ⟨g0, c0, hv, hg0⟩, h3⟩ := h
  have hvb : out.ownBlock = some g0 := by rw [hv]; rfl
  have h43 := h3.size
  refine ⟨?_, ⟨g, c, rfl, ?_⟩, ⟨?_, ?_, ?_, ?_, fun b hb4 hbs => ?_⟩⟩
  · have hrow : (List.range k).map F = (List.range k).map F' := by
      apply List.map_congr_left
      intro j hj
      exact hF j (by simpa using hj)
    rw [hrow] at hown
    exact Own.pushed hown hu
  · rcases hat with hat | hat
    · rw [hvb] at hat
      have : g0 = g := by simpa using hat
      omega
    · right; omega
  · rw [hgrow.os, hb.os, h3.os]
  · rw [hgrow.tape, hb.tape, h3.tape]
  · rw [hgrow.output, hb.output, h3.output]
  · exact Nat.le_trans h3.size (Nat.le_trans hb.size hgrow.size)
  · have hbw : b < wr.heap.size := by omega
    rw [hgrow.block b (Nat.lt_of_lt_of_le hbw hb.size) (by rw [hvb]; intro e; have h9 : b = g0 := (by simpa using e); omega), hb.block b hbw, h3.block b hb4 hbs]

def swOk (x y : Nat → Int) (n : Nat) (du dv : Int) (m : Nat) : Bool := vP x y n && vD du dv && decide (m = n)
def swLen (x y : Nat → Int) (n : Nat) (du dv : Int) (m : Nat) : Nat := if swOk x y n du dv m then n else 0
/-- The weights' parts, up to the bits of a not-a-number. -/
def SwF (x y : Nat → Int) (du dv : Int) (tp : Nat → Nat) (n : Nat) (fr fi : Nat → Nat) : Prop :=
  ∀ j, j < n → cf .f32 (fr j) = mcf .mul .f32 (phR (tS x y du dv j)) (tp j) ∧ cf .f32 (fi j) = mcf .mul .f32 (phI (tS x y du dv j)) (tp j)
theorem sw_no {x y : Nat → Int} {n : Nat} {du dv : Int} {m : Nat} (h : (vP x y n && vD du dv && decide (m = n)) = false) : swOk x y n du dv m = false ∧ swLen x y n du dv m = 0 :=
  ⟨h, by unfold swLen swOk; rw [h]; rfl⟩
theorem sw_yes {x y : Nat → Int} {n : Nat} {du dv : Int} {m : Nat} (h1 : vP x y n = true) (h2 : vD du dv = true) (h3 : m = n) : swOk x y n du dv m = true ∧ swLen x y n du dv m = n := by
  have h : swOk x y n du dv m = true := by unfold swOk; rw [h1, h2, decide_eq_true h3]; rfl
  exact ⟨h, by unfold swLen; rw [h]; rfl⟩
theorem swLen_le (x y : Nat → Int) (n : Nat) (du dv : Int) (m : Nat) : swLen x y n du dv m ≤ 16 := by
  unfold swLen
  split
  · rename_i h
    unfold swOk at h
    rw [Bool.and_eq_true, Bool.and_eq_true] at h
    exact (vP_in h.1.1).1
  · omega
theorem SwF.step {x y : Nat → Int} {du dv : Int} {tp : Nat → Nat} {k : Nat} {fr fi : Nat → Nat} (h : SwF x y du dv tp k fr fi) {r i : Nat} (h1 : cf .f32 r = mcf .mul .f32 (phR (tS x y du dv k)) (tp k)) (h2 : cf .f32 i = mcf .mul .f32 (phI (tS x y du dv k)) (tp k)) :
    SwF x y du dv tp (k + 1) (fun j => if j = k then r else fr j) (fun j => if j = k then i else fi j) := fun j hj => by
  by_cases hjk : j = k
  · subst hjk
    simp only [if_true]
    exact ⟨h1, h2⟩
  · simp only [if_neg hjk]
    exact h j (by omega)

set_option maxRecDepth 100000 in
set_option maxHeartbeats 4000000 in
theorem swI (ad adt : Option Addr) (n m capt : Nat) (x y : Nat → Int) (du dv : Int) (tp : Nat → Nat) (w : World) (hr : RdP w ad n x y) (hrt : Rd w adt m (fun j => .float .f32 (tp j))) (hn : n ≤ 1048576) (hm : m ≤ 1048576) :
    Calls Try.prog 31 #[.slice ad n n, .agg #[.int .i64 du, .int .i64 dv], .slice adt m capt] w fun e w' => ∃ v, e = .returned (.tuple #[v, .bool (swOk x y n du dv m)]) ∧ (∃ fr fi, Own w' w.heap.size w'.heap.size 23 v (swLen x y n du dv m) (fun j => .complex .f32 (fr j) (fi j)) ∧ SwF x y du dv tp (swLen x y n du dv m) fr fi) ∧ Below w.heap.size w w' := by
  have HR := Lib.hid hr
  have HRT := Lib.hid hrt
  have HVP := Lib.hid (fun u h => validI ad n x y u h hn)
  have cD := fun u => dirI du dv u
  have HBX := Lib.hid (below_alloc w (.cells #[.int .i64 du, .int .i64 dv] 53))
  have HBC := Lib.hid (heap_alloc_new w (.cells #[.int .i64 du, .int .i64 dv] 53))
  have HWs := Lib.hid (show (w.alloc (.cells #[.int .i64 du, .int .i64 dv] 53)).heap.size = w.heap.size + 1 by simp)
  clear hr hrt
  cases hvp : vP x y n with
  | false =>
    obtain ⟨z1, z2⟩ := sw_no (x := x) (y := y) (n := n) (du := du) (dv := dv) (m := m) (by rw [hvp]; rfl)
    have HZ2 := Lib.hid z2
    rw [z1]
    rw [hvp] at HVP
    clear z1 z2 hvp cD
    go_enter Try.func31, Try.ntmps31
    go_wp2_with (go_at_call 62; refine (HVP.out _ (by exact HR.out.below HBX.out)).mono ?_; rintro e w2 ⟨rfl, hb2⟩; have HB2 := Lib.hid hb2; clear hb2)
    go_ret2
    exact ⟨_, rfl, ⟨fun _ => 0, fun _ => 0, by rw [HZ2.out]; exact Own.nil _ _ _ _ _, by rw [HZ2.out]; exact fun j hj => by omega⟩, below_next HBX.out HB2.out⟩
  | true =>
    have HVI := Lib.hid (vP_in hvp)
    cases hvd : vD du dv with
    | false =>
      obtain ⟨z1, z2⟩ := sw_no (x := x) (y := y) (n := n) (du := du) (dv := dv) (m := m) (by rw [hvp, hvd]; rfl)
      have HZ2 := Lib.hid z2
      rw [z1]
      rw [hvp] at HVP
      rw [hvd] at cD
      clear z1 z2 hvp hvd
      go_enter Try.func31, Try.ntmps31
      go_wp2_with (first | (go_at_call 62; refine (HVP.out _ (by exact HR.out.below HBX.out)).mono ?_; rintro e w2 ⟨rfl, hb2⟩; have HB2 := Lib.hid hb2; have HD := Lib.hid ((hb2.block w.heap.size (by have := HWs.out; omega)).trans HBC.out); have hd0 : w2.cell? ⟨w.heap.size, 0, none⟩ = some (.int .i64 du) := (cell_of_row _ _ 0 _ _ (0, 0) HD.out).trans rfl; have hd1 : w2.cell? ⟨w.heap.size, 1, none⟩ = some (.int .i64 dv) := (cell_of_row _ _ 1 _ _ (0, 0) HD.out).trans rfl; clear hb2) | (go_at_call 63; refine (cD _).mono ?_; rintro e w3 ⟨rfl, hb3⟩; have HB3 := Lib.hid hb3; clear hb3))
      go_ret2
      exact ⟨_, rfl, ⟨fun _ => 0, fun _ => 0, by rw [HZ2.out]; exact Own.nil _ _ _ _ _, by rw [HZ2.out]; exact fun j hj => by omega⟩, below_next (below_next HBX.out HB2.out) HB3.out⟩
    | true =>
      have HDI := Lib.hid (vD_in hvd)
      by_cases hmn : m = n
      · obtain ⟨z1, z2⟩ := sw_yes (x := x) (y := y) hvp hvd hmn
        have HZ2 := Lib.hid z2
        rw [z1]
        rw [hvp] at HVP
        rw [hvd] at cD
        clear z1 z2 hvp hvd
        subst hmn
        obtain ⟨i0, hi, hz0, hz1, hz2⟩ := info_parts info_cx
        go_enter Try.func31, Try.ntmps31
        go_wp2_with (first | (go_at_call 62; refine (HVP.out _ (by exact HR.out.below HBX.out)).mono ?_; rintro e w2 ⟨rfl, hb2⟩; have HB2 := Lib.hid hb2; have HD := Lib.hid ((hb2.block w.heap.size (by have := HWs.out; omega)).trans HBC.out); have hd0 : w2.cell? ⟨w.heap.size, 0, none⟩ = some (.int .i64 du) := (cell_of_row _ _ 0 _ _ (0, 0) HD.out).trans rfl; have hd1 : w2.cell? ⟨w.heap.size, 1, none⟩ = some (.int .i64 dv) := (cell_of_row _ _ 1 _ _ (0, 0) HD.out).trans rfl; clear hb2) | (go_at_call 63; refine (cD _).mono ?_; rintro e w3 ⟨rfl, hb3⟩; have HB3 := Lib.hid hb3; have HE := Lib.hid ((hb3.block w.heap.size (Array.getElem?_eq_some_iff.1 HD.out).1).trans HD.out); have hlt3 : w.heap.size < w3.heap.size := (Array.getElem?_eq_some_iff.1 HE.out).1; have he0 : (w3.alloc (.cells #[] 23)).cell? ⟨w.heap.size, 0, none⟩ = some (.int .i64 du) := ((below_alloc w3 _).cell (p := ⟨w.heap.size, 0, none⟩) hlt3).trans ((cell_of_row _ _ 0 _ _ (0, 0) HE.out).trans rfl); have he1 : (w3.alloc (.cells #[] 23)).cell? ⟨w.heap.size, 1, none⟩ = some (.int .i64 dv) := ((below_alloc w3 _).cell (p := ⟨w.heap.size, 1, none⟩) hlt3).trans ((cell_of_row _ _ 1 _ _ (0, 0) HE.out).trans rfl); clear hb3) | (go_at_call 64; refine (steerI ad m m x y du dv _ (by exact (((HR.out.below HBX.out).below HB2.out).below HB3.out).below (below_alloc w3 _)) HVI.out.1 HVI.out.2 HDI.out).mono ?_; rintro e w4 ⟨v4, rfl, ho4, hb4⟩; obtain ⟨ad4, cap4, rfl, hr4⟩ := ho4.rd; have HO4 := Lib.hid ho4; have HR4 := Lib.hid hr4; have HB4 := Lib.hid hb4; clear ho4 hr4 hb4))
        have hw34 : w.heap.size ≤ w3.heap.size := Nat.le_of_lt hlt3
        have HB4w := Lib.hid (below_next (below_next (below_next (below_next HBX.out HB2.out) HB3.out) (below_alloc w3 _)) HB4.out)
        have hs34 : w3.heap.size + 1 ≤ w4.heap.size := by have := HB4.out.size; simp at this; omega
        go_loopw [8, 9, 10, 31] (fun out _ _ i wr => ∃ (k : Nat) (fr fi : Nat → Nat), k ≤ m ∧ i = .int .i64 k ∧ Hid (OutK w3.heap.size w4 wr 23 out k (fun j => .complex .f32 (fr j) (fi j))) ∧ Hid (SwF x y du dv tp k fr fi)) (fun _ _ _ i _ => m - (intOf i).toNat)
        case atStart =>
          exact ⟨0, fun _ => 0, fun _ => 0, Nat.zero_le _, rfl, Lib.hid ⟨((Own.empty w3 _ _).below HB4.out (Nat.le_refl _)).wider (Nat.le_refl _) HB4.out.size, ⟨w3.heap.size, 0, rfl, .inl rfl⟩, Kept.refl _ _ _⟩, Lib.hid (fun j hj => by omega)⟩
        case round =>
          obtain ⟨k, fr, fi, hk, rfl, HO, HF⟩ := hrel
          have HBw := Lib.hid (HB4w.out.trans (HO.out.2.2.below hw34 (by omega)))
          by_cases hlt : k < m
          · obtain ⟨bt, offt, rfl, hbt, hct⟩ := (HRT.out.below HBw.out).at hlt
            have ht1 := hct k hlt
            clear hct
            obtain ⟨bl, offl, rfl, hbl, hcl⟩ := (HO4.out.kept HO.out.2.2 (.inr (by simp))).rd2.at hlt
            have hl1 := hcl k hlt
            clear hcl
            have cS := fun u => scaleI (phR (tS x y du dv k)) (phI (tS x y du dv k)) (tp k) u
            have HST := Lib.hid (fun (r i : Nat) (q1 : cf .f32 r = mcf .mul .f32 (phR (tS x y du dv k)) (tp k)) (q2 : cf .f32 i = mcf .mul .f32 (phI (tS x y du dv k)) (tp k)) => SwF.step HF.out q1 q2)
            generalize phR (tS x y du dv k) = pr at *
            generalize phI (tS x y du dv k) = pi at *
            generalize tp k = tk at *
            go_wp2_with (first | (go_at_call 65; refine (cS _).mono ?_; rintro e w' ⟨r, im, m', rfl, rfl, hR, hI⟩; have HRI := Lib.hid (And.intro hR hI); clear hR hI) | (at_builtin; refine wpList_append_lies _ rfl _ _ 37 rfl w3.heap.size 23 i0 (.complex .f32 0 0) 1 8 Try.underlying37 hi hz0 hz1 hz2 rfl (by omega) _ k ((List.range k).map (fun j => .complex .f32 (fr j) (fi j))) rfl ((show (wr.drewN m').ownsRow _ _ _ _ _ _ from HO.out.1.row).alloc _) ⟨wr.heap.size, 0, none⟩ 1 1 [.complex .f32 r im] rfl rfl (World.news_of_block (cs := #[.complex .f32 r im]) (t := 23) (fr := (0, 0)) (heap_alloc_new (wr.drewN m') _)) (by simp [Value.oneCell']) (by omega) (by have := HVI.out.1; unfold maxLen; omega) (by have := HVI.out.1; omega) (by have := HO.out.2.2.size; simp; omega) (wr.heap.size + 1) (by simp) ?_; intro gg c1 w5 hown5 hgrow5 hat5 hlt5; have HPU := Lib.hid (OutK.push HO.out (F' := fun j => .complex .f32 (if j = k then r else fr j) (if j = k then im else fi j)) (fun j hj => by rw [if_neg (by omega), if_neg (by omega)]) (below_undrew (below_alloc (wr.drewN m') _)) hown5 hgrow5 hat5 (by simp)); clear hown5 hgrow5 hat5))
            go_wp2
            go_roundw
            case rel => exact ⟨k + 1, _, _, by omega, by go_num, HPU, Lib.hid (HST.out _ _ HRI.out.1 HRI.out.2)⟩
            case measure => simp [intOf]; omega
          · have : k = m := by omega
            subst this
            go_wp2
            go_ret2
            exact ⟨_, rfl, ⟨fr, fi, by rw [HZ2.out]; exact HO.out.1.wider hw34 (Nat.le_refl _), by rw [HZ2.out]; exact HF.out⟩, HBw.out⟩
      · obtain ⟨z1, z2⟩ := sw_no (x := x) (y := y) (n := n) (du := du) (dv := dv) (m := m) (by rw [hvp, hvd, decide_eq_false hmn]; rfl)
        have HZ2 := Lib.hid z2
        rw [z1]
        rw [hvp] at HVP
        rw [hvd] at cD
        have hmn' : ¬ (m : Int) = n := by omega
        clear z1 z2 hvp hvd hmn
        go_enter Try.func31, Try.ntmps31
        go_wp2_with (first | (go_at_call 62; refine (HVP.out _ (by exact HR.out.below HBX.out)).mono ?_; rintro e w2 ⟨rfl, hb2⟩; have HB2 := Lib.hid hb2; have HD := Lib.hid ((hb2.block w.heap.size (by have := HWs.out; omega)).trans HBC.out); have hd0 : w2.cell? ⟨w.heap.size, 0, none⟩ = some (.int .i64 du) := (cell_of_row _ _ 0 _ _ (0, 0) HD.out).trans rfl; have hd1 : w2.cell? ⟨w.heap.size, 1, none⟩ = some (.int .i64 dv) := (cell_of_row _ _ 1 _ _ (0, 0) HD.out).trans rfl; clear hb2) | (go_at_call 63; refine (cD _).mono ?_; rintro e w3 ⟨rfl, hb3⟩; have HB3 := Lib.hid hb3; clear hb3))
        go_ret2
        exact ⟨_, rfl, ⟨fun _ => 0, fun _ => 0, by rw [HZ2.out]; exact Own.nil _ _ _ _ _, by rw [HZ2.out]; exact fun j hj => by omega⟩, below_next (below_next HBX.out HB2.out) HB3.out⟩
end Go.Proofs.Ytbmbgailhiepbaa
