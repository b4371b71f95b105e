/- The phasors of places: both, by contracts. -/
import Derived.Test.YtbmbgailhiepbaaSteS
import Derived.Test.YtbmbgailhiepbaaNulW
import Derived.Deep.AppendLies
namespace Go.Proofs.Ytbmbgailhiepbaa
open Go.RowKit Ieee
attribute [local go_sem ↓] Go.wp_at_zero Go.wp_at_succ

def tS (x y : Nat → Int) (du dv : Int) (j : Nat) : Nat := fB .quo (floatOfInt .f64 (x j * du + y j * dv)) 4661225614328463360
theorem prod_bd {s u : Int} (h1 : -4096 ≤ s) (h2 : s ≤ 4096) (h3 : -64 ≤ u) (h4 : u ≤ 64) : -262144 ≤ s * u ∧ s * u ≤ 262144 := by
  rcases Int.le_total 0 s with h | h
  · have a : s * (-64) ≤ s * u := Int.mul_le_mul_of_nonneg_left h3 h
    have b : s * u ≤ s * 64 := Int.mul_le_mul_of_nonneg_left h4 h
    omega
  · have a : (-s) * (-64) ≤ (-s) * u := Int.mul_le_mul_of_nonneg_left h3 (by omega)
    have b : (-s) * u ≤ (-s) * 64 := Int.mul_le_mul_of_nonneg_left h4 (by omega)
    rw [Int.neg_mul s u] at a b
    omega
theorem tS_all {i : Int} (h1 : -524288 ≤ i) (h2 : i ≤ 524288) : floatBits .quo .f64 (floatOfInt .f64 i) 4661225614328463360 = some (fB .quo (floatOfInt .f64 i) 4661225614328463360) ∧ Bp (cf .f64 (fB .quo (floatOfInt .f64 i) 4661225614328463360)) 51 := by
  have hl := Lb_int 4096 (by omega) (by omega)
  rw [show ((4096 : Nat) : Int) = 4096 from rfl, c4096] at hl
  have h := B_div (int_bpz i 19 (by omega) (by omega)) hl (by omega)
  exact ⟨h.1, h.2.mono (by omega)⟩


theorem wpList_pushH {P : Program} (w0 : World) (H : Nat) (hH : w0.heap.size = H) {ops : Array Oper} {rest : List Oper} {o : Oper} {a : Act} {Q : Exit → Act → World → Prop} (hgd : o.guard = none) (s x : Operand) (t : TypeId)
    (ho : o.op = .call { callee := .builtin .append, args := #[s, x], argTypes := #[t, t] })
    (e : TypeId) (i : TypeInfo) (z : Value) (bytes : Nat) (ht : P.underlying t = some (.slice e)) (hi : P.info? e = some i) (hz : i.zero = some z)
    (hsize : i.size = 1) (hby : i.bytes = bytes) (hzs : z.cells.size = 1) (hb64 : bytes ≤ 64)
    (v u : Value) (n lo hi' : Nat) (f F : Nat → Value) (hs : a.eval s = v) (hx : a.eval x = .slice (some ⟨H, 0, none⟩) 1 1)
    (hown : Own w0 lo hi' e v n f) (hF : ∀ j, j < n → f j = F j) (hu : F n = u) (h1 : u.oneCell' = true) (hn : n ≤ 16777216) (hlo : lo ≤ w0.heap.size)
    (h : ∀ v' w', Own w' lo w'.heap.size e v' (n + 1) F → Below lo w0 w' → wpList P ops Q rest (a.put o.dst v') w') :
    wpList P ops Q (o :: rest) a (w0.alloc (.cells #[u] e)) := by
  subst hH
  exact wpList_push w0 hgd s x t ho e i z bytes ht hi hz hsize hby hzs hb64 v u n lo hi' f F hs hx hown hF hu h1 hn hlo h

theorem vD_in {u v : Int} (h : vD u v = true) : (-64 ≤ u ∧ u ≤ 64) ∧ (-64 ≤ v ∧ v ≤ 64) := by
  have := of_decide_eq_true h
  exact ⟨this.1, this.2.1⟩

set_option maxRecDepth 100000 in
set_option maxHeartbeats 4000000 in
theorem steerI (ad : Option Addr) (n cap : Nat) (x y : Nat → Int) (du dv : Int) (w : World) (hr : RdP w ad n x y) (hn : n ≤ 16) (hp : ∀ j, j < n → (-4096 ≤ x j ∧ x j ≤ 4096) ∧ (-4096 ≤ y j ∧ y j ≤ 4096)) (hd : (-64 ≤ du ∧ du ≤ 64) ∧ (-64 ≤ dv ∧ dv ≤ 64)) :
    Calls Try.prog 64 #[.slice ad n cap, .agg #[.int .i64 du, .int .i64 dv]] w fun e w' => ∃ v, e = .returned v ∧ Own w' w.heap.size w'.heap.size 23 v n (fun j => .complex .f32 (phR (tS x y du dv j)) (phI (tS x y du dv j))) ∧ Below w.heap.size w w' := by
  obtain ⟨i0, hi, hz0, hz1, hz2⟩ := info_parts info_cx
  have HR := Lib.hid hr
  have HP := Lib.hid hp
  clear hr hp
  go_enter Try.func64, Try.ntmps64
  go_wp2
  have HBX := Lib.hid (below_alloc w (.cells #[.int .i64 du, .int .i64 dv] 53))
  have HBC := Lib.hid (heap_alloc_new w (.cells #[.int .i64 du, .int .i64 dv] 53))
  generalize hW : w.alloc (.cells #[.int .i64 du, .int .i64 dv] 53) = W at *
  have hWs : W.heap.size = w.heap.size + 1 := by rw [← hW]; simp
  have HWs := Lib.hid hWs
  clear hW hWs
  go_loopw [5, 7, 11] (fun out _ i wr => ∃ k : Nat, k ≤ n ∧ i = .int .i64 k ∧ Hid (Own wr W.heap.size wr.heap.size 23 out k (fun j => .complex .f32 (phR (tS x y du dv j)) (phI (tS x y du dv j)))) ∧ Hid (Below W.heap.size W wr)) (fun _ _ i _ => n - (intOf i).toNat)
  case atStart => exact ⟨0, Nat.zero_le _, rfl, Lib.hid (by rw [← HWs.out]; exact Own.empty _ _ _), Lib.hid (below_alloc _ _)⟩
  case round =>
    obtain ⟨k, hk, rfl, HOW, HBW⟩ := hrel
    by_cases hlt : k < n
    · obtain ⟨b, off, rfl, hb, hc⟩ := ((HR.out.below HBX.out).below HBW.out).at hlt
      have h1 := (hc k hlt).1
      have h2 := (hc k hlt).2
      clear hc
      have HD := Lib.hid ((HBW.out.block w.heap.size (by have := HWs.out; omega)).trans HBC.out)
      have hlt0 : w.heap.size < wr.heap.size := (Array.getElem?_eq_some_iff.1 HD.out).1
      have hxy := HP.out k hlt
      have b1 := prod_bd hxy.1.1 hxy.1.2 hd.1.1 hd.1.2
      have b2 := prod_bd hxy.2.1 hxy.2.2 hd.2.1 hd.2.2
      have HER := Lib.hid (show phR (tS x y du dv k) = phR (fB .quo (floatOfInt .f64 (x k * du + y k * dv)) 4661225614328463360) from rfl)
      have HEI := Lib.hid (show phI (tS x y du dv k) = phI (fB .quo (floatOfInt .f64 (x k * du + y k * dv)) 4661225614328463360) from rfl)
      generalize x k = X at *
      generalize y k = Y at *
      have hd0 : (wr.alloc (.cells #[.int .i64 X, .int .i64 Y] 77)).cell? ⟨w.heap.size, 0, none⟩ = some (.int .i64 du) := ((below_alloc wr _).cell (p := ⟨w.heap.size, 0, none⟩) hlt0).trans ((cell_of_row _ _ 0 _ _ (0, 0) HD.out).trans rfl)
      have hd1 : (wr.alloc (.cells #[.int .i64 X, .int .i64 Y] 77)).cell? ⟨w.heap.size, 1, none⟩ = some (.int .i64 dv) := ((below_alloc wr _).cell (p := ⟨w.heap.size, 1, none⟩) hlt0).trans ((cell_of_row _ _ 1 _ _ (0, 0) HD.out).trans rfl)
      generalize hP1 : X * du = P1 at *
      generalize hP2 : Y * dv = P2 at *
      obtain ⟨t1, t2⟩ := tS_all (i := P1 + P2) (by omega) (by omega)
      have r1 := run_fB (P := Try.prog) t1 63
      have cP := fun v => phasorI _ t2 v
      clear t1 t2
      generalize phR (fB .quo (floatOfInt .f64 (P1 + P2)) 4661225614328463360) = pr at *
      generalize phI (fB .quo (floatOfInt .f64 (P1 + P2)) 4661225614328463360) = pi at *
      generalize fB .quo (floatOfInt .f64 (P1 + P2)) 4661225614328463360 = t at *
      go_wp2_with (first | (go_at_call 54; refine (cP _).mono ?_; rintro e w' ⟨rfl, rfl⟩) | (at_builtin; refine wpList_pushH _ (wr.heap.size + 1) (by simp) rfl _ _ 37 rfl 23 i0 (.complex .f32 0 0) 8 Try.underlying37 hi hz0 hz1 hz2 rfl (by omega) _ (.complex .f32 pr pi) k W.heap.size _ _ (fun j => .complex .f32 (phR (tS x y du dv j)) (phI (tS x y du dv j))) rfl rfl (by exact HOW.out.below (below_alloc wr _) (Nat.le_refl _)) (fun q hq => rfl) (by rw [HER.out, HEI.out]) rfl (by omega) (by have := HBW.out.size; simp; omega) ?_; intro v' w2 ho2 hb2; have HO2 := Lib.hid ho2; have HB2 := Lib.hid hb2; clear ho2 hb2))
      go_wp2
      go_roundw
      case rel => exact ⟨k + 1, by omega, by go_num, HO2, Lib.hid ((HBW.out.trans ((below_alloc wr _).mono HBW.out.size)).trans HB2.out)⟩
      case measure => simp [intOf]; omega
    · have : k = n := by omega
      subst this
      go_wp2
      go_ret
      exact ⟨_, rfl, HOW.out.wider HBX.out.size (Nat.le_refl _), below_next HBX.out HBW.out⟩


theorem grown_below1 {w2 w3 W : World} {E : Obj} {lo hi : Nat} {e : TypeId} {v : Value} {n : Nat} {f : Nat → Value} (h : Below lo W w2) (hlo : lo ≤ w2.heap.size) (ho : Own w2 lo hi e v n f) (hg : (w2.alloc E).grownBy w3 v.ownBlock) : Below lo W w3 :=
  (h.alloc hlo E).grown hg (by simp; omega) (fun q hq => by
    rcases ho.lt with ⟨rfl, _⟩ | ⟨G, cap, rfl, h2, _⟩
    · simp [Value.ownBlock] at hq
    · simp [Value.ownBlock] at hq
      omega)
theorem grown_below2 {w2 w3 W : World} {E : Obj} {lo hi : Nat} {e : TypeId} {v : Value} {n : Nat} {f : Nat → Value} (h : Below lo W w2) (hlo : lo ≤ w2.heap.size) (ho : Own w2 lo hi e v n f) (hg : (w2.alloc E).drew.grownBy w3 v.ownBlock) : Below lo W w3 :=
  (below_drew1 (h.alloc hlo E)).grown hg (by simp [World.drew]; omega) (fun q hq => by
    rcases ho.lt with ⟨rfl, _⟩ | ⟨G, cap, rfl, h2, _⟩
    · simp [Value.ownBlock] at hq
    · simp [Value.ownBlock] at hq
      omega)

set_option maxHeartbeats 1000000 in
theorem stepsS (X Y du dv P1 P2 : Int) (h1 : X * du = P1) (h2 : Y * dv = P2) (a1 : -262144 ≤ P1) (a2 : P1 ≤ 262144) (a3 : -262144 ≤ P2) (a4 : P2 ≤ 262144) (w : World) :
    Calls Try.prog 85 #[.agg #[.int .i64 X, .int .i64 Y], .agg #[.int .i64 du, .int .i64 dv]] w fun e w' => e = .returned (.int .i64 (P1 + P2)) ∧ Below w.heap.size w w' := by
  go_enter Try.func85, Try.ntmps85
  go_wp2
  all_goals go_ret
  all_goals exact ⟨rfl, below_alloc2' w _ _⟩

set_option maxRecDepth 100000 in
set_option maxHeartbeats 4000000 in
theorem steerS (ad : Option Addr) (n cap : Nat) (x y : Nat → Int) (du dv : Int) (w : World) (hr : RdP w ad n x y) (hn : n ≤ 16) (hp : ∀ j, j < n → (-4096 ≤ x j ∧ x j ≤ 4096) ∧ (-4096 ≤ y j ∧ y j ≤ 4096)) (hd : (-64 ≤ du ∧ du ≤ 64) ∧ (-64 ≤ dv ∧ dv ≤ 64)) :
    Calls Try.prog 59 #[.slice ad n cap, .agg #[.int .i64 du, .int .i64 dv]] w fun e w' => ∃ v, e = .returned v ∧ Own w' w.heap.size w'.heap.size 23 v n (fun j => .complex .f32 (phR (tS x y du dv j)) (phI (tS x y du dv j))) ∧ Below w.heap.size w w' := by
  obtain ⟨i0, hi, hz0, hz1, hz2⟩ := info_parts info_cx
  have HR := Lib.hid hr
  have HP := Lib.hid hp
  clear hr hp
  go_enter Try.func59, Try.ntmps59
  go_wp2
  have HBX := Lib.hid (below_alloc w (.cells #[.int .i64 du, .int .i64 dv] 53))
  have HBC := Lib.hid (heap_alloc_new w (.cells #[.int .i64 du, .int .i64 dv] 53))
  generalize hW : w.alloc (.cells #[.int .i64 du, .int .i64 dv] 53) = W at *
  have hWs : W.heap.size = w.heap.size + 1 := by rw [← hW]; simp
  have HWs := Lib.hid hWs
  clear hW hWs
  go_loopw [5, 6] (fun out i wr => ∃ k : Nat, k ≤ n ∧ i = .int .i64 k ∧ Hid (Own wr W.heap.size wr.heap.size 23 out k (fun j => .complex .f32 (phR (tS x y du dv j)) (phI (tS x y du dv j)))) ∧ Hid (Below W.heap.size W wr)) (fun _ i _ => n - (intOf i).toNat)
  case atStart => exact ⟨0, Nat.zero_le _, rfl, Lib.hid (by rw [← HWs.out]; exact Own.empty _ _ _), Lib.hid (below_alloc _ _)⟩
  case round =>
    obtain ⟨k, hk, rfl, HOW, HBW⟩ := hrel
    by_cases hlt : k < n
    · obtain ⟨b, off, rfl, hb, hc⟩ := ((HR.out.below HBX.out).below HBW.out).at hlt
      have h1 := (hc k hlt).1
      have h2 := (hc k hlt).2
      clear hc
      have HD := Lib.hid ((HBW.out.block w.heap.size (by have := HWs.out; omega)).trans HBC.out)
      have hlt0 : w.heap.size < wr.heap.size := (Array.getElem?_eq_some_iff.1 HD.out).1
      have hxy := HP.out k hlt
      have b1 := prod_bd hxy.1.1 hxy.1.2 hd.1.1 hd.1.2
      have b2 := prod_bd hxy.2.1 hxy.2.2 hd.2.1 hd.2.2
      have HER := Lib.hid (show phR (tS x y du dv k) = phR (fB .quo (floatOfInt .f64 (x k * du + y k * dv)) 4661225614328463360) from rfl)
      have HEI := Lib.hid (show phI (tS x y du dv k) = phI (fB .quo (floatOfInt .f64 (x k * du + y k * dv)) 4661225614328463360) from rfl)
      generalize x k = X at *
      generalize y k = Y at *
      have hd0 : wr.cell? ⟨w.heap.size, 0, none⟩ = some (.int .i64 du) := (cell_of_row _ _ 0 _ _ (0, 0) HD.out).trans rfl
      have hd1 : wr.cell? ⟨w.heap.size, 1, none⟩ = some (.int .i64 dv) := (cell_of_row _ _ 1 _ _ (0, 0) HD.out).trans rfl
      generalize hP1 : X * du = P1 at *
      generalize hP2 : Y * dv = P2 at *
      have cS := fun u => stepsS X Y du dv P1 P2 hP1 hP2 (by omega) (by omega) (by omega) (by omega) u
      clear hP1 hP2
      obtain ⟨t1, t2⟩ := tS_all (i := P1 + P2) (by omega) (by omega)
      have r1 := run_fB (P := Try.prog) t1 63
      have cP := fun v => phasorS _ t2 v
      clear t1 t2
      generalize phR (fB .quo (floatOfInt .f64 (P1 + P2)) 4661225614328463360) = pr at *
      generalize phI (fB .quo (floatOfInt .f64 (P1 + P2)) 4661225614328463360) = pi at *
      generalize fB .quo (floatOfInt .f64 (P1 + P2)) 4661225614328463360 = t at *
      go_wp2_with fail
      go_region_law (first
        | ((refine step_append_lies _ (by rfl) _ _ _ (by rfl) W.heap.size 23 i0 (.complex .f32 0 0) 1 8 Try.underlying37 hi hz0 hz1 hz2 rfl (by omega) u5 k ((List.range k).map (fun j => .complex .f32 (phR (tS x y du dv j)) (phI (tS x y du dv j)))) (by rfl) (HO2.out.alloc _) ⟨w2.heap.size, 0, none⟩ 1 1 [.complex .f32 pr pi] (by rfl) (by rfl) (World.news_of_block (cs := #[.complex .f32 pr pi]) (t := 23) (fr := (0, 0)) (heap_alloc_new w2 _)) (by simp [Value.oneCell']) (by omega) (by unfold maxLen; omega) (by omega) (by have := HBW.out.size; have := HB2.out.size; simp; omega) (w2.heap.size + 1) (by simp) ?_; intro gg c1 w3 hown3 hgrow hat hlt3))
        | ((refine step_append_lies _ (by rfl) _ _ _ (by rfl) W.heap.size 23 i0 (.complex .f32 0 0) 1 8 Try.underlying37 hi hz0 hz1 hz2 rfl (by omega) u5 k ((List.range k).map (fun j => .complex .f32 (phR (tS x y du dv j)) (phI (tS x y du dv j)))) (by rfl) ((HO2.out.alloc _).drew) ⟨w2.heap.size, 0, none⟩ 1 1 [.complex .f32 pr pi] (by rfl) (by rfl) (World.news_of_block (cs := #[.complex .f32 pr pi]) (t := 23) (fr := (0, 0)) (heap_alloc_new w2 _)) (by simp [Value.oneCell']) (by omega) (by unfold maxLen; omega) (by omega) (by have := HBW.out.size; have := HB2.out.size; simp; omega) (w2.heap.size + 1) (by simp) ?_; intro gg c1 w3 hown3 hgrow hat hlt3))
        | (go_simp; go_at_call 85; refine (cS _).mono ?_; rintro e w2 ⟨rfl, hb2⟩; have HB2 := Lib.hid (below_undrew1 hb2); have HO2 := Lib.hid ((HOW.out.below HB2.out (Nat.le_refl _)).row); clear hb2)
        | (go_simp; go_at_call 47; refine (cP _).mono ?_; rintro e w' ⟨rfl, rfl⟩))
      all_goals go_wp2
      all_goals go_roundw
      all_goals first
        | (simp [intOf]; omega)
        | (have hlo2 : W.heap.size ≤ w2.heap.size := Nat.le_trans HBW.out.size HB2.out.size
           have hb12 := HBW.out.trans (HB2.out.mono HBW.out.size)
           have ho2 := HOW.out.below HB2.out (Nat.le_refl _)
           exact ⟨k + 1, by omega, by go_num, Lib.hid (Own.pushed hown3 (by rw [HER.out, HEI.out])), Lib.hid (by first | exact grown_below1 hb12 hlo2 ho2 hgrow | exact grown_below2 hb12 hlo2 ho2 hgrow)⟩)
    · have : k = n := by omega
      subst this
      go_wp2
      go_ret
      exact ⟨_, rfl, HOW.out.wider HBX.out.size (Nat.le_refl _), below_next HBX.out HBW.out⟩
end Go.Proofs.Ytbmbgailhiepbaa
