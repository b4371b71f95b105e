/- The program's UnitMatrix returns what the reference's UnitMatrix returns and hands back new memory, for all int64 arguments; no condition. -/
import Derived.Test.YtjhpibbhlacigaaUniS
import Derived.WalkKit
import Derived.ProofKit
import Derived.OpenShut
namespace Go.Proofs.Ytjhpibbhlacigaa.fnExactUnitMatrix
open Go.ChangeShapes Go.WideShapes Go.ChangeAt Go.RowKit Go.Proofs.Ytjhpibbhlacigaa
set_option linter.unusedVariables false

theorem own : ownKnob Try.prog.godebug = none := by kernel_rfl

/-- A variable of one cell. -/
def Cel (w : World) (b : Nat) (v : Value) : Prop := w.heap[b]? = some (.cells #[v] 24 (0, 0))
theorem Cel.cell {w : World} {b : Nat} {v : Value} (h : Cel w b v) : w.cell? ⟨b, 0, none⟩ = some v := (cell_of_row _ _ 0 _ _ (0, 0) h).trans rfl
theorem Cel.lt {w : World} {b : Nat} {v : Value} (h : Cel w b v) : b < w.heap.size := (Array.getElem?_eq_some_iff.1 h).1
theorem Cel.below {w w' : World} {b : Nat} {v : Value} (h : Cel w b v) (hb : Below w.heap.size w w') : Cel w' b v := (hb.block b h.lt).trans h
theorem Cel.kept {w w' : World} {b lo hi : Nat} {v : Value} (h : Cel w b v) (hk : Kept w w' lo hi) (hd : b < lo ∨ hi ≤ b) : Cel w' b v := (hk.block b h.lt hd).trans h
theorem Cel.new (w : World) (v : Value) : Cel (w.alloc (.cells #[v] 24)) w.heap.size v := heap_alloc_new w _

set_option maxRecDepth 100000 in
set_option maxHeartbeats 4000000 in
theorem walk (c : Int) (b : Bool) (n : Nat) (hb : uOk c = b) (hn : uLen c = n) (hn8 : n ≤ 8) (w : World) :
    Calls Try.prog 3 #[.int .i64 c] w fun e w' => e = .returned (.bool true) ∧ Below w.heap.size w w' := by
  have cS := fun u => unitMatS c u
  have cI := fun u => unitMatI c u
  rw [hb, hn] at cS cI
  have HN := Lib.hid hn8
  have hp0 : ¬ (1 + ((n * n : Nat) : Int)) < 0 := by omega
  generalize hp : 1 + ((n * n : Nat) : Int) = p at hp0
  have HP := Lib.hid hp
  clear hb hn hp hn8
  cases b with
  | true =>
    go_enter Try.func3, Try.ntmps3
    go_wp2_with fail
    refine (cS _).mono ?_
    rintro e w1 ⟨va, rfl, hm1, hb1⟩
    obtain ⟨ada, capa, rfl⟩ := hm1.slice
    have HA1 := Lib.hid hm1
    have HB1 := Lib.hid hb1
    clear hm1 hb1
    go_wp2_with fail
    refine (cI _).mono ?_
    rintro e w2 ⟨vg, rfl, hm2, hb2⟩
    obtain ⟨adg, capg, rfl⟩ := hm2.slice
    have HW2 := Lib.hid ((Cel.new w1 (.slice ada n capa)).below hb2)
    have HA2 := Lib.hid ((HA1.out.below (below_alloc w1 _) (Nat.le_refl _)).below hb2 (by simp))
    have HG2 := Lib.hid hm2
    have HB2 := Lib.hid (below_next (below_next HB1.out (below_alloc w1 _)) hb2)
    have hs2 : w1.heap.size + 1 ≤ w2.heap.size := by have := hb2.size; simp at this; omega
    clear hm2 hb2
    have HW2' := Lib.hid (HW2.out.below (below_alloc w2 (.cells #[.slice adg n capg] 24)))
    have hcw2 := HW2'.out.cell
    go_wp2_with fail
    refine (eqMat_any (.slice adg n capg) (.slice ada n capa) n n _ _ _ _ uF uZ uF uZ _ (by exact HG2.out.below (below_alloc w2 _) (Nat.le_refl _)) (by exact HA2.out.below (below_alloc w2 _) (by omega)) (by simp) (by simp; omega) (by have := HN.out; omega) (by have := HN.out; omega) (fun _ _ _ _ => rfl) (fun _ _ _ _ => rfl)).mono ?_
    rintro e w3 ⟨rfl, hb3⟩
    have HW3 := Lib.hid (HW2'.out.below hb3)
    have HV3 := Lib.hid ((Cel.new w2 (.slice adg n capg)).below hb3)
    have HA3 := Lib.hid ((HA2.out.below (below_alloc w2 _) (by omega)).below hb3 (by simp; omega))
    have HG3 := Lib.hid ((HG2.out.below (below_alloc w2 _) (Nat.le_refl _)).below hb3 (by simp))
    have HB3 := Lib.hid (below_next (below_next HB2.out (below_alloc w2 _)) hb3)
    have hs3 : w2.heap.size + 1 ≤ w3.heap.size := by have := hb3.size; simp at this; omega
    have hcg3 := HV3.out.cell
    clear hb3 hcw2
    go_wp2_with fail
    refine (markMat_any (.slice adg n capg) n n _ _ _ 1 _ (by exact HG3.out) (by omega) HN.out HN.out (by omega) (by omega)).mono ?_
    rintro e w4 ⟨he, hm4, hk4⟩
    rw [HP.out] at he
    subst he
    have HW4 := Lib.hid (HW3.out.kept hk4 (.inl (by simp)))
    have HV4 := Lib.hid (HV3.out.kept hk4 (.inr (by simp)))
    have HA4 := Lib.hid (HA3.out.kept hk4 (.inl (by simp)))
    have HG4 := Lib.hid hm4
    have HB4 := Lib.hid (below_kept HB3.out hk4 (by have := HB1.out.size; simp; omega))
    have hs4 : w3.heap.size ≤ w4.heap.size := hk4.size
    have hcg4 := HV4.out.cell
    clear hm4 hk4 hcg3
    go_wp2_with fail
    refine (heldMat_any (.slice adg n capg) n n _ _ 1 _ (by exact HG4.out) (by omega) HN.out HN.out (by omega) (by omega)).mono ?_
    rintro e w5 ⟨he, hb5⟩
    rw [HP.out] at he
    subst he
    have HW5 := Lib.hid (HW4.out.below hb5)
    have HV5 := Lib.hid (HV4.out.below hb5)
    have HA5 := Lib.hid (HA4.out.below hb5 (by omega))
    have HG5 := Lib.hid (HG4.out.below hb5 (by omega))
    have HB5 := Lib.hid (below_next HB4.out hb5)
    have hs5 : w4.heap.size ≤ w5.heap.size := hb5.size
    clear hb5 hcg4
    go_wp2_with fail
    refine (cI _).mono ?_
    rintro e w6 ⟨vh, rfl, hm6, hb6⟩
    obtain ⟨adh, caph, rfl⟩ := hm6.slice
    have HH6 := Lib.hid hm6
    have HW6 := Lib.hid ((HW5.out.below hb6).below (below_alloc w6 (.cells #[.slice adh n caph] 24)))
    have HV6 := Lib.hid ((HV5.out.below hb6).below (below_alloc w6 (.cells #[.slice adh n caph] 24)))
    have HA6 := Lib.hid (HA5.out.below hb6 (by omega))
    have HG6 := Lib.hid (HG5.out.below hb6 (by omega))
    have HB6 := Lib.hid (below_next HB5.out hb6)
    have hs6 : w5.heap.size ≤ w6.heap.size := hb6.size
    have hcw6 := HW6.out.cell
    clear hm6 hb6
    go_wp2_with fail
    refine (eqMat_any (.slice adh n caph) (.slice ada n capa) n n _ _ _ _ uF uZ uF uZ _ (by exact HH6.out.below (below_alloc w6 _) (Nat.le_refl _)) (by exact HA6.out.below (below_alloc w6 _) (by omega)) (by simp) (by simp; omega) (by have := HN.out; omega) (by have := HN.out; omega) (fun _ _ _ _ => rfl) (fun _ _ _ _ => rfl)).mono ?_
    rintro e w7 ⟨rfl, hb7⟩
    have HV7 := Lib.hid (HV6.out.below hb7)
    have HG7 := Lib.hid ((HG6.out.below (below_alloc w6 _) (by omega)).below hb7 (by simp; omega))
    have HB7 := Lib.hid (below_next (below_next HB6.out (below_alloc w6 _)) hb7)
    have hs7 : w6.heap.size + 1 ≤ w7.heap.size := by have := hb7.size; simp at this; omega
    have hcg7 := HV7.out.cell
    clear hb7 hcw6
    go_wp2_with fail
    refine (heldMat_any (.slice adg n capg) n n _ _ 1 _ (by exact HG7.out) (by omega) HN.out HN.out (by omega) (by omega)).mono ?_
    rintro e w8 ⟨he, hb8⟩
    rw [HP.out] at he
    subst he
    have HB8 := Lib.hid (below_next HB7.out hb8)
    clear hb8 hcg7
    go_wp2_with fail
    go_ret
    exact ⟨rfl, HB8.out⟩
  | false =>
    go_enter Try.func3, Try.ntmps3
    go_wp2_with fail
    refine (cS _).mono ?_
    rintro e w1 ⟨va, rfl, hm1, hb1⟩
    obtain ⟨ada, capa, rfl⟩ := hm1.slice
    have HA1 := Lib.hid hm1
    have HB1 := Lib.hid hb1
    clear hm1 hb1
    go_wp2_with fail
    refine (cI _).mono ?_
    rintro e w2 ⟨vg, rfl, hm2, hb2⟩
    obtain ⟨adg, capg, rfl⟩ := hm2.slice
    have HW2 := Lib.hid ((Cel.new w1 (.slice ada n capa)).below hb2)
    have HA2 := Lib.hid ((HA1.out.below (below_alloc w1 _) (Nat.le_refl _)).below hb2 (by simp))
    have HG2 := Lib.hid hm2
    have HB2 := Lib.hid (below_next (below_next HB1.out (below_alloc w1 _)) hb2)
    have hs2 : w1.heap.size + 1 ≤ w2.heap.size := by have := hb2.size; simp at this; omega
    clear hm2 hb2
    have HW2' := Lib.hid (HW2.out.below (below_alloc w2 (.cells #[.slice adg n capg] 24)))
    have hcw2 := HW2'.out.cell
    go_wp2_with fail
    refine (eqMat_any (.slice adg n capg) (.slice ada n capa) n n _ _ _ _ uF uZ uF uZ _ (by exact HG2.out.below (below_alloc w2 _) (Nat.le_refl _)) (by exact HA2.out.below (below_alloc w2 _) (by omega)) (by simp) (by simp; omega) (by have := HN.out; omega) (by have := HN.out; omega) (fun _ _ _ _ => rfl) (fun _ _ _ _ => rfl)).mono ?_
    rintro e w3 ⟨rfl, hb3⟩
    have HW3 := Lib.hid (HW2'.out.below hb3)
    have HV3 := Lib.hid ((Cel.new w2 (.slice adg n capg)).below hb3)
    have HA3 := Lib.hid ((HA2.out.below (below_alloc w2 _) (by omega)).below hb3 (by simp; omega))
    have HG3 := Lib.hid ((HG2.out.below (below_alloc w2 _) (Nat.le_refl _)).below hb3 (by simp))
    have HB3 := Lib.hid (below_next (below_next HB2.out (below_alloc w2 _)) hb3)
    have hs3 : w2.heap.size + 1 ≤ w3.heap.size := by have := hb3.size; simp at this; omega
    have hcg3 := HV3.out.cell
    clear hb3 hcw2
    go_wp2_with fail
    refine (markMat_any (.slice adg n capg) n n _ _ _ 1 _ (by exact HG3.out) (by omega) HN.out HN.out (by omega) (by omega)).mono ?_
    rintro e w4 ⟨he, hm4, hk4⟩
    rw [HP.out] at he
    subst he
    have HW4 := Lib.hid (HW3.out.kept hk4 (.inl (by simp)))
    have HV4 := Lib.hid (HV3.out.kept hk4 (.inr (by simp)))
    have HA4 := Lib.hid (HA3.out.kept hk4 (.inl (by simp)))
    have HG4 := Lib.hid hm4
    have HB4 := Lib.hid (below_kept HB3.out hk4 (by have := HB1.out.size; simp; omega))
    have hs4 : w3.heap.size ≤ w4.heap.size := hk4.size
    have hcg4 := HV4.out.cell
    clear hm4 hk4 hcg3
    go_wp2_with fail
    refine (heldMat_any (.slice adg n capg) n n _ _ 1 _ (by exact HG4.out) (by omega) HN.out HN.out (by omega) (by omega)).mono ?_
    rintro e w5 ⟨he, hb5⟩
    rw [HP.out] at he
    subst he
    have HW5 := Lib.hid (HW4.out.below hb5)
    have HV5 := Lib.hid (HV4.out.below hb5)
    have HA5 := Lib.hid (HA4.out.below hb5 (by omega))
    have HG5 := Lib.hid (HG4.out.below hb5 (by omega))
    have HB5 := Lib.hid (below_next HB4.out hb5)
    have hs5 : w4.heap.size ≤ w5.heap.size := hb5.size
    clear hb5 hcg4
    go_wp2_with fail
    refine (cI _).mono ?_
    rintro e w6 ⟨vh, rfl, hm6, hb6⟩
    obtain ⟨adh, caph, rfl⟩ := hm6.slice
    have HH6 := Lib.hid hm6
    have HW6 := Lib.hid ((HW5.out.below hb6).below (below_alloc w6 (.cells #[.slice adh n caph] 24)))
    have HV6 := Lib.hid ((HV5.out.below hb6).below (below_alloc w6 (.cells #[.slice adh n caph] 24)))
    have HA6 := Lib.hid (HA5.out.below hb6 (by omega))
    have HG6 := Lib.hid (HG5.out.below hb6 (by omega))
    have HB6 := Lib.hid (below_next HB5.out hb6)
    have hs6 : w5.heap.size ≤ w6.heap.size := hb6.size
    have hcw6 := HW6.out.cell
    clear hm6 hb6
    go_wp2_with fail
    refine (eqMat_any (.slice adh n caph) (.slice ada n capa) n n _ _ _ _ uF uZ uF uZ _ (by exact HH6.out.below (below_alloc w6 _) (Nat.le_refl _)) (by exact HA6.out.below (below_alloc w6 _) (by omega)) (by simp) (by simp; omega) (by have := HN.out; omega) (by have := HN.out; omega) (fun _ _ _ _ => rfl) (fun _ _ _ _ => rfl)).mono ?_
    rintro e w7 ⟨rfl, hb7⟩
    have HV7 := Lib.hid (HV6.out.below hb7)
    have HG7 := Lib.hid ((HG6.out.below (below_alloc w6 _) (by omega)).below hb7 (by simp; omega))
    have HB7 := Lib.hid (below_next (below_next HB6.out (below_alloc w6 _)) hb7)
    have hs7 : w6.heap.size + 1 ≤ w7.heap.size := by have := hb7.size; simp at this; omega
    have hcg7 := HV7.out.cell
    clear hb7 hcw6
    go_wp2_with fail
    refine (heldMat_any (.slice adg n capg) n n _ _ 1 _ (by exact HG7.out) (by omega) HN.out HN.out (by omega) (by omega)).mono ?_
    rintro e w8 ⟨he, hb8⟩
    rw [HP.out] at he
    subst he
    have HB8 := Lib.hid (below_next HB7.out hb8)
    clear hb8 hcg7
    go_wp2_with fail
    go_ret
    exact ⟨rfl, HB8.out⟩

theorem walk' (c : Int) (w : World) :
    Calls Try.prog 3 #[.int .i64 c] w fun e w' => e = .returned (.bool true) ∧ Below w.heap.size w w' :=
  walk c _ _ rfl rfl (uLen_le c) w
set_option maxRecDepth 100000 in
theorem lifted (os : Os) (started : os.Started) (H : Type) (enc : TypeId × Value → H) :
    ReturnsInHanded {} Try.checked os 3 .any (Rows.fnExactUnitMatrixSpec.pre6 enc Try.prog Try.f3 Rows.fnExactUnitMatrixRow.domain false) (Rows.fnExactUnitMatrixSpec.post enc Try.prog Try.f3 false true false false) := by
  refine returnsInHanded_of_change (C := Try.checked) own started (by kernel_rfl) Try.func3
    (ChangeSpec.witness6 (enc := enc) (C := Try.checked) false ⟨#[], #[.int .i64 0], []⟩ 8 (by kernel_rfl) (by kernel_rfl) (by kernel_rfl) (by kernel_rfl)) ?_
  intro W base args ds gs before hval0 hW hcnd _
  have hval : ∀ (j : Nat) t v, Try.f3.params[j]? = some t → args[j]? = some v → Value.okWide Try.prog W .any base t v := hval0
  have hW' := hW
  obtain ⟨p, q, hA0, hV, rfl, hfz, hnd⟩ := hW
  have hA : DataW.TrodAll enc Try.prog W 0 (fun _ => true) true Try.f3.params.toList args.toList ds p := hA0
  rw [Try.params3] at hA hval
  obtain ⟨v0, vs0, d0, ds0, p0, q0, hargs, rfl, rfl, h0, r0⟩ := trodAll_cons hA
  obtain ⟨rfl, rfl, rfl⟩ := trodAll_nil r0
  obtain rfl : args = #[v0] := by cases args; simp_all
  obtain ⟨rfl, rfl⟩ := trodVars_none hV
  obtain ⟨a0, rfl, rfl, rfl, w0⟩ := open_int Try.underlying2 (hval 0 2 v0 rfl rfl) h0
  clear hA0 hval0
  simp only [List.append_nil] at hW'
  refine (walk' a0 W).mono fun e W' ⟨he, hb⟩ => ?_
  subst he
  exact ⟨_, rfl, [.lit (.int .i64 a0)], [], _, [], [] ++ [], [], by simpa using hW', trodAll_cons_mk (shut_bool Try.underlying4 _) trodAll_mk0, trodAll_cons_mk (shut_int Try.underlying2 w0) trodAll_mk0, rfl, hb.frame _, fun h => by cases h⟩

theorem over : Rows.fnExactUnitMatrixRow.holds Try.pinned (OpenSpec.ofChange Rows.fnExactUnitMatrixSpec) :=
  OpenClaim.holds_of_wide 3 Try.f3 rfl rfl rfl rfl rfl rfl rfl ⟨rfl, rfl, rfl, rfl, rfl⟩ rfl rfl rfl rfl rfl (by kernel_rfl) Try.func3 (by kernel_rfl)
    (of_decide_eq_true (by kernel_rfl)) (by unfold Func.isWrapper; first | (rw [if_pos (by decide +kernel)]; kernel_rfl) | (rw [if_neg (by decide +kernel)]; exact ⟨rfl, rfl⟩))
    (fun os started H enc _ => lifted os started H enc)

/-- ████ THE STATEMENT ████ -/
theorem proved : Rows.FnExactUnitMatrixSaid :=
  over
#print axioms proved
end Go.Proofs.Ytjhpibbhlacigaa.fnExactUnitMatrix
