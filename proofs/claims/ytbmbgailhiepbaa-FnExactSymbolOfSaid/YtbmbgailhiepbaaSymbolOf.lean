/- The program's SymbolOf returns what the reference's SymbolOf returns, for all int64 arguments; no condition. -/
import Derived.Test.YtbmbgailhiepbaaDraw
import Derived.Test.YtbmbgailhiepbaaHarC
import Derived.WalkKit
import Derived.ProofKit
import Derived.OpenShut
import Derived.Deep.RegionWith
namespace Go.Proofs.Ytbmbgailhiepbaa.fnExactSymbolOf
open Go.ChangeShapes Go.WideShapes Go.ChangeAt Go.RowKit Go.Proofs.Ytbmbgailhiepbaa
set_option linter.unusedVariables false

theorem own : ownKnob Try.prog.godebug = none := by kernel_rfl

/-- The numbers that a symbol is made of, in 64 bits. -/
def wd (b : Nat) : Nat := if b = 3204448256 then 13826050856027422720 else if b = 1056964608 then 4602678819172646912 else 0

theorem wb_hf (b : Nat) (hb : b = 3204448256 ∨ b = 1056964608 ∨ b = 0) (w : World) : wb b w = wd b ∧ wn b = 0 := by
  unfold wb wn
  have h : floatToFloatBits .f32 b .f64 = some (wd b) := by
    rcases hb with rfl | rfl | rfl <;> decide +kernel
  rw [h]
  exact ⟨rfl, rfl⟩

theorem hf_is (k : Int) : hf k = 3204448256 ∨ hf k = 1056964608 ∨ hf k = 0 := by
  unfold hf
  split
  · exact .inl rfl
  · exact .inr (.inl rfl)

theorem wide2 (a b : Nat) (ha : a = 3204448256 ∨ a = 1056964608 ∨ a = 0) (hb : b = 3204448256 ∨ b = 1056964608 ∨ b = 0) (u : World) :
    (convert 23 27 (.complex .f32 a b)).run Try.prog u = .ok (.complex .f64 (wd a) (wd b)) u := by
  rw [run_cwiden 23 27 (by rw [Try.underlying23]; rfl) Try.underlying27 a b u]
  rw [(wb_hf a ha u).1, (wb_hf a ha u).2, (wb_hf b hb _).1, (wb_hf b hb u).2]
  rfl

set_option maxHeartbeats 1000000 in
theorem walk (a0 a1 : Int) (w0 : (Lit.int .i64 a0).wf = true) (w1 : (Lit.int .i64 a1).wf = true) (w : World) :
    Calls Try.prog 4 #[.int .i64 a0, .int .i64 a1] w fun e w' => e = .returned (.bool true) ∧ Grown w w' := by
  by_cases h : 0 ≤ a0 ∧ a0 ≤ 2147483647 ∧ 0 ≤ a1 ∧ a1 ≤ 1000000
  · have e1 : symOf a0 a1 = .tuple #[.complex .f32 (hf (dr a0 (2 * a1) / 16384)) (hf (dr a0 (2 * a1) / 8192)), .bool true] := symOf_yes h
    have cv := fun u => wide2 _ _ (hf_is (dr a0 (2 * a1) / 16384)) (hf_is (dr a0 (2 * a1) / 8192)) u
    have cS := fun u => symbolOfS a0 a1 u
    have cI := fun u => symbolOfI a0 a1 u
    rw [e1] at cS cI
    clear e1 h w0 w1
    generalize hf (dr a0 (2 * a1) / 16384) = x at cS cI cv
    generalize hf (dr a0 (2 * a1) / 8192) = y at cS cI cv
    go_enter Try.func4, Try.ntmps4
    go_wp2_with (first | (go_at_call 11; refine (cS _).mono ?_; rintro e w' ⟨rfl, rfl⟩) | (go_at_call 12; refine (cI _).mono ?_; rintro e w' ⟨rfl, rfl⟩) | (go_at_call 10; refine (sameComplex_any _ _ _ _ _ rfl rfl).mono ?_; rintro e w' ⟨rfl, rfl⟩))
    all_goals go_ret
    all_goals exact ⟨rfl, by repeat (first | exact Grown.refl _ | apply Grown.drew | apply Grown.alloc)⟩
  · have e1 : symOf a0 a1 = .tuple #[.complex .f32 0 0, .bool false] := symOf_no h
    have cv := fun u => wide2 0 0 (.inr (.inr rfl)) (.inr (.inr rfl)) u
    have cS := fun u => symbolOfS a0 a1 u
    have cI := fun u => symbolOfI a0 a1 u
    rw [e1] at cS cI
    clear e1 h w0 w1
    go_enter Try.func4, Try.ntmps4
    go_wp2_with (first | (go_at_call 11; refine (cS _).mono ?_; rintro e w' ⟨rfl, rfl⟩) | (go_at_call 12; refine (cI _).mono ?_; rintro e w' ⟨rfl, rfl⟩) | (go_at_call 10; refine (sameComplex_any _ _ _ _ _ rfl rfl).mono ?_; rintro e w' ⟨rfl, rfl⟩))
    all_goals go_ret
    all_goals exact ⟨rfl, by repeat (first | exact Grown.refl _ | apply Grown.drew | apply Grown.alloc)⟩

set_option maxRecDepth 100000 in
theorem lifted (os : Os) (started : os.Started) (H : Type) (enc : TypeId × Value → H) :
    ReturnsInHanded {} Try.checked os 4 .any (Rows.fnExactSymbolOfSpec.pre6 enc Try.prog Try.f4 Rows.fnExactSymbolOfRow.domain false) (Rows.fnExactSymbolOfSpec.post enc Try.prog Try.f4 false true false false) := by
  refine returnsInHanded_of_change (C := Try.checked) own started (by kernel_rfl) Try.func4
    (ChangeSpec.witness6 (enc := enc) (C := Try.checked) false ⟨#[], #[.int .i64 0, .int .i64 0], []⟩ 8 (by kernel_rfl) (by kernel_rfl) (by kernel_rfl) (by kernel_rfl)) ?_
  intro W base args ds gs before hval0 hW hcnd _
  have hval : ∀ (j : Nat) t v, Try.f4.params[j]? = some t → args[j]? = some v → Value.okWide Try.prog W .any base t v := hval0
  have hW' := hW
  obtain ⟨p, q, hA0, hV, rfl, hfz, hnd⟩ := hW
  have hA : DataW.TrodAll enc Try.prog W 0 (fun _ => true) true Try.f4.params.toList args.toList ds p := hA0
  rw [Try.params4] at hA hval
  obtain ⟨v0, vs0, d0, ds0, p0, q0, hargs, rfl, rfl, h0, r0⟩ := trodAll_cons hA
  obtain ⟨v1, vs1, d1, ds1, p1, q1, rfl, rfl, rfl, h1, r1⟩ := trodAll_cons r0
  obtain ⟨rfl, rfl, rfl⟩ := trodAll_nil r1
  obtain rfl : args = #[v0, v1] := by cases args; simp_all
  obtain ⟨rfl, rfl⟩ := trodVars_none hV
  obtain ⟨a0, rfl, rfl, rfl, w0⟩ := open_int Try.underlying2 (hval 0 2 v0 rfl rfl) h0
  obtain ⟨a1, rfl, rfl, rfl, w1⟩ := open_int Try.underlying2 (hval 1 2 v1 rfl rfl) h1
  clear hA0 hval0
  simp only [List.append_nil] at hW'
  refine (walk a0 a1 w0 w1 W).mono fun e W' ⟨he, hg⟩ => ?_
  subst he
  exact ⟨_, rfl, post_of_same (pa := []) (pv := []) hW' (fun _ _ _ => (trodAll_cons_mk (shut_bool Try.underlying4 _) trodAll_mk0)) (fun sp _ => (trodAll_cons_mk (shut_int Try.underlying2 w0) (trodAll_cons_mk (shut_int Try.underlying2 w1) trodAll_mk0))) (fun _ _ => rfl) rfl
    (hg.frame _) hg.2.1 (ok_one (by kernel_rfl) rfl (okWide_bool_mk Try.underlying4 _))⟩

theorem over : Rows.fnExactSymbolOfRow.holds Try.pinned (OpenSpec.ofChange Rows.fnExactSymbolOfSpec) :=
  OpenClaim.holds_of_wide 4 Try.f4 rfl rfl rfl rfl rfl rfl rfl ⟨rfl, rfl, rfl, rfl, rfl⟩ rfl rfl rfl rfl rfl (by kernel_rfl) Try.func4 (by kernel_rfl)
    (of_decide_eq_true (by kernel_rfl)) (by unfold Func.isWrapper; first | (rw [if_pos (by decide +kernel)]; kernel_rfl) | (rw [if_neg (by decide +kernel)]; exact ⟨rfl, rfl⟩))
    (fun os started H enc _ => lifted os started H enc)

/-- ████ THE STATEMENT ████ -/
theorem proved : Rows.FnExactSymbolOfSaid :=
  over
#print axioms proved
end Go.Proofs.Ytbmbgailhiepbaa.fnExactSymbolOf
