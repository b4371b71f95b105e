/- The program's TaperOf returns what the reference's TaperOf returns, for all int64 arguments; no condition. -/
import Derived.Test.YtbmbgailhiepbaaTapA
import Derived.Test.YtbmbgailhiepbaaHarE
import Derived.Test.YtbmbgailhiepbaaHarMF
import Derived.Test.YtbmbgailhiepbaaHarHF
import Derived.WalkKit
import Derived.ProofKit
import Derived.OpenShut
namespace Go.Proofs.Ytbmbgailhiepbaa.fnExactTaperOf
open Go.ChangeShapes Go.WideShapes Go.ChangeAt Go.RowKit Go.Proofs.Ytbmbgailhiepbaa
set_option linter.unusedVariables false

theorem own : ownKnob Try.prog.godebug = none := by kernel_rfl

set_option maxHeartbeats 4000000 in
theorem walk (k c : Int) (b : Bool) (n : Nat) (hb : tapOk k c = b) (hn : tapLen k c = n) (hn16 : n ≤ 16) (w : World) :
    Calls Try.prog 5 #[.int .i64 k, .int .i64 c] w fun e w' => e = .returned (.bool true) ∧ Below w.heap.size w w' := by
  cases b with
  | true =>
    have HB0 := Lib.hid (Below.refl w.heap.size w)
    go_enter Try.func5, Try.ntmps5
    go_wp2_with fail
    refine (taperOfS k c true n hb hn _).mono ?_
    rintro e w1 ⟨v1, rfl, ho1, hb01⟩
    have hb1 : Below w.heap.size w w1 := by first | exact hb01 | exact below_undrew hb01
    have HB1 := Lib.hid (below_next HB0.out hb1)
    obtain ⟨ada, capa, rfl, _⟩ := ho1.rd
    have HLoa := Lib.hid (show w.heap.size ≤ w.heap.size from HB0.out.size)
    have HLa1 := Lib.hid (Live.mk' (by exact ho1))
    clear ho1 hb01 hb1
    go_wp2_with fail
    refine (taperOfI k c true n hb hn _).mono ?_
    rintro e w2 ⟨v2, rfl, ho2, hb02⟩
    have hb2 : Below w1.heap.size w1 w2 := by first | exact hb02 | exact below_undrew hb02
    have HB2 := Lib.hid (below_next HB1.out hb2)
    have HDag := Lib.hid (HLa1.out.2)
    have HLa2 := Lib.hid (Live.below HLa1.out hb2)
    obtain ⟨adg, capg, rfl, _⟩ := ho2.rd
    have HLog := Lib.hid (show w.heap.size ≤ w1.heap.size from HB1.out.size)
    have HLg2 := Lib.hid (Live.mk' (by exact ho2))
    clear ho2 hb02 hb2
    go_wp2_with fail
    refine (eqF_any adg ada n capg capa (fun j => el k n j) (fun j => el k n j) _ (by have := Own.rd2 HLg2.out.1; exact this) (by have := Own.rd2 HLa2.out.1; exact this) (by omega) (fun _ _ => rfl)).mono ?_
    rintro e w' ⟨rfl, m3, rfl⟩
    go_wp2_with fail
    refine (markF_any (.slice adg n capg) n _ 1 _ w1.heap.size w2.heap.size (by have := HLg2.out.1; exact this) (by omega) (by omega) (by omega)).mono ?_
    rintro e w4 ⟨rfl, ho4, hk04⟩
    have hk4 : Kept w2 w4 w1.heap.size w2.heap.size := by first | exact hk04 | exact kept_undrew hk04
    have HB4 := Lib.hid (below_kept HB2.out hk4 HLog.out)
    have HLa4 := Lib.hid (Live.kept HLa2.out hk4 (.inl HDag.out))
    have HLg4 := Lib.hid (Live.marked HLg2.out hk4 ho4)
    clear ho4 hk04 hk4
    go_wp2_with fail
    refine (heldF_any (.slice adg n capg) n 1 _ w1.heap.size w2.heap.size (by have := HLg4.out.1; exact this) (by omega) (by omega) (by omega)).mono ?_
    rintro e w' ⟨rfl, m5, rfl⟩
    go_wp2_with fail
    refine (taperOfI k c true n hb hn _).mono ?_
    rintro e w6 ⟨v6, rfl, ho6, hb06⟩
    have hb6 : Below w4.heap.size w4 w6 := by first | exact hb06 | exact below_undrew hb06
    have HB6 := Lib.hid (below_next HB4.out hb6)
    have HDah := Lib.hid (HLa4.out.2)
    have HLa6 := Lib.hid (Live.below HLa4.out hb6)
    have HDgh := Lib.hid (HLg4.out.2)
    have HLg6 := Lib.hid (Live.below HLg4.out hb6)
    obtain ⟨adh, caph, rfl, _⟩ := ho6.rd
    have HLoh := Lib.hid (show w.heap.size ≤ w4.heap.size from HB4.out.size)
    have HLh6 := Lib.hid (Live.mk' (by exact ho6))
    clear ho6 hb06 hb6
    go_wp2_with fail
    refine (eqF_any adh ada n caph capa (fun j => el k n j) (fun j => el k n j) _ (by have := Own.rd2 HLh6.out.1; exact this) (by have := Own.rd2 HLa6.out.1; exact this) (by omega) (fun _ _ => rfl)).mono ?_
    rintro e w' ⟨rfl, m7, rfl⟩
    go_wp2_with fail
    refine (heldF_any (.slice adg n capg) n 1 _ w1.heap.size w2.heap.size (by have := HLg6.out.1; exact this) (by omega) (by omega) (by omega)).mono ?_
    rintro e w' ⟨rfl, m8, rfl⟩
    go_wp2_with fail
    go_ret
    exact ⟨rfl, by first | exact HB6.out | exact below_drewN HB6.out _⟩
  | false =>
    have HB0 := Lib.hid (Below.refl w.heap.size w)
    go_enter Try.func5, Try.ntmps5
    go_wp2_with fail
    refine (taperOfS k c false n hb hn _).mono ?_
    rintro e w1 ⟨v1, rfl, ho1, hb01⟩
    have hb1 : Below w.heap.size w w1 := by first | exact hb01 | exact below_undrew hb01
    have HB1 := Lib.hid (below_next HB0.out hb1)
    obtain ⟨ada, capa, rfl, _⟩ := ho1.rd
    have HLoa := Lib.hid (show w.heap.size ≤ w.heap.size from HB0.out.size)
    have HLa1 := Lib.hid (Live.mk' (by exact ho1))
    clear ho1 hb01 hb1
    go_wp2_with fail
    refine (taperOfI k c false n hb hn _).mono ?_
    rintro e w2 ⟨v2, rfl, ho2, hb02⟩
    have hb2 : Below w1.heap.size w1 w2 := by first | exact hb02 | exact below_undrew hb02
    have HB2 := Lib.hid (below_next HB1.out hb2)
    have HDag := Lib.hid (HLa1.out.2)
    have HLa2 := Lib.hid (Live.below HLa1.out hb2)
    obtain ⟨adg, capg, rfl, _⟩ := ho2.rd
    have HLog := Lib.hid (show w.heap.size ≤ w1.heap.size from HB1.out.size)
    have HLg2 := Lib.hid (Live.mk' (by exact ho2))
    clear ho2 hb02 hb2
    go_wp2_with fail
    refine (eqF_any adg ada n capg capa (fun j => el k n j) (fun j => el k n j) _ (by have := Own.rd2 HLg2.out.1; exact this) (by have := Own.rd2 HLa2.out.1; exact this) (by omega) (fun _ _ => rfl)).mono ?_
    rintro e w' ⟨rfl, m3, rfl⟩
    go_wp2_with fail
    refine (markF_any (.slice adg n capg) n _ 1 _ w1.heap.size w2.heap.size (by have := HLg2.out.1; exact this) (by omega) (by omega) (by omega)).mono ?_
    rintro e w4 ⟨rfl, ho4, hk04⟩
    have hk4 : Kept w2 w4 w1.heap.size w2.heap.size := by first | exact hk04 | exact kept_undrew hk04
    have HB4 := Lib.hid (below_kept HB2.out hk4 HLog.out)
    have HLa4 := Lib.hid (Live.kept HLa2.out hk4 (.inl HDag.out))
    have HLg4 := Lib.hid (Live.marked HLg2.out hk4 ho4)
    clear ho4 hk04 hk4
    go_wp2_with fail
    refine (heldF_any (.slice adg n capg) n 1 _ w1.heap.size w2.heap.size (by have := HLg4.out.1; exact this) (by omega) (by omega) (by omega)).mono ?_
    rintro e w' ⟨rfl, m5, rfl⟩
    go_wp2_with fail
    refine (taperOfI k c false n hb hn _).mono ?_
    rintro e w6 ⟨v6, rfl, ho6, hb06⟩
    have hb6 : Below w4.heap.size w4 w6 := by first | exact hb06 | exact below_undrew hb06
    have HB6 := Lib.hid (below_next HB4.out hb6)
    have HDah := Lib.hid (HLa4.out.2)
    have HLa6 := Lib.hid (Live.below HLa4.out hb6)
    have HDgh := Lib.hid (HLg4.out.2)
    have HLg6 := Lib.hid (Live.below HLg4.out hb6)
    obtain ⟨adh, caph, rfl, _⟩ := ho6.rd
    have HLoh := Lib.hid (show w.heap.size ≤ w4.heap.size from HB4.out.size)
    have HLh6 := Lib.hid (Live.mk' (by exact ho6))
    clear ho6 hb06 hb6
    go_wp2_with fail
    refine (eqF_any adh ada n caph capa (fun j => el k n j) (fun j => el k n j) _ (by have := Own.rd2 HLh6.out.1; exact this) (by have := Own.rd2 HLa6.out.1; exact this) (by omega) (fun _ _ => rfl)).mono ?_
    rintro e w' ⟨rfl, m7, rfl⟩
    go_wp2_with fail
    refine (heldF_any (.slice adg n capg) n 1 _ w1.heap.size w2.heap.size (by have := HLg6.out.1; exact this) (by omega) (by omega) (by omega)).mono ?_
    rintro e w' ⟨rfl, m8, rfl⟩
    go_wp2_with fail
    go_ret
    exact ⟨rfl, by first | exact HB6.out | exact below_drewN HB6.out _⟩

theorem walk' (k c : Int) (w : World) :
    Calls Try.prog 5 #[.int .i64 k, .int .i64 c] w fun e w' => e = .returned (.bool true) ∧ Below w.heap.size w w' := by
  refine walk k c _ _ rfl rfl ?_ w
  unfold tapLen
  split
  · rename_i h
    have := of_decide_eq_true h
    omega
  · omega

set_option maxRecDepth 100000 in
theorem lifted (os : Os) (started : os.Started) (H : Type) (enc : TypeId × Value → H) :
    ReturnsInHanded {} Try.checked os 5 .any (Rows.fnExactTaperOfSpec.pre6 enc Try.prog Try.f5 Rows.fnExactTaperOfRow.domain false) (Rows.fnExactTaperOfSpec.post enc Try.prog Try.f5 false true false false) := by
  refine returnsInHanded_of_change (C := Try.checked) own started (by kernel_rfl) Try.func5
    (ChangeSpec.witness6 (enc := enc) (C := Try.checked) false ⟨#[], #[.int .i64 0, .int .i64 0], []⟩ 8 (by kernel_rfl) (by kernel_rfl) (by kernel_rfl) (by kernel_rfl)) ?_
  intro W base args ds gs before hval0 hW hcnd _
  have hval : ∀ (j : Nat) t v, Try.f5.params[j]? = some t → args[j]? = some v → Value.okWide Try.prog W .any base t v := hval0
  have hW' := hW
  obtain ⟨p, q, hA0, hV, rfl, hfz, hnd⟩ := hW
  have hA : DataW.TrodAll enc Try.prog W 0 (fun _ => true) true Try.f5.params.toList args.toList ds p := hA0
  rw [Try.params5] at hA hval
  obtain ⟨v0, vs0, d0, ds0, p0, q0, hargs, rfl, rfl, h0, r0⟩ := trodAll_cons hA
  obtain ⟨v1, vs1, d1, ds1, p1, q1, rfl, rfl, rfl, h1, r1⟩ := trodAll_cons r0
  obtain ⟨rfl, rfl, rfl⟩ := trodAll_nil r1
  obtain rfl : args = #[v0, v1] := by cases args; simp_all
  obtain ⟨rfl, rfl⟩ := trodVars_none hV
  obtain ⟨a0, rfl, rfl, rfl, w0⟩ := open_int Try.underlying2 (hval 0 2 v0 rfl rfl) h0
  obtain ⟨a1, rfl, rfl, rfl, w1⟩ := open_int Try.underlying2 (hval 1 2 v1 rfl rfl) h1
  clear hA0 hval0
  simp only [List.append_nil] at hW'
  refine (walk' a0 a1 W).mono fun e W' ⟨he, hb⟩ => ?_
  subst he
  exact ⟨_, rfl, [.lit (.int .i64 a0), .lit (.int .i64 a1)], [], _, [], [] ++ ([] ++ []), [], by simpa using hW', trodAll_cons_mk (shut_bool Try.underlying4 _) trodAll_mk0, trodAll_cons_mk (shut_int Try.underlying2 w0) (trodAll_cons_mk (shut_int Try.underlying2 w1) trodAll_mk0), rfl, hb.frame _, fun h => by cases h⟩

theorem over : Rows.fnExactTaperOfRow.holds Try.pinned (OpenSpec.ofChange Rows.fnExactTaperOfSpec) :=
  OpenClaim.holds_of_wide 5 Try.f5 rfl rfl rfl rfl rfl rfl rfl ⟨rfl, rfl, rfl, rfl, rfl⟩ rfl rfl rfl rfl rfl (by kernel_rfl) Try.func5 (by kernel_rfl)
    (of_decide_eq_true (by kernel_rfl)) (by unfold Func.isWrapper; first | (rw [if_pos (by decide +kernel)]; kernel_rfl) | (rw [if_neg (by decide +kernel)]; exact ⟨rfl, rfl⟩))
    (fun os started H enc _ => lifted os started H enc)

/-- ████ THE STATEMENT ████ -/
theorem proved : Rows.FnExactTaperOfSaid :=
  over
#print axioms proved
end Go.Proofs.Ytbmbgailhiepbaa.fnExactTaperOf
