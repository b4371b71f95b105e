/- The program's MeanPower returns what the reference's MeanPower returns, and leaves its slice alone, for every slice of float32 values. No condition. -/
import Derived.Test.YtjihbkhmkepohaaHarF
import Derived.Test.YtjihbkhmkepohaaHarE
import Derived.Test.YtjihbkhmkepohaaOpen
import Derived.Test.YtjihbkhmkepohaaMeanW
namespace Go.Proofs.Ytjihbkhmkepohaa
open Go.RowKit

set_option maxHeartbeats 1000000 in
theorem FnExactMeanPower_walk (ad : Option Addr) (n cap : Nat) (f : Nat → Nat) (w : World) (hr : Rd w ad n (fun j => .float .f32 (f j))) (hn : n ≤ 9223372036854775807) :
    Calls Try.prog 3 #[.slice ad n cap] w fun e w' => e = .returned (.bool true) ∧ Below w.heap.size w w' := by
  have HR := Lib.hid hr
  clear hr
  by_cases hbig : (1048576 : Int) < n
  · go_enter Try.func3, Try.ntmps3
    go_wp2_with fail
    go_ret
    exact ⟨rfl, Below.refl _ _⟩
  · have hn2 : n ≤ 1048576 := by omega
    have hle : (n : Int) ≤ 1048576 := by omega
    by_cases hok : mpOk n = true
    · have HM := Lib.hid hok
      clear hok
      go_enter Try.func3, Try.ntmps3
      go_wp2_with fail
      refine (toF_any ad n cap f _ HR.out hn2).mono ?_
      rintro e w1 ⟨v1, rfl, ho1, hb1⟩
      obtain ⟨ad1, cap1, rfl, hr1⟩ := ho1.rd
      have HB1 := Lib.hid hb1
      have HR1 := Lib.hid hr1
      clear hb1 ho1 hr1
      go_wp2_with fail
      refine (meanS_b ad1 n cap1 f _ HR1.out hn2 true HM.out).mono ?_
      rintro e w' ⟨x1, rfl, ⟨m1, rfl⟩, hc1⟩
      go_wp2_with fail
      refine (toF_any ad n cap f _ ?_ hn2).mono ?_
      · exact HR.out.below (below_drewN HB1.out _)
      rintro e w2 ⟨v2, rfl, ho2, hb2⟩
      obtain ⟨ad2, cap2, rfl, hr2⟩ := ho2.rd
      have HB2 := Lib.hid ((below_drewN HB1.out _).trans (hb2.mono (below_drewN HB1.out _).size))
      have HR2 := Lib.hid hr2
      clear hb2 ho2 hr2
      go_wp2_with fail
      refine (meanI_b ad2 n cap2 f _ HR2.out hn2 true HM.out).mono ?_
      rintro e w' ⟨x2, rfl, ⟨m2, rfl⟩, hc2⟩
      have hcv1 := fun u : World => run_widen (P := Try.prog) 23 28 (by rw [Try.underlying23]; rfl) Try.underlying28 x1 u
      have hcv2 := fun u : World => run_widen (P := Try.prog) 23 28 (by rw [Try.underlying23]; rfl) Try.underlying28 x2 u
      go_wp2_with fail
      refine (sameFloat_any _ _ _ (by rw [wb_cf, wb_cf, hc1, hc2])).mono ?_
      rintro e w' ⟨rfl, rfl⟩
      clear hcv1 hcv2
      go_wp2_with fail
      refine (toF_any ad n cap f _ ?_ hn2).mono ?_
      · exact HR.out.below (below_drewN HB2.out _)
      rintro e w3 ⟨v3, rfl, ho3, hb3⟩
      obtain ⟨ad3, cap3, rfl, hr3⟩ := ho3.rd
      have HB3 := Lib.hid ((below_drewN HB2.out _).trans (hb3.mono (below_drewN HB2.out _).size))
      have HR3 := Lib.hid hr3
      have HR2' := Lib.hid (Rd.below (HR2.out.drewN _) hb3)
      clear hb3 ho3 hr3
      go_wp2_with fail
      refine (eqF_any ad2 ad3 n cap2 cap3 f f w3 HR2'.out HR3.out hn2 (fun _ _ => rfl)).mono ?_
      rintro e w' ⟨rfl, m3, rfl⟩
      go_wp2_with fail
      go_ret
      exact ⟨rfl, below_drewN HB3.out _⟩
    · have HM := Lib.hid (show mpOk n = false by simpa using hok)
      clear hok
      go_enter Try.func3, Try.ntmps3
      go_wp2_with fail
      refine (toF_any ad n cap f _ HR.out hn2).mono ?_
      rintro e w1 ⟨v1, rfl, ho1, hb1⟩
      obtain ⟨ad1, cap1, rfl, hr1⟩ := ho1.rd
      have HB1 := Lib.hid hb1
      have HR1 := Lib.hid hr1
      clear hb1 ho1 hr1
      go_wp2_with fail
      refine (meanS_b ad1 n cap1 f _ HR1.out hn2 false HM.out).mono ?_
      rintro e w' ⟨x1, rfl, ⟨m1, rfl⟩, hc1⟩
      go_wp2_with fail
      refine (toF_any ad n cap f _ ?_ hn2).mono ?_
      · exact HR.out.below (below_drewN HB1.out _)
      rintro e w2 ⟨v2, rfl, ho2, hb2⟩
      obtain ⟨ad2, cap2, rfl, hr2⟩ := ho2.rd
      have HB2 := Lib.hid ((below_drewN HB1.out _).trans (hb2.mono (below_drewN HB1.out _).size))
      have HR2 := Lib.hid hr2
      clear hb2 ho2 hr2
      go_wp2_with fail
      refine (meanI_b ad2 n cap2 f _ HR2.out hn2 false HM.out).mono ?_
      rintro e w' ⟨x2, rfl, ⟨m2, rfl⟩, hc2⟩
      have hcv1 := fun u : World => run_widen (P := Try.prog) 23 28 (by rw [Try.underlying23]; rfl) Try.underlying28 x1 u
      have hcv2 := fun u : World => run_widen (P := Try.prog) 23 28 (by rw [Try.underlying23]; rfl) Try.underlying28 x2 u
      go_wp2_with fail
      refine (sameFloat_any _ _ _ (by rw [wb_cf, wb_cf, hc1, hc2])).mono ?_
      rintro e w' ⟨rfl, rfl⟩
      clear hcv1 hcv2
      go_wp2_with fail
      refine (toF_any ad n cap f _ ?_ hn2).mono ?_
      · exact HR.out.below (below_drewN HB2.out _)
      rintro e w3 ⟨v3, rfl, ho3, hb3⟩
      obtain ⟨ad3, cap3, rfl, hr3⟩ := ho3.rd
      have HB3 := Lib.hid ((below_drewN HB2.out _).trans (hb3.mono (below_drewN HB2.out _).size))
      have HR3 := Lib.hid hr3
      have HR2' := Lib.hid (Rd.below (HR2.out.drewN _) hb3)
      clear hb3 ho3 hr3
      go_wp2_with fail
      refine (eqF_any ad2 ad3 n cap2 cap3 f f w3 HR2'.out HR3.out hn2 (fun _ _ => rfl)).mono ?_
      rintro e w' ⟨rfl, m3, rfl⟩
      go_wp2_with fail
      go_ret
      exact ⟨rfl, below_drewN HB3.out _⟩

namespace fnExactMeanPower
open Go.ChangeShapes Go.WideShapes Go.ChangeAt Go.RowKit

set_option maxRecDepth 100000 in
theorem lifted (os : Os) (started : os.Started) (H : Type) (enc : TypeId × Value → H) :
    ReturnsInHanded {} Try.checked os 3 .any (Rows.fnExactMeanPowerSpec.pre6 enc Try.prog Try.f3 Rows.fnExactMeanPowerRow.domain false) (Rows.fnExactMeanPowerSpec.post enc Try.prog Try.f3 false true false false) := by
  refine returnsInHanded_of_change (C := Try.checked) own started (by kernel_rfl) Try.func3
    (ChangeSpec.witness6 (enc := enc) (C := Try.checked) false ⟨#[], #[.slice none 0 0], []⟩ 8 (by kernel_rfl) (by kernel_rfl) (by kernel_rfl) (by kernel_rfl)) ?_
  intro W base args ds gs before hval0 hW hcnd _
  have hval : ∀ (j : Nat) t v, Try.f3.params[j]? = some t → args[j]? = some v → Value.okWide Try.prog W .any base t v := hval0
  have hW' := hW
  obtain ⟨p, q, hA0, hV, rfl, hfz, hnd⟩ := hW
  have hA : DataW.TrodAll enc Try.prog W 0 (fun _ => true) true Try.f3.params.toList args.toList ds p := hA0
  rw [Try.params3] at hA hval
  obtain ⟨v0, vs0, d0, ds0, p0, q0, hargs, rfl, rfl, h0, r0⟩ := trodAll_cons hA
  obtain ⟨rfl, rfl, rfl⟩ := trodAll_nil r0
  obtain rfl : args = #[v0] := by cases args; simp_all
  obtain ⟨rfl, rfl⟩ := trodVars_none hV
  obtain ⟨a0, len, cap, rfl⟩ := okWide_slice Try.underlying22 (hval 0 22 v0 rfl rfl)
  obtain ⟨f, hr, hm⟩ := open_f32s Try.underlying22 Try.underlying23 (by kernel_rfl) h0
  unfold maxLen at hm
  clear hA0 hval0
  simp only [List.append_nil] at hW'
  have hlt : ∀ x ∈ p0, x.block < W.heap.size := fun x hx => by simpa using hW'.lt x (by simp [hx])
  have hkeep : ∀ (W' : World), Below W.heap.size W W' → DataW.Trod enc Try.prog W' 0 (fun b => decide (b < W.heap.size)) true 22 (.slice a0 len cap) d0 p0 :=
    fun W' hn => Below.trod laidOut (by kernel_rfl) (of_decide_eq_true (by kernel_rfl)) h0 hn hlt
  refine (FnExactMeanPower_walk a0 len cap f W hr (by omega)).mono fun e W' ⟨he, hb⟩ => ?_
  subst he
  exact ⟨_, rfl, [d0], [], _, [], p0 ++ [], [], by simpa using hW', trodAll_cons_mk (shut_bool Try.underlying4 _) trodAll_mk0, trodAll_cons_mk (hkeep _ hb) trodAll_mk0, rfl, hb.frame _, fun h => by cases h⟩

theorem over : Rows.fnExactMeanPowerRow.holds Try.pinned (OpenSpec.ofChange Rows.fnExactMeanPowerSpec) :=
  OpenClaim.holds_of_wide 3 Try.f3 rfl rfl rfl rfl rfl rfl rfl ⟨rfl, rfl, rfl, rfl, rfl⟩ rfl rfl rfl rfl rfl (by kernel_rfl) Try.func3 (by kernel_rfl)
    (of_decide_eq_true (by kernel_rfl)) (by unfold Func.isWrapper; first | (rw [if_pos (by decide +kernel)]; kernel_rfl) | (rw [if_neg (by decide +kernel)]; exact ⟨rfl, rfl⟩))
    (fun os started H enc _ => lifted os started H enc)

theorem proved : Rows.FnExactMeanPowerSaid :=
  over
#print axioms proved
end fnExactMeanPower
end Go.Proofs.Ytjihbkhmkepohaa
