/- The program's SideLevel returns what the reference's SideLevel returns, and leaves its slice alone, for every slice of float32 values and every int64. No condition. -/
import Derived.Test.YtjihbkhmkepohaaHarF
import Derived.Test.YtjihbkhmkepohaaHarE
import Derived.Test.YtjihbkhmkepohaaOpen
import Derived.Test.YtjihbkhmkepohaaSideW
namespace Go.Proofs.Ytjihbkhmkepohaa
open Go.RowKit

set_option maxHeartbeats 1000000 in
theorem FnExactSideLevel_walk (ad : Option Addr) (n cap : Nat) (a : Int) (ha0 : -9223372036854775808 ≤ a) (ha1 : a ≤ 9223372036854775807) (f : Nat → Nat) (w : World) (hr : Rd w ad n (fun j => .float .f32 (f j))) (hn : n ≤ 9223372036854775807) :
    Calls Try.prog 7 #[.slice ad n cap, .int .i64 a] w fun e w' => e = .returned (.bool true) ∧ Below w.heap.size w w' := by
  have HR := Lib.hid hr
  clear hr
  by_cases hbig : (1048576 : Int) < n
  · go_enter Try.func7, Try.ntmps7
    go_wp2_with fail
    go_ret
    exact ⟨rfl, Below.refl _ _⟩
  · have hn2 : n ≤ 1048576 := by omega
    have hle : (n : Int) ≤ 1048576 := by omega
    by_cases hok : (1 : Int) ≤ n ∧ (n : Int) ≤ 129 ∧ 0 ≤ a ∧ a < (n : Int)
    · obtain ⟨hk1, hk2, hk3, hk4⟩ := hok
      obtain ⟨at0, rfl⟩ : ∃ k : Nat, a = k := ⟨a.toNat, by omega⟩
      have HL := Lib.hid (show lowEnd (mainDown f) at0 ≤ upEnd (mainUp f) n at0 from Nat.le_trans (lowEnd_le _ _) (le_upEnd _ _ _))
      have HU := Lib.hid (show upEnd (mainUp f) n at0 < n from upEnd_lt _ _ _ (by omega))
      go_enter Try.func7, Try.ntmps7
      go_wp2_with fail
      refine (toF_any ad n cap f _ HR.out hn2).mono ?_
      rintro e w1 ⟨v1, rfl, ho1, hb1⟩
      obtain ⟨ad1, cap1, rfl, hr1⟩ := ho1.rd
      have HB1 := Lib.hid hb1
      have HR1 := Lib.hid hr1
      clear hb1 ho1 hr1
      go_wp2_with fail
      refine (specSideLevel_yes ad1 n cap1 at0 _ _ f _ HR1.out hk1 hk2 hk4 rfl rfl HL.out HU.out).mono ?_
      rintro e w' ⟨rfl, m1, rfl⟩
      go_wp2_with fail
      refine (toF_any ad n cap f _ ?_ hn2).mono ?_
      · exact HR.out.below (below_drewN HB1.out _)
      rintro e w2 ⟨v2, rfl, ho2, hb2⟩
      obtain ⟨ad2, cap2, rfl, hr2⟩ := ho2.rd
      have HB2 := Lib.hid ((below_drewN HB1.out _).trans (hb2.mono (below_drewN HB1.out _).size))
      have HR2 := Lib.hid hr2
      clear hb2 ho2 hr2
      go_wp2_with fail
      refine (implSideLevel_yes ad2 n cap2 at0 _ _ f _ HR2.out hk1 hk2 hk4 rfl rfl HL.out HU.out).mono ?_
      rintro e w' ⟨rfl, m2, rfl⟩
      have hcv := fun u : World => run_widen (P := Try.prog) 23 28 (by rw [Try.underlying23]; rfl) Try.underlying28 (sideV f (sideTo f (lowEnd (mainDown f) at0) (upEnd (mainUp f) n at0) n)) u
      go_wp2_with fail
      refine (sameFloat_any _ _ _ (by rw [wb_cf, wb_cf])).mono ?_
      rintro e w' ⟨rfl, rfl⟩
      clear hcv
      go_wp2_with fail
      refine (toF_any ad n cap f _ ?_ hn2).mono ?_
      · exact HR.out.below (below_drewN HB2.out _)
      rintro e w3 ⟨v3, rfl, ho3, hb3⟩
      obtain ⟨ad3, cap3, rfl, hr3⟩ := ho3.rd
      have HB3 := Lib.hid ((below_drewN HB2.out _).trans (hb3.mono (below_drewN HB2.out _).size))
      have HR3 := Lib.hid hr3
      have HR2' := Lib.hid (Rd.below (HR2.out.drewN _) hb3)
      clear hb3 ho3 hr3
      go_wp2_with fail
      refine (eqF_any ad2 ad3 n cap2 cap3 f f w3 HR2'.out HR3.out hn2 (fun _ _ => rfl)).mono ?_
      rintro e w' ⟨rfl, m3, rfl⟩
      go_wp2_with fail
      go_ret
      exact ⟨rfl, below_drewN HB3.out _⟩
    · have HO := Lib.hid (show ¬ (1 ≤ n ∧ n ≤ 129 ∧ 0 ≤ a ∧ a < n) by omega)
      clear hok
      go_enter Try.func7, Try.ntmps7
      go_wp2_with fail
      refine (toF_any ad n cap f _ HR.out hn2).mono ?_
      rintro e w1 ⟨v1, rfl, ho1, hb1⟩
      obtain ⟨ad1, cap1, rfl, hr1⟩ := ho1.rd
      have HB1 := Lib.hid hb1
      have HR1 := Lib.hid hr1
      clear hb1 ho1 hr1
      go_wp2_with fail
      refine (specSideLevel_no ad1 n cap1 a _ hn2 ha0 ha1 HO.out).mono ?_
      rintro e w' ⟨rfl, m1, rfl⟩
      go_wp2_with fail
      refine (toF_any ad n cap f _ ?_ hn2).mono ?_
      · exact HR.out.below (below_drewN HB1.out _)
      rintro e w2 ⟨v2, rfl, ho2, hb2⟩
      obtain ⟨ad2, cap2, rfl, hr2⟩ := ho2.rd
      have HB2 := Lib.hid ((below_drewN HB1.out _).trans (hb2.mono (below_drewN HB1.out _).size))
      have HR2 := Lib.hid hr2
      clear hb2 ho2 hr2
      go_wp2_with fail
      refine (implSideLevel_no ad2 n cap2 a _ hn2 ha0 ha1 HO.out).mono ?_
      rintro e w' ⟨rfl, m2, rfl⟩
      have hcv := fun u : World => run_widen (P := Try.prog) 23 28 (by rw [Try.underlying23]; rfl) Try.underlying28 (0) u
      go_wp2_with fail
      refine (sameFloat_any _ _ _ (by rw [wb_cf, wb_cf])).mono ?_
      rintro e w' ⟨rfl, rfl⟩
      clear hcv
      go_wp2_with fail
      refine (toF_any ad n cap f _ ?_ hn2).mono ?_
      · exact HR.out.below (below_drewN HB2.out _)
      rintro e w3 ⟨v3, rfl, ho3, hb3⟩
      obtain ⟨ad3, cap3, rfl, hr3⟩ := ho3.rd
      have HB3 := Lib.hid ((below_drewN HB2.out _).trans (hb3.mono (below_drewN HB2.out _).size))
      have HR3 := Lib.hid hr3
      have HR2' := Lib.hid (Rd.below (HR2.out.drewN _) hb3)
      clear hb3 ho3 hr3
      go_wp2_with fail
      refine (eqF_any ad2 ad3 n cap2 cap3 f f w3 HR2'.out HR3.out hn2 (fun _ _ => rfl)).mono ?_
      rintro e w' ⟨rfl, m3, rfl⟩
      go_wp2_with fail
      go_ret
      exact ⟨rfl, below_drewN HB3.out _⟩

namespace fnExactSideLevel
open Go.ChangeShapes Go.WideShapes Go.ChangeAt Go.RowKit

set_option maxRecDepth 100000 in
theorem lifted (os : Os) (started : os.Started) (H : Type) (enc : TypeId × Value → H) :
    ReturnsInHanded {} Try.checked os 7 .any (Rows.fnExactSideLevelSpec.pre6 enc Try.prog Try.f7 Rows.fnExactSideLevelRow.domain false) (Rows.fnExactSideLevelSpec.post enc Try.prog Try.f7 false true false false) := by
  refine returnsInHanded_of_change (C := Try.checked) own started (by kernel_rfl) Try.func7
    (ChangeSpec.witness6 (enc := enc) (C := Try.checked) false ⟨#[], #[.slice none 0 0, .int .i64 0], []⟩ 8 (by kernel_rfl) (by kernel_rfl) (by kernel_rfl) (by kernel_rfl)) ?_
  intro W base args ds gs before hval0 hW hcnd _
  have hval : ∀ (j : Nat) t v, Try.f7.params[j]? = some t → args[j]? = some v → Value.okWide Try.prog W .any base t v := hval0
  have hW' := hW
  obtain ⟨p, q, hA0, hV, rfl, hfz, hnd⟩ := hW
  have hA : DataW.TrodAll enc Try.prog W 0 (fun _ => true) true Try.f7.params.toList args.toList ds p := hA0
  rw [Try.params7] at hA hval
  obtain ⟨v0, vs0, d0, ds0, p0, q0, hargs, rfl, rfl, h0, r0⟩ := trodAll_cons hA
  obtain ⟨v1, vs1, d1, ds1, p1, q1, rfl, rfl, rfl, h1, r1⟩ := trodAll_cons r0
  obtain ⟨rfl, rfl, rfl⟩ := trodAll_nil r1
  obtain rfl : args = #[v0, v1] := by cases args; simp_all
  obtain ⟨rfl, rfl⟩ := trodVars_none hV
  obtain ⟨a, rfl, rfl, rfl, wa⟩ := open_int Try.underlying2 (hval 1 2 v1 rfl rfl) h1
  have ha : -9223372036854775808 ≤ a ∧ a ≤ 9223372036854775807 := by simpa [Lit.wf, IntKind.min, IntKind.max, IntKind.signed, IntKind.bits] using wa
  obtain ⟨a0, len, cap, rfl⟩ := okWide_slice Try.underlying22 (hval 0 22 v0 rfl rfl)
  obtain ⟨f, hr, hm⟩ := open_f32s Try.underlying22 Try.underlying23 (by kernel_rfl) h0
  unfold maxLen at hm
  clear hA0 hval0
  simp only [List.append_nil] at hW'
  have hlt : ∀ x ∈ p0, x.block < W.heap.size := fun x hx => by simpa using hW'.lt x (by simp [hx])
  have hkeep : ∀ (W' : World), Below W.heap.size W W' → DataW.Trod enc Try.prog W' 0 (fun b => decide (b < W.heap.size)) true 22 (.slice a0 len cap) d0 p0 :=
    fun W' hn => Below.trod laidOut (by kernel_rfl) (of_decide_eq_true (by kernel_rfl)) h0 hn hlt
  refine (FnExactSideLevel_walk a0 len cap a ha.1 ha.2 f W hr (by omega)).mono fun e W' ⟨he, hb⟩ => ?_
  subst he
  exact ⟨_, rfl, [d0, .lit (.int .i64 a)], [], _, [], p0 ++ ([] ++ []), [], by simpa using hW', trodAll_cons_mk (shut_bool Try.underlying4 _) trodAll_mk0, trodAll_cons_mk (hkeep _ hb) (trodAll_cons_mk (shut_int Try.underlying2 wa) trodAll_mk0), rfl, hb.frame _, fun h => by cases h⟩

theorem over : Rows.fnExactSideLevelRow.holds Try.pinned (OpenSpec.ofChange Rows.fnExactSideLevelSpec) :=
  OpenClaim.holds_of_wide 7 Try.f7 rfl rfl rfl rfl rfl rfl rfl ⟨rfl, rfl, rfl, rfl, rfl⟩ rfl rfl rfl rfl rfl (by kernel_rfl) Try.func7 (by kernel_rfl)
    (of_decide_eq_true (by kernel_rfl)) (by unfold Func.isWrapper; first | (rw [if_pos (by decide +kernel)]; kernel_rfl) | (rw [if_neg (by decide +kernel)]; exact ⟨rfl, rfl⟩))
    (fun os started H enc _ => lifted os started H enc)

theorem proved : Rows.FnExactSideLevelSaid :=
  over
#print axioms proved
end fnExactSideLevel
end Go.Proofs.Ytjihbkhmkepohaa
