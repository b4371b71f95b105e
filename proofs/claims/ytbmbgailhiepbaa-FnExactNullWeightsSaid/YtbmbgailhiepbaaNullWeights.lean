/- The program's NullWeights returns what the reference's NullWeights returns, leaves its slice alone and hands back new memory, for all arguments; no condition. -/
import Derived.Test.YtbmbgailhiepbaaNulX
import Derived.Test.YtbmbgailhiepbaaHarJ
import Derived.Test.YtbmbgailhiepbaaHarCE
import Derived.Test.YtbmbgailhiepbaaHarCM
import Derived.Test.YtbmbgailhiepbaaOpen
namespace Go.Proofs.Ytbmbgailhiepbaa
open Go.RowKit

set_option maxHeartbeats 4000000 in
theorem FnExactNullWeights_walk (s : Int) (ad : Option Addr) (n cap : Nat) (u : Nat → Int) (w : World) (hr : Rd w ad n (fun j => .int .i64 (u j))) (hn : n ≤ 9223372036854775807) :
    Calls Try.prog 6 #[.int .i64 s, .slice ad n cap] w fun e w' => e = .returned (.bool true) ∧ Below w.heap.size w w' := by
  have HR := Lib.hid hr
  clear hr
  by_cases hbig : (1048576 : Int) < n
  · go_enter Try.func6, Try.ntmps6
    go_wp2_with fail
    go_ret
    exact ⟨rfl, Below.refl _ _⟩
  · have hn2 : n ≤ 1048576 := by omega
    have hle : (n : Int) ≤ 1048576 := by omega
    have hlen := nwLen_le s u n
    have HB0 := Lib.hid (Below.refl w.heap.size w)
    go_enter Try.func6, Try.ntmps6
    go_wp2_with fail
    refine (toI_any ad n cap u _ (by have := HR.out.below HB0.out; exact this) hn2).mono ?_
    rintro e w1 ⟨v1, rfl, ho1, hb01⟩
    have hb1 : Below w.heap.size w w1 := by first | exact hb01 | exact below_undrew hb01
    have HB1 := Lib.hid (below_next HB0.out hb1)
    obtain ⟨ada, capa, rfl, _⟩ := ho1.rd
    have HLoa := Lib.hid (show w.heap.size ≤ w.heap.size from HB0.out.size)
    have HLa1 := Lib.hid (Live.mk' (by exact ho1))
    clear ho1 hb01 hb1
    go_wp2_with fail
    refine (nullS s ada n capa u _ (by have := Own.rd2 HLa1.out.1; exact this) hn2).mono ?_
    rintro e w2 ⟨v2, rfl, ho2, hb02⟩
    have hb2 : Below w1.heap.size w1 w2 := by first | exact hb02 | exact below_undrew hb02
    have HB2 := Lib.hid (below_next HB1.out hb2)
    have HDaw := Lib.hid (HLa1.out.2)
    have HLa2 := Lib.hid (Live.below HLa1.out hb2)
    obtain ⟨adw, capw, rfl, _⟩ := ho2.rd
    have HLow := Lib.hid (show w.heap.size ≤ w1.heap.size from HB1.out.size)
    have HLw2 := Lib.hid (Live.mk' (by exact ho2))
    clear ho2 hb02 hb2
    go_wp2_with fail
    refine (toI_any ad n cap u _ (by have := HR.out.below HB2.out; exact this) hn2).mono ?_
    rintro e w3 ⟨v3, rfl, ho3, hb03⟩
    have hb3 : Below w2.heap.size w2 w3 := by first | exact hb03 | exact below_undrew hb03
    have HB3 := Lib.hid (below_next HB2.out hb3)
    have HDax := Lib.hid (HLa2.out.2)
    have HLa3 := Lib.hid (Live.below HLa2.out hb3)
    have HDwx := Lib.hid (HLw2.out.2)
    have HLw3 := Lib.hid (Live.below HLw2.out hb3)
    obtain ⟨adx, capx, rfl, _⟩ := ho3.rd
    have HLox := Lib.hid (show w.heap.size ≤ w2.heap.size from HB2.out.size)
    have HLx3 := Lib.hid (Live.mk' (by exact ho3))
    clear ho3 hb03 hb3
    go_wp2_with fail
    refine (nullI s adx n capx u _ (by have := Own.rd2 HLx3.out.1; exact this) hn2).mono ?_
    rintro e w4 ⟨v4, rfl, ho4, hb04⟩
    have hb4 : Below w3.heap.size w3 w4 := by first | exact hb04 | exact below_undrew hb04
    have HB4 := Lib.hid (below_next HB3.out hb4)
    have HDag := Lib.hid (HLa3.out.2)
    have HLa4 := Lib.hid (Live.below HLa3.out hb4)
    have HDwg := Lib.hid (HLw3.out.2)
    have HLw4 := Lib.hid (Live.below HLw3.out hb4)
    have HDxg := Lib.hid (HLx3.out.2)
    have HLx4 := Lib.hid (Live.below HLx3.out hb4)
    obtain ⟨adg, capg, rfl, _⟩ := ho4.rd
    have HLog := Lib.hid (show w.heap.size ≤ w3.heap.size from HB3.out.size)
    have HLg4 := Lib.hid (Live.mk' (by exact ho4))
    clear ho4 hb04 hb4
    go_wp2_with fail
    refine (eqC_any adg adw (nwLen s u n) capg capw (fun j => (nwC s u n j).1) (fun j => (nwC s u n j).2) (fun j => (nwC s u n j).1) (fun j => (nwC s u n j).2) _ (by have := Own.rd2 HLg4.out.1; exact this) (by have := Own.rd2 HLw4.out.1; exact this) (by omega) (fun _ _ => rfl) (fun _ _ => rfl)).mono ?_
    rintro e w' ⟨rfl, m5, rfl⟩
    go_wp2_with fail
    refine (toI_any ad n cap u _ (by have := HR.out.below HB4.out; exact this) hn2).mono ?_
    rintro e w6 ⟨v6, rfl, ho6, hb06⟩
    have hb6 : Below w4.heap.size w4 w6 := by first | exact hb06 | exact below_undrew hb06
    have HB6 := Lib.hid (below_next HB4.out hb6)
    have HDay := Lib.hid (HLa4.out.2)
    have HLa6 := Lib.hid (Live.below HLa4.out hb6)
    have HDwy := Lib.hid (HLw4.out.2)
    have HLw6 := Lib.hid (Live.below HLw4.out hb6)
    have HDxy := Lib.hid (HLx4.out.2)
    have HLx6 := Lib.hid (Live.below HLx4.out hb6)
    have HDgy := Lib.hid (HLg4.out.2)
    have HLg6 := Lib.hid (Live.below HLg4.out hb6)
    obtain ⟨ady, capy, rfl, _⟩ := ho6.rd
    have HLoy := Lib.hid (show w.heap.size ≤ w4.heap.size from HB4.out.size)
    have HLy6 := Lib.hid (Live.mk' (by exact ho6))
    clear ho6 hb06 hb6
    go_wp2_with fail
    refine (eqI_any adx ady n capx capy u _ (by have := Own.rd2 HLx6.out.1; exact this) (by have := Own.rd2 HLy6.out.1; exact this) (by omega)).mono ?_
    rintro e w' ⟨rfl, m7, rfl⟩
    go_wp2_with fail
    refine (markI_any (.slice adx n capx) n _ 1 _ w2.heap.size w3.heap.size (by have := HLx6.out.1; exact this) (by omega) (by omega) (by omega)).mono ?_
    rintro e w8 ⟨rfl, ho8, hk08⟩
    have hk8 : Kept w6 w8 w2.heap.size w3.heap.size := by first | exact hk08 | exact kept_undrew hk08
    have HB8 := Lib.hid (below_kept HB6.out hk8 HLox.out)
    have HLa8 := Lib.hid (Live.kept HLa6.out hk8 (.inl HDax.out))
    have HLw8 := Lib.hid (Live.kept HLw6.out hk8 (.inl HDwx.out))
    have HLx8 := Lib.hid (Live.marked HLx6.out hk8 ho8)
    have HLg8 := Lib.hid (Live.kept HLg6.out hk8 (.inr HDxg.out))
    have HLy8 := Lib.hid (Live.kept HLy6.out hk8 (.inr HDxy.out))
    clear ho8 hk08 hk8
    go_wp2_with fail
    refine (eqC_any adg adw (nwLen s u n) capg capw (fun j => (nwC s u n j).1) (fun j => (nwC s u n j).2) (fun j => (nwC s u n j).1) (fun j => (nwC s u n j).2) _ (by have := Own.rd2 HLg8.out.1; exact this) (by have := Own.rd2 HLw8.out.1; exact this) (by omega) (fun _ _ => rfl) (fun _ _ => rfl)).mono ?_
    rintro e w' ⟨rfl, m9, rfl⟩
    go_wp2_with fail
    refine (markC_any (.slice adg (nwLen s u n) capg) (nwLen s u n) _ 1 _ w3.heap.size w4.heap.size (by have := HLg8.out.1; exact this) (by omega) (by omega) (by omega)).mono ?_
    rintro e w10 ⟨rfl, ho10, hk010⟩
    have hk10 : Kept w8 w10 w3.heap.size w4.heap.size := by first | exact hk010 | exact kept_undrew hk010
    have HB10 := Lib.hid (below_kept HB8.out hk10 HLog.out)
    have HLa10 := Lib.hid (Live.kept HLa8.out hk10 (.inl HDag.out))
    have HLw10 := Lib.hid (Live.kept HLw8.out hk10 (.inl HDwg.out))
    have HLx10 := Lib.hid (Live.kept HLx8.out hk10 (.inl HDxg.out))
    have HLg10 := Lib.hid (Live.marked HLg8.out hk10 ho10)
    have HLy10 := Lib.hid (Live.kept HLy8.out hk10 (.inr HDgy.out))
    clear ho10 hk010 hk10
    go_wp2_with fail
    refine (heldC_any (.slice adg (nwLen s u n) capg) (nwLen s u n) 1 _ w3.heap.size w4.heap.size (by have := HLg10.out.1; exact this) (by omega) (by omega) (by omega)).mono ?_
    rintro e w' ⟨rfl, m11, rfl⟩
    go_wp2_with fail
    refine (toI_any ad n cap u _ (by have := HR.out.below HB10.out; exact this) hn2).mono ?_
    rintro e w12 ⟨v12, rfl, ho12, hb012⟩
    have hb12 : Below w10.heap.size w10 w12 := by first | exact hb012 | exact below_undrew hb012
    have HB12 := Lib.hid (below_next HB10.out hb12)
    have HDaz := Lib.hid (HLa10.out.2)
    have HLa12 := Lib.hid (Live.below HLa10.out hb12)
    have HDwz := Lib.hid (HLw10.out.2)
    have HLw12 := Lib.hid (Live.below HLw10.out hb12)
    have HDxz := Lib.hid (HLx10.out.2)
    have HLx12 := Lib.hid (Live.below HLx10.out hb12)
    have HDgz := Lib.hid (HLg10.out.2)
    have HLg12 := Lib.hid (Live.below HLg10.out hb12)
    have HDyz := Lib.hid (HLy10.out.2)
    have HLy12 := Lib.hid (Live.below HLy10.out hb12)
    obtain ⟨adz, capz, rfl, _⟩ := ho12.rd
    have HLoz := Lib.hid (show w.heap.size ≤ w10.heap.size from HB10.out.size)
    have HLz12 := Lib.hid (Live.mk' (by exact ho12))
    clear ho12 hb012 hb12
    go_wp2_with fail
    refine (nullI s adz n capz u _ (by have := Own.rd2 HLz12.out.1; exact this) hn2).mono ?_
    rintro e w13 ⟨v13, rfl, ho13, hb013⟩
    have hb13 : Below w12.heap.size w12 w13 := by first | exact hb013 | exact below_undrew hb013
    have HB13 := Lib.hid (below_next HB12.out hb13)
    have HDah := Lib.hid (HLa12.out.2)
    have HLa13 := Lib.hid (Live.below HLa12.out hb13)
    have HDwh := Lib.hid (HLw12.out.2)
    have HLw13 := Lib.hid (Live.below HLw12.out hb13)
    have HDxh := Lib.hid (HLx12.out.2)
    have HLx13 := Lib.hid (Live.below HLx12.out hb13)
    have HDgh := Lib.hid (HLg12.out.2)
    have HLg13 := Lib.hid (Live.below HLg12.out hb13)
    have HDyh := Lib.hid (HLy12.out.2)
    have HLy13 := Lib.hid (Live.below HLy12.out hb13)
    have HDzh := Lib.hid (HLz12.out.2)
    have HLz13 := Lib.hid (Live.below HLz12.out hb13)
    obtain ⟨adh, caph, rfl, _⟩ := ho13.rd
    have HLoh := Lib.hid (show w.heap.size ≤ w12.heap.size from HB12.out.size)
    have HLh13 := Lib.hid (Live.mk' (by exact ho13))
    clear ho13 hb013 hb13
    go_wp2_with fail
    refine (eqC_any adh adw (nwLen s u n) caph capw (fun j => (nwC s u n j).1) (fun j => (nwC s u n j).2) (fun j => (nwC s u n j).1) (fun j => (nwC s u n j).2) _ (by have := Own.rd2 HLh13.out.1; exact this) (by have := Own.rd2 HLw13.out.1; exact this) (by omega) (fun _ _ => rfl) (fun _ _ => rfl)).mono ?_
    rintro e w' ⟨rfl, m14, rfl⟩
    go_wp2_with fail
    refine (heldC_any (.slice adg (nwLen s u n) capg) (nwLen s u n) 1 _ w3.heap.size w4.heap.size (by have := HLg13.out.1; exact this) (by omega) (by omega) (by omega)).mono ?_
    rintro e w' ⟨rfl, m15, rfl⟩
    go_wp2_with fail
    go_ret
    exact ⟨rfl, by first | exact HB13.out | exact below_drewN HB13.out _⟩

namespace fnExactNullWeights
open Go.ChangeShapes Go.WideShapes Go.ChangeAt Go.RowKit

set_option maxRecDepth 100000 in
theorem lifted (os : Os) (started : os.Started) (H : Type) (enc : TypeId × Value → H) :
    ReturnsInHanded {} Try.checked os 6 .any (Rows.fnExactNullWeightsSpec.pre6 enc Try.prog Try.f6 Rows.fnExactNullWeightsRow.domain false) (Rows.fnExactNullWeightsSpec.post enc Try.prog Try.f6 false true false false) := by
  refine returnsInHanded_of_change (C := Try.checked) own started (by kernel_rfl) Try.func6
    (ChangeSpec.witness6 (enc := enc) (C := Try.checked) false ⟨#[], #[.int .i64 0, .slice none 0 0], []⟩ 8 (by kernel_rfl) (by kernel_rfl) (by kernel_rfl) (by kernel_rfl)) ?_
  intro W base args ds gs before hval0 hW hcnd _
  have hval : ∀ (j : Nat) t v, Try.f6.params[j]? = some t → args[j]? = some v → Value.okWide Try.prog W .any base t v := hval0
  have hW' := hW
  obtain ⟨p, q, hA0, hV, rfl, hfz, hnd⟩ := hW
  have hA : DataW.TrodAll enc Try.prog W 0 (fun _ => true) true Try.f6.params.toList args.toList ds p := hA0
  rw [Try.params6] at hA hval
  obtain ⟨v0, vs0, d0, ds0, p0, q0, hargs, rfl, rfl, h0, r0⟩ := trodAll_cons hA
  obtain ⟨v1, vs1, d1, ds1, p1, q1, rfl, rfl, rfl, h1, r1⟩ := trodAll_cons r0
  obtain ⟨rfl, rfl, rfl⟩ := trodAll_nil r1
  obtain rfl : args = #[v0, v1] := by cases args; simp_all
  obtain ⟨rfl, rfl⟩ := trodVars_none hV
  obtain ⟨a, rfl, rfl, rfl, wa⟩ := open_int Try.underlying2 (hval 0 2 v0 rfl rfl) h0
  obtain ⟨a0, len, cap, rfl⟩ := okWide_slice Try.underlying36 (hval 1 36 v1 rfl rfl)
  obtain ⟨f, hr, hm, _⟩ := open_i64s Try.underlying36 Try.underlying2 (by kernel_rfl) h1
  unfold maxLen at hm
  clear hA0 hval0
  simp only [List.append_nil] at hW'
  have hlt : ∀ x ∈ p1, x.block < W.heap.size := fun x hx => by simpa using hW'.lt x (by simp [hx])
  have hkeep : ∀ (W' : World), Below W.heap.size W W' → DataW.Trod enc Try.prog W' 0 (fun b => decide (b < W.heap.size)) true 36 (.slice a0 len cap) d1 p1 :=
    fun W' hn => Below.trod laidOut (by kernel_rfl) (of_decide_eq_true (by kernel_rfl)) h1 hn hlt
  refine (FnExactNullWeights_walk a a0 len cap f W hr (by omega)).mono fun e W' ⟨he, hb⟩ => ?_
  subst he
  exact ⟨_, rfl, [.lit (.int .i64 a), d1], [], _, [], [] ++ (p1 ++ []), [], by simpa using hW', trodAll_cons_mk (shut_bool Try.underlying4 _) trodAll_mk0, trodAll_cons_mk (shut_int Try.underlying2 wa) (trodAll_cons_mk (hkeep _ hb) trodAll_mk0), rfl, hb.frame _, fun h => by cases h⟩

theorem over : Rows.fnExactNullWeightsRow.holds Try.pinned (OpenSpec.ofChange Rows.fnExactNullWeightsSpec) :=
  OpenClaim.holds_of_wide 6 Try.f6 rfl rfl rfl rfl rfl rfl rfl ⟨rfl, rfl, rfl, rfl, rfl⟩ rfl rfl rfl rfl rfl (by kernel_rfl) Try.func6 (by kernel_rfl)
    (of_decide_eq_true (by kernel_rfl)) (by unfold Func.isWrapper; first | (rw [if_pos (by decide +kernel)]; kernel_rfl) | (rw [if_neg (by decide +kernel)]; exact ⟨rfl, rfl⟩))
    (fun os started H enc _ => lifted os started H enc)

theorem proved : Rows.FnExactNullWeightsSaid :=
  over
#print axioms proved
end fnExactNullWeights
end Go.Proofs.Ytbmbgailhiepbaa
