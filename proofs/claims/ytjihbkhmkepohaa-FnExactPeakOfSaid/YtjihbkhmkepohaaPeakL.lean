/- The law FnExactPeakOf, walked. -/
import Derived.Test.YtjihbkhmkepohaaHarF
import Derived.Test.YtjihbkhmkepohaaHarE
import Derived.Test.YtjihbkhmkepohaaPeakW
namespace Go.Proofs.Ytjihbkhmkepohaa
open Go.RowKit

set_option maxHeartbeats 1000000 in
theorem lawPeakOf_walk (ad : Option Addr) (n cap : Nat) (f : Nat → Nat) (w : World) (hr : Rd w ad n (fun j => .float .f32 (f j))) (hn : n ≤ 9223372036854775807) :
    Calls Try.prog 4 #[.slice ad n cap] w fun e w' => e = .returned (.bool true) ∧ Below w.heap.size w w' := by
  have HR := Lib.hid hr
  clear hr
  by_cases hbig : (1048576 : Int) < n
  · go_enter Try.func4, Try.ntmps4
    go_wp2_with fail
    go_ret
    exact ⟨rfl, Below.refl _ _⟩
  · have hn2 : n ≤ 1048576 := by omega
    have hle : (n : Int) ≤ 1048576 := by omega
    go_enter Try.func4, Try.ntmps4
    go_wp2_with fail
    refine (toF_any ad n cap f _ HR.out hn2).mono ?_
    rintro e w1 ⟨v1, rfl, ho1, hb1⟩
    obtain ⟨ad1, cap1, rfl, hr1⟩ := ho1.rd
    have HB1 := Lib.hid hb1
    clear hb1 ho1
    go_wp2_with fail
    refine (specPeakOf_any ad1 n cap1 f w1 hr1 hn2).mono ?_
    rintro e w' ⟨rfl, m1, rfl⟩
    clear hr1
    go_wp2_with fail
    refine (toF_any ad n cap f _ (HR.out.below (below_drewN HB1.out m1)) hn2).mono ?_
    rintro e w2 ⟨v2, rfl, ho2, hb2⟩
    obtain ⟨ad2, cap2, rfl, hr2⟩ := ho2.rd
    have HB2 := Lib.hid ((below_drewN HB1.out m1).trans (hb2.mono (below_drewN HB1.out m1).size))
    have HR2 := Lib.hid hr2
    clear hb2 ho2 hr2
    go_wp2_with fail
    refine (implPeakOf_any ad2 n cap2 f w2 HR2.out hn2).mono ?_
    rintro e w' ⟨rfl, m2, rfl⟩
    go_wp2_with fail
    refine (toF_any ad n cap f _ (HR.out.below (below_drewN HB2.out m2)) hn2).mono ?_
    rintro e w3 ⟨v3, rfl, ho3, hb3⟩
    obtain ⟨ad3, cap3, rfl, hr3⟩ := ho3.rd
    have HB3 := Lib.hid ((below_drewN HB2.out m2).trans (hb3.mono (below_drewN HB2.out m2).size))
    have HR3 := Lib.hid hr3
    have HR2' := Lib.hid (Rd.below (HR2.out.drewN m2) hb3)
    clear hb3 ho3 hr3
    go_wp2_with fail
    refine (eqF_any ad2 ad3 n cap2 cap3 f f w3 HR2'.out HR3.out hn2 (fun _ _ => rfl)).mono ?_
    rintro e w' ⟨rfl, m3, rfl⟩
    go_wp2_with fail
    go_ret
    exact ⟨rfl, below_drewN HB3.out m3⟩
end Go.Proofs.Ytjihbkhmkepohaa
