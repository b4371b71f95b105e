/- NoiseOf, both, by contracts; the law: the program's NoiseOf returns what the reference's NoiseOf returns. -/
import Derived.Test.YtbmbgailhiepbaaNoise
import Derived.Test.YtbmbgailhiepbaaHarC
import Derived.WalkKit
import Derived.ProofKit
import Derived.OpenShut
import Derived.Deep.RegionWith
namespace Go.Proofs.Ytbmbgailhiepbaa.fnExactNoiseOf
open Go.ChangeShapes Go.WideShapes Go.ChangeAt Go.RowKit Go.Proofs.Ytbmbgailhiepbaa
set_option linter.unusedVariables false

theorem own : ownKnob Try.prog.godebug = none := by kernel_rfl

def ok (s i c : Int) : Bool := decide (0 ≤ s ∧ s ≤ 2147483647 ∧ 0 ≤ i ∧ i ≤ 1000000 ∧ 0 ≤ c ∧ c ≤ 15)
def nA (s i c : Int) (l : Nat) (o : Int) : Ieee.Datum := if ok s i c then mcf .mul .f32 (pn (dr s (2 * (16 * i + c + 1000000) + o))) l else cf .f32 0
theorem nA_yes {s i c : Int} (h : 0 ≤ s ∧ s ≤ 2147483647 ∧ 0 ≤ i ∧ i ≤ 1000000 ∧ 0 ≤ c ∧ c ≤ 15) (l : Nat) : nA s i c l 0 = mcf .mul .f32 (pn (dr s (2 * (16 * i + c + 1000000)))) l ∧ nA s i c l 1 = mcf .mul .f32 (pn (dr s (2 * (16 * i + c + 1000000) + 1))) l ∧ ok s i c = true := by
  have : ok s i c = true := decide_eq_true h
  simp [nA, this]
theorem nA_no {s i c : Int} (h : ¬ (0 ≤ s ∧ s ≤ 2147483647 ∧ 0 ≤ i ∧ i ≤ 1000000 ∧ 0 ≤ c ∧ c ≤ 15)) (l : Nat) : nA s i c l 0 = cf .f32 0 ∧ nA s i c l 1 = cf .f32 0 ∧ ok s i c = false := by
  have : ok s i c = false := decide_eq_false h
  simp [nA, this]

set_option maxHeartbeats 1000000 in
theorem noiseOfS (s i c : Int) (l : Nat) (w : World) :
    Calls Try.prog 8 #[.int .i64 s, .int .i64 i, .int .i64 c, .float .f32 l] w fun e w' => ∃ r im, e = .returned (.tuple #[.complex .f32 r im, .bool (ok s i c)]) ∧ (∃ m, w' = w.drewN m) ∧ cf .f32 r = nA s i c l 0 ∧ cf .f32 im = nA s i c l 1 := by
  by_cases c0 : 0 ≤ s
  · by_cases c1 : s ≤ 2147483647
    · by_cases c2 : 0 ≤ i
      · by_cases c3 : i ≤ 1000000
        · by_cases c4 : 0 ≤ c
          · by_cases c5 : c ≤ 15
            · obtain ⟨hx, hy, hz⟩ := nA_yes ⟨c0, c1, c2, c3, c4, c5⟩ l
              rw [hx, hy, hz]
              clear hx hy hz
              go_enter Try.func8, Try.ntmps8
              go_wp2_with (first | (go_at_call 37; refine (noiseS _ _ _ _ (by omega) (by omega) (by omega) (by omega) (by omega) (by omega) _).mono ?_; rintro e w' ⟨r, im, m, rfl, rfl, hR, hI⟩) | go_in)
              all_goals go_ret2
              all_goals exact ⟨_, _, rfl, ⟨_, rfl⟩, hR, hI⟩
            · obtain ⟨hx, hy, hz⟩ := nA_no (s := s) (i := i) (c := c) (by omega) l
              rw [hx, hy, hz]
              clear hx hy hz
              go_enter Try.func8, Try.ntmps8
              go_wp2_with (first | (go_at_call 37; refine (noiseS _ _ _ _ (by omega) (by omega) (by omega) (by omega) (by omega) (by omega) _).mono ?_; rintro e w' ⟨r, im, m, rfl, rfl, hR, hI⟩) | go_in)
              all_goals go_ret2
              all_goals exact ⟨_, _, rfl, ⟨0, (World.drewN_zero _).symm⟩, rfl, rfl⟩
          · obtain ⟨hx, hy, hz⟩ := nA_no (s := s) (i := i) (c := c) (by omega) l
            rw [hx, hy, hz]
            clear hx hy hz
            go_enter Try.func8, Try.ntmps8
            go_wp2_with (first | (go_at_call 37; refine (noiseS _ _ _ _ (by omega) (by omega) (by omega) (by omega) (by omega) (by omega) _).mono ?_; rintro e w' ⟨r, im, m, rfl, rfl, hR, hI⟩) | go_in)
            all_goals go_ret2
            all_goals exact ⟨_, _, rfl, ⟨0, (World.drewN_zero _).symm⟩, rfl, rfl⟩
        · obtain ⟨hx, hy, hz⟩ := nA_no (s := s) (i := i) (c := c) (by omega) l
          rw [hx, hy, hz]
          clear hx hy hz
          go_enter Try.func8, Try.ntmps8
          go_wp2_with (first | (go_at_call 37; refine (noiseS _ _ _ _ (by omega) (by omega) (by omega) (by omega) (by omega) (by omega) _).mono ?_; rintro e w' ⟨r, im, m, rfl, rfl, hR, hI⟩) | go_in)
          all_goals go_ret2
          all_goals exact ⟨_, _, rfl, ⟨0, (World.drewN_zero _).symm⟩, rfl, rfl⟩
      · obtain ⟨hx, hy, hz⟩ := nA_no (s := s) (i := i) (c := c) (by omega) l
        rw [hx, hy, hz]
        clear hx hy hz
        go_enter Try.func8, Try.ntmps8
        go_wp2_with (first | (go_at_call 37; refine (noiseS _ _ _ _ (by omega) (by omega) (by omega) (by omega) (by omega) (by omega) _).mono ?_; rintro e w' ⟨r, im, m, rfl, rfl, hR, hI⟩) | go_in)
        all_goals go_ret2
        all_goals exact ⟨_, _, rfl, ⟨0, (World.drewN_zero _).symm⟩, rfl, rfl⟩
    · obtain ⟨hx, hy, hz⟩ := nA_no (s := s) (i := i) (c := c) (by omega) l
      rw [hx, hy, hz]
      clear hx hy hz
      go_enter Try.func8, Try.ntmps8
      go_wp2_with (first | (go_at_call 37; refine (noiseS _ _ _ _ (by omega) (by omega) (by omega) (by omega) (by omega) (by omega) _).mono ?_; rintro e w' ⟨r, im, m, rfl, rfl, hR, hI⟩) | go_in)
      all_goals go_ret2
      all_goals exact ⟨_, _, rfl, ⟨0, (World.drewN_zero _).symm⟩, rfl, rfl⟩
  · obtain ⟨hx, hy, hz⟩ := nA_no (s := s) (i := i) (c := c) (by omega) l
    rw [hx, hy, hz]
    clear hx hy hz
    go_enter Try.func8, Try.ntmps8
    go_wp2_with (first | (go_at_call 37; refine (noiseS _ _ _ _ (by omega) (by omega) (by omega) (by omega) (by omega) (by omega) _).mono ?_; rintro e w' ⟨r, im, m, rfl, rfl, hR, hI⟩) | go_in)
    all_goals go_ret2
    all_goals exact ⟨_, _, rfl, ⟨0, (World.drewN_zero _).symm⟩, rfl, rfl⟩

set_option maxHeartbeats 1000000 in
theorem noiseOfI (s i c : Int) (l : Nat) (w : World) :
    Calls Try.prog 9 #[.int .i64 s, .int .i64 i, .int .i64 c, .float .f32 l] w fun e w' => ∃ r im, e = .returned (.tuple #[.complex .f32 r im, .bool (ok s i c)]) ∧ (Grown w w') ∧ cf .f32 r = nA s i c l 0 ∧ cf .f32 im = nA s i c l 1 := by
  by_cases c0 : 0 ≤ s
  · by_cases c1 : s ≤ 2147483647
    · by_cases c2 : 0 ≤ i
      · by_cases c3 : i ≤ 1000000
        · by_cases c4 : 0 ≤ c
          · by_cases c5 : c ≤ 15
            · obtain ⟨hx, hy, hz⟩ := nA_yes ⟨c0, c1, c2, c3, c4, c5⟩ l
              rw [hx, hy, hz]
              clear hx hy hz
              go_enter Try.func9, Try.ntmps9
              go_wp2_with (first | (go_at_call 41; refine (noiseI _ _ _ _ (by omega) (by omega) (by omega) (by omega) (by omega) (by omega) _).mono ?_; rintro e w' ⟨r, im, rfl, hG, hR, hI⟩) | go_in)
              all_goals go_ret2
              all_goals exact ⟨_, _, rfl, hG, hR, hI⟩
            · obtain ⟨hx, hy, hz⟩ := nA_no (s := s) (i := i) (c := c) (by omega) l
              rw [hx, hy, hz]
              clear hx hy hz
              go_enter Try.func9, Try.ntmps9
              go_wp2_with (first | (go_at_call 41; refine (noiseI _ _ _ _ (by omega) (by omega) (by omega) (by omega) (by omega) (by omega) _).mono ?_; rintro e w' ⟨r, im, rfl, hG, hR, hI⟩) | go_in)
              all_goals go_ret2
              all_goals exact ⟨_, _, rfl, Grown.refl _, rfl, rfl⟩
          · obtain ⟨hx, hy, hz⟩ := nA_no (s := s) (i := i) (c := c) (by omega) l
            rw [hx, hy, hz]
            clear hx hy hz
            go_enter Try.func9, Try.ntmps9
            go_wp2_with (first | (go_at_call 41; refine (noiseI _ _ _ _ (by omega) (by omega) (by omega) (by omega) (by omega) (by omega) _).mono ?_; rintro e w' ⟨r, im, rfl, hG, hR, hI⟩) | go_in)
            all_goals go_ret2
            all_goals exact ⟨_, _, rfl, Grown.refl _, rfl, rfl⟩
        · obtain ⟨hx, hy, hz⟩ := nA_no (s := s) (i := i) (c := c) (by omega) l
          rw [hx, hy, hz]
          clear hx hy hz
          go_enter Try.func9, Try.ntmps9
          go_wp2_with (first | (go_at_call 41; refine (noiseI _ _ _ _ (by omega) (by omega) (by omega) (by omega) (by omega) (by omega) _).mono ?_; rintro e w' ⟨r, im, rfl, hG, hR, hI⟩) | go_in)
          all_goals go_ret2
          all_goals exact ⟨_, _, rfl, Grown.refl _, rfl, rfl⟩
      · obtain ⟨hx, hy, hz⟩ := nA_no (s := s) (i := i) (c := c) (by omega) l
        rw [hx, hy, hz]
        clear hx hy hz
        go_enter Try.func9, Try.ntmps9
        go_wp2_with (first | (go_at_call 41; refine (noiseI _ _ _ _ (by omega) (by omega) (by omega) (by omega) (by omega) (by omega) _).mono ?_; rintro e w' ⟨r, im, rfl, hG, hR, hI⟩) | go_in)
        all_goals go_ret2
        all_goals exact ⟨_, _, rfl, Grown.refl _, rfl, rfl⟩
    · obtain ⟨hx, hy, hz⟩ := nA_no (s := s) (i := i) (c := c) (by omega) l
      rw [hx, hy, hz]
      clear hx hy hz
      go_enter Try.func9, Try.ntmps9
      go_wp2_with (first | (go_at_call 41; refine (noiseI _ _ _ _ (by omega) (by omega) (by omega) (by omega) (by omega) (by omega) _).mono ?_; rintro e w' ⟨r, im, rfl, hG, hR, hI⟩) | go_in)
      all_goals go_ret2
      all_goals exact ⟨_, _, rfl, Grown.refl _, rfl, rfl⟩
  · obtain ⟨hx, hy, hz⟩ := nA_no (s := s) (i := i) (c := c) (by omega) l
    rw [hx, hy, hz]
    clear hx hy hz
    go_enter Try.func9, Try.ntmps9
    go_wp2_with (first | (go_at_call 41; refine (noiseI _ _ _ _ (by omega) (by omega) (by omega) (by omega) (by omega) (by omega) _).mono ?_; rintro e w' ⟨r, im, rfl, hG, hR, hI⟩) | go_in)
    all_goals go_ret2
    all_goals exact ⟨_, _, rfl, Grown.refl _, rfl, rfl⟩

theorem grown_drewN {W w : World} (h : Grown W w) (m : Nat) : Grown W (w.drewN m) := h

set_option maxHeartbeats 1000000 in
theorem walk (a0 a1 a2 : Int) (l : Nat) (w : World) :
    Calls Try.prog 3 #[.int .i64 a0, .int .i64 a1, .int .i64 a2, .float .f32 l] w fun e w' => e = .returned (.bool true) ∧ Grown w w' := by
  have cS := fun u => noiseOfS a0 a1 a2 l u
  have cI := fun u => noiseOfI a0 a1 a2 l u
  generalize nA a0 a1 a2 l 0 = A at cS cI
  generalize nA a0 a1 a2 l 1 = B at cS cI
  have cv := fun (a b : Nat) (u : World) => run_cwiden (P := Try.prog) 23 27 (by rw [Try.underlying23]; rfl) Try.underlying27 a b u
  cases hok : ok a0 a1 a2 with
  | true =>
    rw [hok] at cS cI
    clear hok
    go_enter Try.func3, Try.ntmps3
    go_wp2_with (first | (go_at_call 8; refine (cS _).mono ?_; rintro e w' ⟨r, im, rfl, ⟨m, rfl⟩, hR, hI⟩; have cv1 := cv r im) | (go_at_call 9; refine (cI _).mono ?_; rintro e w' ⟨r2, im2, rfl, hG, hR2, hI2⟩; have cv2 := cv r2 im2) | (go_at_call 10; refine (sameComplex_any _ _ _ _ _ (by rw [wb_cf, wb_cf, hR, hR2]) (by rw [wb_cf, wb_cf, hI, hI2])).mono ?_; rintro e w' ⟨rfl, rfl⟩))
    all_goals go_ret
    all_goals exact ⟨rfl, grown_drewN (W := w) hG _⟩
  | false =>
    rw [hok] at cS cI
    clear hok
    go_enter Try.func3, Try.ntmps3
    go_wp2_with (first | (go_at_call 8; refine (cS _).mono ?_; rintro e w' ⟨r, im, rfl, ⟨m, rfl⟩, hR, hI⟩; have cv1 := cv r im) | (go_at_call 9; refine (cI _).mono ?_; rintro e w' ⟨r2, im2, rfl, hG, hR2, hI2⟩; have cv2 := cv r2 im2) | (go_at_call 10; refine (sameComplex_any _ _ _ _ _ (by rw [wb_cf, wb_cf, hR, hR2]) (by rw [wb_cf, wb_cf, hI, hI2])).mono ?_; rintro e w' ⟨rfl, rfl⟩))
    all_goals go_ret
    all_goals exact ⟨rfl, grown_drewN (W := w) hG _⟩

set_option maxRecDepth 100000 in
theorem lifted (os : Os) (started : os.Started) (H : Type) (enc : TypeId × Value → H) :
    ReturnsInHanded {} Try.checked os 3 .any (Rows.fnExactNoiseOfSpec.pre6 enc Try.prog Try.f3 Rows.fnExactNoiseOfRow.domain false) (Rows.fnExactNoiseOfSpec.post enc Try.prog Try.f3 false true false false) := by
  refine returnsInHanded_of_change (C := Try.checked) own started (by kernel_rfl) Try.func3
    (ChangeSpec.witness6 (enc := enc) (C := Try.checked) false ⟨#[], #[.int .i64 0, .int .i64 0, .int .i64 0, .float .f32 0], []⟩ 8 (by kernel_rfl) (by kernel_rfl) (by kernel_rfl) (by kernel_rfl)) ?_
  intro W base args ds gs before hval0 hW hcnd _
  have hval : ∀ (j : Nat) t v, Try.f3.params[j]? = some t → args[j]? = some v → Value.okWide Try.prog W .any base t v := hval0
  have hW' := hW
  obtain ⟨p, q, hA0, hV, rfl, hfz, hnd⟩ := hW
  have hA : DataW.TrodAll enc Try.prog W 0 (fun _ => true) true Try.f3.params.toList args.toList ds p := hA0
  rw [Try.params3] at hA hval
  obtain ⟨v0, vs0, d0, ds0, p0, q0, hargs, rfl, rfl, h0, r0⟩ := trodAll_cons hA
  obtain ⟨v1, vs1, d1, ds1, p1, q1, rfl, rfl, rfl, h1, r1⟩ := trodAll_cons r0
  obtain ⟨v2, vs2, d2, ds2, p2, q2, rfl, rfl, rfl, h2, r2⟩ := trodAll_cons r1
  obtain ⟨v3, vs3, d3, ds3, p3, q3, rfl, rfl, rfl, h3, r3⟩ := trodAll_cons r2
  obtain ⟨rfl, rfl, rfl⟩ := trodAll_nil r3
  obtain rfl : args = #[v0, v1, v2, v3] := by cases args; simp_all
  obtain ⟨rfl, rfl⟩ := trodVars_none hV
  obtain ⟨a0, rfl, rfl, rfl, w0⟩ := open_int Try.underlying2 (hval 0 2 v0 rfl rfl) h0
  obtain ⟨a1, rfl, rfl, rfl, w1⟩ := open_int Try.underlying2 (hval 1 2 v1 rfl rfl) h1
  obtain ⟨a2, rfl, rfl, rfl, w2⟩ := open_int Try.underlying2 (hval 2 2 v2 rfl rfl) h2
  obtain ⟨a3, rfl, rfl, rfl, w3⟩ := open_float Try.underlying22 (hval 3 22 v3 rfl rfl) h3
  clear hA0 hval0
  simp only [List.append_nil] at hW'
  refine (walk a0 a1 a2 a3 W).mono fun e W' ⟨he, hg⟩ => ?_
  subst he
  exact ⟨_, rfl, post_of_same (pa := []) (pv := []) hW' (fun _ _ _ => (trodAll_cons_mk (shut_bool Try.underlying4 _) trodAll_mk0)) (fun sp _ => (trodAll_cons_mk (shut_int Try.underlying2 w0) (trodAll_cons_mk (shut_int Try.underlying2 w1) (trodAll_cons_mk (shut_int Try.underlying2 w2) (trodAll_cons_mk (shut_float Try.underlying22 w3) trodAll_mk0))))) (fun _ _ => rfl) rfl
    (hg.frame _) hg.2.1 (ok_one (by kernel_rfl) rfl (okWide_bool_mk Try.underlying4 _))⟩

theorem over : Rows.fnExactNoiseOfRow.holds Try.pinned (OpenSpec.ofChange Rows.fnExactNoiseOfSpec) :=
  OpenClaim.holds_of_wide 3 Try.f3 rfl rfl rfl rfl rfl rfl rfl ⟨rfl, rfl, rfl, rfl, rfl⟩ rfl rfl rfl rfl rfl (by kernel_rfl) Try.func3 (by kernel_rfl)
    (of_decide_eq_true (by kernel_rfl)) (by unfold Func.isWrapper; first | (rw [if_pos (by decide +kernel)]; kernel_rfl) | (rw [if_neg (by decide +kernel)]; exact ⟨rfl, rfl⟩))
    (fun os started H enc _ => lifted os started H enc)

/-- ████ THE STATEMENT ████ -/
theorem proved : Rows.FnExactNoiseOfSaid :=
  over
#print axioms proved
end Go.Proofs.Ytbmbgailhiepbaa.fnExactNoiseOf
