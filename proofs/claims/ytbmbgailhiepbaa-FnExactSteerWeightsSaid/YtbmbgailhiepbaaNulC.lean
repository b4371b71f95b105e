/- Products, differences and conjugates of complex numbers, both, by contracts. -/
import Derived.Test.YtbmbgailhiepbaaRows
import Derived.Test.YtbmbgailhiepbaaNulB
import Derived.Test.YtbmbgailhiepbaaSin
import Derived.BigQuiet
import Derived.Deep.RegionWith
namespace Go.Proofs.Ytbmbgailhiepbaa
open Go.RowKit Ieee

/-- What the walk of a product needs. -/
structure MulRuns (a b c d : Nat) (A B C D ac bd ad bc u v r i : Nat) : Prop where
  ca : ∀ w, (convert 22 63 (.float .f32 a)).run Try.prog w = .ok (.float .f64 A) w
  cb : ∀ w, (convert 22 63 (.float .f32 b)).run Try.prog w = .ok (.float .f64 B) w
  cc : ∀ w, (convert 22 63 (.float .f32 c)).run Try.prog w = .ok (.float .f64 C) w
  cd : ∀ w, (convert 22 63 (.float .f32 d)).run Try.prog w = .ok (.float .f64 D) w
  r1 : ∀ w, (binOp .mul 63 (.float .f64 A) (.float .f64 C)).run Try.prog w = .ok (.float .f64 ac) w
  r2 : ∀ w, (binOp .mul 63 (.float .f64 B) (.float .f64 D)).run Try.prog w = .ok (.float .f64 bd) w
  r3 : ∀ w, (binOp .mul 63 (.float .f64 A) (.float .f64 D)).run Try.prog w = .ok (.float .f64 ad) w
  r4 : ∀ w, (binOp .mul 63 (.float .f64 B) (.float .f64 C)).run Try.prog w = .ok (.float .f64 bc) w
  r5 : ∀ w, (binOp .sub 63 (.float .f64 ac) (.float .f64 bd)).run Try.prog w = .ok (.float .f64 u) w
  r6 : ∀ w, (binOp .add 63 (.float .f64 ad) (.float .f64 bc)).run Try.prog w = .ok (.float .f64 v) w
  nu : ∀ w, (convert 63 22 (.float .f64 u)).run Try.prog w = .ok (.float .f32 r) w
  nv : ∀ w, (convert 63 22 (.float .f64 v)).run Try.prog w = .ok (.float .f32 i) w

theorem mulRuns {a b c d e : Nat} (ha : Fs a 5) (hb : Fs b 5) (hc : Fs c e) (hd : Fs d e) (he : e ≤ 120) : MulRuns a b c d (w8 a) (w8 b) (w8 c) (w8 d) (fB .mul (w8 a) (w8 c)) (fB .mul (w8 b) (w8 d)) (fB .mul (w8 a) (w8 d)) (fB .mul (w8 b) (w8 c))
    (fB .sub (fB .mul (w8 a) (w8 c)) (fB .mul (w8 b) (w8 d))) (fB .add (fB .mul (w8 a) (w8 d)) (fB .mul (w8 b) (w8 c))) (mulR a b c d) (mulI a b c d) := by
  have h := mulFacts ha hb hc hd he
  have hs : (Try.prog.underlying 22).isSome = true := by rw [Try.underlying22]; rfl
  have hs2 : (Try.prog.underlying 63).isSome = true := by rw [Try.underlying63]; rfl
  exact ⟨run_w8 ha (by omega) _ _ hs Try.underlying63, run_w8 hb (by omega) _ _ hs Try.underlying63, run_w8 hc (by omega) _ _ hs Try.underlying63, run_w8 hd (by omega) _ _ hs Try.underlying63,
    run_fB h.ac _, run_fB h.bd _, run_fB h.ad _, run_fB h.bc _, run_fB h.u _, run_fB h.v _, run_nB h.ub (by omega) _ _ hs2 Try.underlying22, run_nB h.vb (by omega) _ _ hs2 Try.underlying22⟩

set_option maxHeartbeats 1000000 in
theorem mulCI {a b c d e : Nat} (ha : Fs a 5) (hb : Fs b 5) (hc : Fs c e) (hd : Fs d e) (he : e ≤ 120) (w : World) :
    Calls Try.prog 83 #[.complex .f32 a b, .complex .f32 c d] w fun e w' => e = .returned (.complex .f32 (mulR a b c d) (mulI a b c d)) ∧ w = w' := by
  have h := mulRuns ha hb hc hd he
  generalize mulR a b c d = r at *
  generalize mulI a b c d = i at *
  generalize fB .sub (fB .mul (w8 a) (w8 c)) (fB .mul (w8 b) (w8 d)) = u at *
  generalize fB .add (fB .mul (w8 a) (w8 d)) (fB .mul (w8 b) (w8 c)) = v at *
  generalize fB .mul (w8 a) (w8 c) = ac at *
  generalize fB .mul (w8 b) (w8 d) = bd at *
  generalize fB .mul (w8 a) (w8 d) = ad at *
  generalize fB .mul (w8 b) (w8 c) = bc at *
  generalize w8 a = A at *
  generalize w8 b = B at *
  generalize w8 c = C at *
  generalize w8 d = D at *
  obtain ⟨q1, q2, q3, q4, q5, q6, q7, q8, q9, q10, q11, q12⟩ := h
  clear ha hb hc hd he
  go_enter Try.func83, Try.ntmps83
  go_wp2_with go_in
  all_goals go_ret
  all_goals exact ⟨rfl, rfl⟩

set_option maxHeartbeats 1000000 in
theorem mulCS {a b c d e : Nat} (ha : Fs a 5) (hb : Fs b 5) (hc : Fs c e) (hd : Fs d e) (he : e ≤ 120) (w : World) :
    Calls Try.prog 75 #[.complex .f32 a b, .complex .f32 c d] w fun e w' => e = .returned (.complex .f32 (mulR a b c d) (mulI a b c d)) ∧ w = w' := by
  have h := mulRuns ha hb hc hd he
  generalize mulR a b c d = r at *
  generalize mulI a b c d = i at *
  generalize fB .sub (fB .mul (w8 a) (w8 c)) (fB .mul (w8 b) (w8 d)) = u at *
  generalize fB .add (fB .mul (w8 a) (w8 d)) (fB .mul (w8 b) (w8 c)) = v at *
  generalize fB .mul (w8 a) (w8 c) = ac at *
  generalize fB .mul (w8 b) (w8 d) = bd at *
  generalize fB .mul (w8 a) (w8 d) = ad at *
  generalize fB .mul (w8 b) (w8 c) = bc at *
  generalize w8 a = A at *
  generalize w8 b = B at *
  generalize w8 c = C at *
  generalize w8 d = D at *
  obtain ⟨q1, q2, q3, q4, q5, q6, q7, q8, q9, q10, q11, q12⟩ := h
  clear ha hb hc hd he
  go_enter Try.func75, Try.ntmps75
  go_wp2_with go_in
  all_goals go_ret
  all_goals exact ⟨rfl, rfl⟩

set_option maxHeartbeats 1000000 in
theorem lessI {a b c d e : Nat} (ha : Fs a e) (hb : Fs b e) (hc : Fs c e) (hd : Fs d e) (he : e ≤ 126) (w : World) :
    Calls Try.prog 82 #[.complex .f32 a b, .complex .f32 c d] w fun e w' => e = .returned (.complex .f32 (sB a c) (sB b d)) ∧ w = w' := by
  have q1 := fun u : World => run_float_arith (P := Try.prog) u .sub 22 .f32 _ _ _ (sB_fs ha hc he).1
  have q2 := fun u : World => run_float_arith (P := Try.prog) u .sub 22 .f32 _ _ _ (sB_fs hb hd he).1
  generalize sB a c = r at *
  generalize sB b d = i at *
  clear ha hb hc hd he
  go_enter Try.func82, Try.ntmps82
  go_wp2
  all_goals go_ret
  all_goals exact ⟨rfl, rfl⟩

theorem run_negF32 {P : Program} (b : Nat) (w : World) : (Op.unary .neg (.float .f32 b)).run P w = .ok (.float .f32 (Op.negFloat .f32 b)) w := rfl
attribute [go_sem] run_negF32

set_option maxHeartbeats 1000000 in
theorem conjI (a b : Nat) (w : World) :
    Calls Try.prog 56 #[.complex .f32 a b] w fun e w' => e = .returned (.complex .f32 a (Op.negFloat .f32 b)) ∧ w = w' := by
  go_enter Try.func56, Try.ntmps56
  go_wp2
  all_goals go_ret
  all_goals exact ⟨rfl, rfl⟩
set_option maxHeartbeats 1000000 in
theorem conjS (a b : Nat) (w : World) :
    Calls Try.prog 51 #[.complex .f32 a b] w fun e w' => e = .returned (.complex .f32 a (Op.negFloat .f32 b)) ∧ w = w' := by
  go_enter Try.func51, Try.ntmps51
  go_wp2
  all_goals go_ret
  all_goals exact ⟨rfl, rfl⟩
end Go.Proofs.Ytbmbgailhiepbaa
