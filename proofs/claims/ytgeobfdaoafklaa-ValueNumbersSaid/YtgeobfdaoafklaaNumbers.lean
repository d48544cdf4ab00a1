/- ValueNumbers returns true at every two numbers: sums, differences, products, quotients and rests go round as the language has it. No condition. -/
import Derived.Test.YtgeobfdaoafklaaParts
import Derived.ProofKit
import Derived.OpenShut
import Derived.Lib.SmallJoins
namespace Go.Proofs.Ytgeobfdaoafklaa.valueNumbers
open Go.ChangeShapes Go.WideShapes Go.ChangeAt Go.RowKit Go.Joins
set_option linter.unusedVariables false
theorem wrap64_id {n : Int} (h0 : -9223372036854775808 ≤ n) (h1 : n ≤ 9223372036854775807) : wrap64 n = n := by unfold wrap64; omega
theorem wrap_sub_add (a b : Int) (h0 : -9223372036854775808 ≤ a) (h1 : a ≤ 9223372036854775807) : wrap64 (wrap64 (a + b) - b) = a := by
  unfold wrap64; omega
theorem wrap64_add_mul (x k : Int) : wrap64 (x + 18446744073709551616 * k) = wrap64 x := by unfold wrap64; omega
theorem wrap64_ex (x : Int) : ∃ k, wrap64 x = x + 18446744073709551616 * k := ⟨-((x + 9223372036854775808) / 18446744073709551616), by unfold wrap64; omega⟩
theorem wrap_div (a b : Int) (h0 : -9223372036854775808 ≤ a) (h1 : a ≤ 9223372036854775807) : wrap64 (wrap64 (wrap64 (a.tdiv b) * b) + a.tmod b) = a := by
  have e : wrap64 (a.tdiv b * b + a.tmod b) = a := by rw [Int.mul_comm, Int.mul_tdiv_add_tmod]; exact wrap64_id h0 h1
  obtain ⟨k, hk⟩ := wrap64_ex (a.tdiv b)
  obtain ⟨j, hj⟩ := wrap64_ex (wrap64 (a.tdiv b) * b)
  rw [hj, hk, Int.add_mul]
  have e2 : a.tdiv b * b + 18446744073709551616 * k * b + 18446744073709551616 * j + a.tmod b = (a.tdiv b * b + a.tmod b) + 18446744073709551616 * (k * b + j) := by
    rw [Int.mul_add, Int.mul_assoc]; omega
  rw [e2, wrap64_add_mul, e]
set_option maxHeartbeats 2000000 in
theorem numbers_any (a b l q r k1 k2 e0 : Int) (hl : ((l == 1) = true ∧ decide (a < b) = true) ∨ ((l == 1) = false ∧ decide (a < b) = false)) (hcs : ((b == 0) = true ∧ (e0 == 14) = true) ∨ ((b == 0) = false ∧ (e0 == 0) = true ∧ wrap64 (wrap64 (q * b) + r) = a))
    (hA : (∀ w, Calls Try.prog 8 #[.int .i64 11, .agg #[.int .i64 1, .int .i64 a], .agg #[.int .i64 1, .int .i64 b]] w (MathPost (1, wrap64 (a + b), 0) w))) (hS : (∀ w, Calls Try.prog 8 #[.int .i64 12, .agg #[.int .i64 1, .int .i64 (wrap64 (a + b))], .agg #[.int .i64 1, .int .i64 b]] w (MathPost (1, a, 0) w))) (hM : (∀ w, Calls Try.prog 8 #[.int .i64 13, .agg #[.int .i64 1, .int .i64 a], .agg #[.int .i64 1, .int .i64 b]] w (MathPost (1, wrap64 (a * b), 0) w))) (hL : (∀ w, Calls Try.prog 8 #[.int .i64 16, .agg #[.int .i64 1, .int .i64 a], .agg #[.int .i64 1, .int .i64 b]] w (MathPost (2, l, 0) w))) (hD : (∀ w, Calls Try.prog 8 #[.int .i64 14, .agg #[.int .i64 1, .int .i64 a], .agg #[.int .i64 1, .int .i64 b]] w (MathPost (k1, q, e0) w))) (hR : (∀ w, Calls Try.prog 8 #[.int .i64 15, .agg #[.int .i64 1, .int .i64 a], .agg #[.int .i64 1, .int .i64 b]] w (MathPost (k2, r, e0) w))) (w : World) :
    Calls Try.prog 3 #[.int .i64 a, .int .i64 b] w fun e w' => e = .returned (.bool true) ∧ Below w.heap.size w w' := by
  have HA := Lib.hid hA
  clear hA
  have HS := Lib.hid hS
  clear hS
  have HM := Lib.hid hM
  clear hM
  have HL := Lib.hid hL
  clear hL
  have HD := Lib.hid hD
  clear hD
  have HR := Lib.hid hR
  clear hR
  rcases hl with ⟨l1, l2⟩ | ⟨l1, l2⟩
  all_goals rcases hcs with ⟨c1, c2⟩ | ⟨c1, c2, c3⟩
  all_goals
    go_enter Try.func3, Try.ntmps3
    go_wp2_with (first | (go_at_call 7; ((with_reducible refine (alive_any _).mono ?_); rintro e w0 ⟨rfl, hb0⟩; obtain ⟨hc0, hf0, hz0⟩ := bcell3 hb0; (try simp only [World.size_alloc] at hz0))) | (go_at_call 9; ((with_reducible refine (num_any _ _).mono ?_); rintro e w9 ⟨rfl, rfl⟩)) | (go_at_call 8; ((with_reducible refine (HA.out _).mono ?_); rintro e wA ⟨rfl, hbA⟩; obtain ⟨hcA, hfA, hzA⟩ := bcell3 hbA; (try simp only [World.size_alloc] at hzA); have hyA0 : w0.heap.size < wA.heap.size := (by omega); have hyA1 : w0.heap.size + 1 < wA.heap.size := (by omega))) | (go_at_call 8; ((with_reducible refine (HS.out _).mono ?_); rintro e wS ⟨rfl, hbS⟩; obtain ⟨hcS, hfS, hzS⟩ := bcell3 hbS; (try simp only [World.size_alloc] at hzS); have hyS0 : w0.heap.size < wS.heap.size := (by omega); have hyS1 : w0.heap.size + 1 < wS.heap.size := (by omega); have hyS2 : wA.heap.size < wS.heap.size := (by omega))) | (go_at_call 8; ((with_reducible refine (HM.out _).mono ?_); rintro e wM ⟨rfl, hbM⟩; obtain ⟨hcM, hfM, hzM⟩ := bcell3 hbM; (try simp only [World.size_alloc] at hzM); have hyM0 : w0.heap.size < wM.heap.size := (by omega); have hyM1 : w0.heap.size + 1 < wM.heap.size := (by omega); have hyM2 : wA.heap.size < wM.heap.size := (by omega); have hyM3 : wS.heap.size < wM.heap.size := (by omega))) | (go_at_call 8; ((with_reducible refine (HL.out _).mono ?_); rintro e wL ⟨rfl, hbL⟩; obtain ⟨hcL, hfL, hzL⟩ := bcell3 hbL; (try simp only [World.size_alloc] at hzL); have hyL0 : w0.heap.size < wL.heap.size := (by omega); have hyL1 : w0.heap.size + 1 < wL.heap.size := (by omega); have hyL2 : wA.heap.size < wL.heap.size := (by omega); have hyL3 : wS.heap.size < wL.heap.size := (by omega); have hyL4 : wM.heap.size < wL.heap.size := (by omega))) | (go_at_call 8; ((with_reducible refine (HD.out _).mono ?_); rintro e wD ⟨rfl, hbD⟩; obtain ⟨hcD, hfD, hzD⟩ := bcell3 hbD; (try simp only [World.size_alloc] at hzD); have hyD0 : w0.heap.size < wD.heap.size := (by omega); have hyD1 : w0.heap.size + 1 < wD.heap.size := (by omega); have hyD2 : wA.heap.size < wD.heap.size := (by omega); have hyD3 : wS.heap.size < wD.heap.size := (by omega); have hyD4 : wM.heap.size < wD.heap.size := (by omega); have hyD5 : wL.heap.size < wD.heap.size := (by omega))) | (go_at_call 8; ((with_reducible refine (HR.out _).mono ?_); rintro e wR ⟨rfl, hbR⟩; obtain ⟨hcR, hfR, hzR⟩ := bcell3 hbR; (try simp only [World.size_alloc] at hzR); have hyR0 : w0.heap.size < wR.heap.size := (by omega); have hyR1 : w0.heap.size + 1 < wR.heap.size := (by omega); have hyR2 : wA.heap.size < wR.heap.size := (by omega); have hyR3 : wS.heap.size < wR.heap.size := (by omega); have hyR4 : wM.heap.size < wR.heap.size := (by omega); have hyR5 : wL.heap.size < wR.heap.size := (by omega); have hyR6 : wD.heap.size < wR.heap.size := (by omega))))
    go_ret
    exact ⟨by simp, (by repeat (first | exact Below.refl _ _ | refine below_alloc ?_ _ | refine below_trans ?_ ‹_› | refine Below.drew ?_))⟩
theorem numbers_walk (a b : Int) (w0 : (Lit.int .i64 a).wf = true) (w1 : (Lit.int .i64 b).wf = true) (w : World) :
    Calls Try.prog 3 #[.int .i64 a, .int .i64 b] w fun e w' => e = .returned (.bool true) ∧ Below w.heap.size w w' := by
  have ba : -9223372036854775808 ≤ a ∧ a ≤ 9223372036854775807 := by
    have h := w0
    simp [Lit.wf, IntKind.min, IntKind.max, IntKind.signed, IntKind.bits] at h
    omega
  have hS : ∀ w, Calls Try.prog 8 #[.int .i64 12, .agg #[.int .i64 1, .int .i64 (wrap64 (a + b))], .agg #[.int .i64 1, .int .i64 b]] w (MathPost (1, a, 0) w) := fun w => by
    have := m_sub8 (wrap64 (a + b)) b w
    rwa [wrap_sub_add a b ba.1 ba.2] at this
  by_cases hb : b = 0
  · subst hb
    by_cases hl : a < 0
    · exact numbers_any a 0 1 0 0 0 0 14 (.inl ⟨rfl, by simpa using hl⟩) (.inl ⟨rfl, rfl⟩) (m_add8 a 0) hS (m_mul8 a 0) (m_lessy8 a 0 hl) (m_z14_8 a) (m_z15_8 a) w
    · exact numbers_any a 0 0 0 0 0 0 14 (.inr ⟨rfl, by simpa using hl⟩) (.inl ⟨rfl, rfl⟩) (m_add8 a 0) hS (m_mul8 a 0) (m_lessn8 a 0 hl) (m_z14_8 a) (m_z15_8 a) w
  · have hb' : (b == 0) = false := by simpa using hb
    by_cases hl : a < b
    · exact numbers_any a b 1 _ _ 1 1 0 (.inl ⟨rfl, by simpa using hl⟩) (.inr ⟨hb', rfl, wrap_div a b ba.1 ba.2⟩) (m_add8 a b) hS (m_mul8 a b) (m_lessy8 a b hl) (m_div8 a b hb' hb) (m_mod8 a b hb' hb) w
    · exact numbers_any a b 0 _ _ 1 1 0 (.inr ⟨rfl, by simpa using hl⟩) (.inr ⟨hb', rfl, wrap_div a b ba.1 ba.2⟩) (m_add8 a b) hS (m_mul8 a b) (m_lessn8 a b hl) (m_div8 a b hb' hb) (m_mod8 a b hb' hb) w

theorem own : ownKnob Try.prog.godebug = none := by kernel_rfl
theorem cells24 : Try.prog.cellsOf 24 = 2 := by kernel_rfl
set_option maxRecDepth 100000 in
theorem lifted (os : Os) (started : os.Started) (H : Type) (enc : TypeId × Value → H) :
    ReturnsInHanded {} Try.checked os 3 .any (Rows.valueNumbersSpec.pre6 enc Try.prog Try.f3 Rows.valueNumbersRow.domain false) (Rows.valueNumbersSpec.post enc Try.prog Try.f3 false true false false) := by
  refine returnsInHanded_of_change (C := Try.checked) own started (by kernel_rfl) Try.func3
    (ChangeSpec.witness6 (enc := enc) (C := Try.checked) false ⟨#[], #[.int .i64 0, .int .i64 0], []⟩ 8 (by kernel_rfl) (by kernel_rfl) (by kernel_rfl) (by kernel_rfl)) ?_
  intro W base args ds gs before hval0 hW _ _
  have hval : ∀ (j : Nat) t v, Try.f3.params[j]? = some t → args[j]? = some v → Value.okWide Try.prog W .any base t v := hval0
  have hW' := hW
  obtain ⟨p, q, hA0, hV, rfl, hfz, hnd⟩ := hW
  have hA : DataW.TrodAll enc Try.prog W 0 (fun _ => true) true Try.f3.params.toList args.toList ds p := hA0
  rw [Try.params3] at hA hval
  obtain ⟨v0, vs0, d0, ds0, p0, q0, hargs, rfl, rfl, h0, r0⟩ := trodAll_cons hA
  obtain ⟨v1, vs1, d1, ds1, p1, q1, rfl, rfl, rfl, h1, r1⟩ := trodAll_cons r0
  obtain ⟨rfl, rfl, rfl⟩ := trodAll_nil r1
  obtain rfl : args = #[v0, v1] := by cases args; simp_all
  obtain ⟨rfl, rfl⟩ := trodVars_none hV
  obtain ⟨a0, rfl, rfl, rfl, w0⟩ := open_int Try.underlying3 (hval 0 3 v0 rfl rfl) h0
  obtain ⟨a1, rfl, rfl, rfl, w1⟩ := open_int Try.underlying3 (hval 1 3 v1 rfl rfl) h1
  clear hA0 hval0
  simp only [List.append_nil] at hW'
  refine (numbers_walk a0 a1 w0 w1 W).mono fun e W' ⟨he, hb⟩ => ?_
  subst he
  exact ⟨_, rfl, ⟨_, _, _, [], _, [], hW', (trodAll_cons_mk (shut_bool Try.underlying4 _) trodAll_mk0), (trodAll_cons_mk (shut_int Try.underlying3 w0) (trodAll_cons_mk (shut_int Try.underlying3 w1) trodAll_mk0)), rfl, hb.frame _, fun h => by cases h⟩⟩

/-- The statement. -/
theorem proved : Rows.ValueNumbersSaid :=
  OpenClaim.holds_of_wide 3 Try.f3 rfl rfl rfl rfl rfl rfl rfl ⟨rfl, rfl, rfl, rfl, rfl⟩ rfl rfl rfl rfl rfl (by kernel_rfl) Try.func3 (by kernel_rfl)
    (of_decide_eq_true (by kernel_rfl)) (by unfold Func.isWrapper; first | (rw [if_pos (by decide +kernel)]; kernel_rfl) | (rw [if_neg (by decide +kernel)]; exact ⟨rfl, rfl⟩))
    (fun os started H enc _ => lifted os started H enc)

end Go.Proofs.Ytgeobfdaoafklaa.valueNumbers
