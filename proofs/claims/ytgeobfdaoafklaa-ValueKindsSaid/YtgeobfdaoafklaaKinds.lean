/- ValueKinds returns true at every operation and every two values: only numbers are reckoned with. No condition. -/
import Derived.Test.YtgeobfdaoafklaaParts
import Derived.ProofKit
import Derived.OpenShut
import Derived.Lib.SmallJoins
namespace Go.Proofs.Ytgeobfdaoafklaa.valueKinds
open Go.ChangeShapes Go.WideShapes Go.ChangeAt Go.RowKit Go.Joins
set_option linter.unusedVariables false

theorem kinds_walk (op ak an bk bn : Int) (w : World) : Calls Try.prog 4 #[.int .i64 op, .agg #[.int .i64 ak, .int .i64 an], .agg #[.int .i64 bk, .int .i64 bn]] w fun e w' => e = .returned (.bool true) ∧ Below w.heap.size w w' := by
  by_cases h : ak < 0 ∨ 3 < ak ∨ bk < 0 ∨ 3 < bk ∨ op < 11 ∨ 16 < op
  · exact kinds_out op ak an bk bn h w
  by_cases h1 : ak = 1
  case neg => exact kinds_in op ak an bk bn 0 0 5 (by omega) (by omega) (by omega) (by omega) (by omega) (by omega) (m_ka8 op ak an bk bn (by omega) (by omega) (by simpa using h1)) (.inr ⟨.inl (by simpa using h1), rfl, rfl, rfl⟩) w
  subst h1
  by_cases h2 : bk = 1
  case neg => exact kinds_in op 1 an bk bn 0 0 5 (by omega) (by omega) (by omega) (by omega) (by omega) (by omega) (m_kb8 op an bk bn (by omega) (by omega) (by simpa using h2)) (.inr ⟨.inr ⟨rfl, by simpa using h2⟩, rfl, rfl, rfl⟩) w
  subst h2
  by_cases h3 : (op = 14 ∨ op = 15) ∧ bn = 0
  · obtain ⟨h3, rfl⟩ := h3
    rcases h3 with rfl | rfl
    · exact kinds_in 14 1 an 1 0 0 0 14 (by omega) (by omega) (by omega) (by omega) (by omega) (by omega) (m_z14_8 an) (.inl ⟨rfl, rfl, .inr ⟨rfl, rfl, rfl, .inl rfl⟩⟩) w
    · exact kinds_in 15 1 an 1 0 0 0 14 (by omega) (by omega) (by omega) (by omega) (by omega) (by omega) (m_z15_8 an) (.inl ⟨rfl, rfl, .inr ⟨rfl, rfl, rfl, .inr ⟨rfl, rfl⟩⟩⟩) w
  have hm : ∃ vk vn, mathS op 1 an 1 bn = (vk, vn, 0) := by
    unfold mathS
    rw [if_neg (by omega), if_neg (by simp), if_neg h3]
    by_cases e1 : op = 11
    · rw [if_pos e1]; exact ⟨_, _, rfl⟩
    rw [if_neg e1]
    by_cases e2 : op = 12
    · rw [if_pos e2]; exact ⟨_, _, rfl⟩
    rw [if_neg e2]
    by_cases e3 : op = 13
    · rw [if_pos e3]; exact ⟨_, _, rfl⟩
    rw [if_neg e3]
    by_cases e4 : op = 14
    · rw [if_pos e4]; exact ⟨_, _, rfl⟩
    rw [if_neg e4]
    by_cases e5 : op = 15
    · rw [if_pos e5]; exact ⟨_, _, rfl⟩
    rw [if_neg e5]; exact ⟨_, _, rfl⟩
  obtain ⟨vk, vn, hm⟩ := hm
  exact kinds_in op 1 an 1 bn vk vn 0 (by omega) (by omega) (by omega) (by omega) (by omega) (by omega) (fun w => hm ▸ math8 op 1 an 1 bn w) (.inl ⟨rfl, rfl, .inl rfl⟩) w

theorem own : ownKnob Try.prog.godebug = none := by kernel_rfl
theorem cells24 : Try.prog.cellsOf 24 = 2 := by kernel_rfl
set_option maxRecDepth 100000 in
theorem lifted (os : Os) (started : os.Started) (H : Type) (enc : TypeId × Value → H) :
    ReturnsInHanded {} Try.checked os 4 .any (Rows.valueKindsSpec.pre6 enc Try.prog Try.f4 Rows.valueKindsRow.domain false) (Rows.valueKindsSpec.post enc Try.prog Try.f4 false true false false) := by
  refine returnsInHanded_of_change (C := Try.checked) own started (by kernel_rfl) Try.func4
    (ChangeSpec.witness6 (enc := enc) (C := Try.checked) false ⟨#[], #[.int .i64 0, .agg #[.int .i64 0, .int .i64 0], .agg #[.int .i64 0, .int .i64 0]], []⟩ 8 (by kernel_rfl) (by kernel_rfl) (by kernel_rfl) (by kernel_rfl)) ?_
  intro W base args ds gs before hval0 hW _ _
  have hval : ∀ (j : Nat) t v, Try.f4.params[j]? = some t → args[j]? = some v → Value.okWide Try.prog W .any base t v := hval0
  have hW' := hW
  obtain ⟨p, q, hA0, hV, rfl, hfz, hnd⟩ := hW
  have hA : DataW.TrodAll enc Try.prog W 0 (fun _ => true) true Try.f4.params.toList args.toList ds p := hA0
  rw [Try.params4] at hA hval
  obtain ⟨v0, vs0, d0, ds0, p0, q0, hargs, rfl, rfl, h0, r0⟩ := trodAll_cons hA
  obtain ⟨v1, vs1, d1, ds1, p1, q1, rfl, rfl, rfl, h1, r1⟩ := trodAll_cons r0
  obtain ⟨v2, vs2, d2, ds2, p2, q2, rfl, rfl, rfl, h2, r2⟩ := trodAll_cons r1
  obtain ⟨rfl, rfl, rfl⟩ := trodAll_nil r2
  obtain rfl : args = #[v0, v1, v2] := by cases args; simp_all
  obtain ⟨rfl, rfl⟩ := trodVars_none hV
  obtain ⟨a0, rfl, rfl, rfl, w0⟩ := open_int Try.underlying3 (hval 0 3 v0 rfl rfl) h0
  obtain ⟨c1, e1, y1, z1, m1, rfl, rfl, rfl, hy1, hz1⟩ := open_agg2 Try.underlying24 (by kernel_rfl) cells24 (hval 1 24 v1 rfl rfl) h1
  obtain ⟨a1, f1, rfl, w1⟩ := DataW.trod_int Try.underlying3 hy1
  obtain ⟨b1, g1, rfl, x1⟩ := DataW.trod_int Try.underlying3 hz1
  simp only [List.cons.injEq, and_true] at f1 g1
  subst f1 g1
  have sr1 : ∀ (W' : World) (sp : Nat → Bool), DataW.Trod enc Try.prog W' 0 sp true 24 (.agg #[.int .i64 a1, .int .i64 b1]) (.agg [.lit (.int .i64 a1), .lit (.int .i64 b1)]) [] := fun W' sp =>
    shut_agg2 (y0 := (.lit (.int .i64 a1), [])) (y1 := (.lit (.int .i64 b1), [])) Try.underlying24 (by kernel_rfl) cells24 ⟨1, by simp [DataW.trod, Try.underlying3, w1]⟩ ⟨1, by simp [DataW.trod, Try.underlying3, x1]⟩
  obtain ⟨c2, e2, y2, z2, m2, rfl, rfl, rfl, hy2, hz2⟩ := open_agg2 Try.underlying24 (by kernel_rfl) cells24 (hval 2 24 v2 rfl rfl) h2
  obtain ⟨a2, f2, rfl, w2⟩ := DataW.trod_int Try.underlying3 hy2
  obtain ⟨b2, g2, rfl, x2⟩ := DataW.trod_int Try.underlying3 hz2
  simp only [List.cons.injEq, and_true] at f2 g2
  subst f2 g2
  have sr2 : ∀ (W' : World) (sp : Nat → Bool), DataW.Trod enc Try.prog W' 0 sp true 24 (.agg #[.int .i64 a2, .int .i64 b2]) (.agg [.lit (.int .i64 a2), .lit (.int .i64 b2)]) [] := fun W' sp =>
    shut_agg2 (y0 := (.lit (.int .i64 a2), [])) (y1 := (.lit (.int .i64 b2), [])) Try.underlying24 (by kernel_rfl) cells24 ⟨1, by simp [DataW.trod, Try.underlying3, w2]⟩ ⟨1, by simp [DataW.trod, Try.underlying3, x2]⟩
  clear hA0 hval0
  simp only [List.append_nil] at hW'
  refine (kinds_walk a0 a1 b1 a2 b2 W).mono fun e W' ⟨he, hb⟩ => ?_
  subst he
  exact ⟨_, rfl, ⟨_, _, _, [], _, [], hW', (trodAll_cons_mk (shut_bool Try.underlying4 _) trodAll_mk0), (trodAll_cons_mk (shut_int Try.underlying3 w0) (trodAll_cons_mk (sr1 _ _) (trodAll_cons_mk (sr2 _ _) trodAll_mk0))), rfl, hb.frame _, fun h => by cases h⟩⟩

/-- The statement. -/
theorem proved : Rows.ValueKindsSaid :=
  OpenClaim.holds_of_wide 4 Try.f4 rfl rfl rfl rfl rfl rfl rfl ⟨rfl, rfl, rfl, rfl, rfl⟩ rfl rfl rfl rfl rfl (by kernel_rfl) Try.func4 (by kernel_rfl)
    (of_decide_eq_true (by kernel_rfl)) (by unfold Func.isWrapper; first | (rw [if_pos (by decide +kernel)]; kernel_rfl) | (rw [if_neg (by decide +kernel)]; exact ⟨rfl, rfl⟩))
    (fun os started H enc _ => lifted os started H enc)

end Go.Proofs.Ytgeobfdaoafklaa.valueKinds
