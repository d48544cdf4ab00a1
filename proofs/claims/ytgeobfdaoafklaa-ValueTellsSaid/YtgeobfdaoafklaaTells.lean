/- ValueTells returns true at every operation and every two values: the program and the document tell the same. No condition. -/
import Derived.Test.YtgeobfdaoafklaaParts
import Derived.ProofKit
import Derived.OpenShut
import Derived.Lib.SmallJoins
namespace Go.Proofs.Ytgeobfdaoafklaa.valueTells
open Go.ChangeShapes Go.WideShapes Go.ChangeAt Go.RowKit Go.Joins
set_option linter.unusedVariables false
set_option maxHeartbeats 1000000 in
theorem tells_walk (op ak an bk bn : Int) (w : World) : Calls Try.prog 5 #[.int .i64 op, .agg #[.int .i64 ak, .int .i64 an], .agg #[.int .i64 bk, .int .i64 bn]] w fun e w' => e = .returned (.bool true) ∧ Below w.heap.size w w' := by
  have heq := eqlV
  obtain ⟨⟨vk, vn, e0⟩, hx⟩ : ∃ x, x = mathS op ak an bk bn := ⟨_, rfl⟩
  have H8 := Lib.hid (fun w => hx ▸ math8 op ak an bk bn w)
  have H10 := Lib.hid (fun w => hx ▸ math10 op ak an bk bn w)
  clear hx
  go_enter Try.func5, Try.ntmps5
  go_wp2_with (first | (go_at_call 7; refine (alive_any _).mono ?_; rintro e w1 ⟨rfl, hb1⟩; obtain ⟨hc1, hf1, hz1⟩ := bcell3 hb1; (try simp only [World.size_alloc] at hz1); have hy1 : w.heap.size < w1.heap.size := (by omega); have hx1 : w.heap.size + 1 < w1.heap.size := (by omega)) | (go_at_call 8; refine (H8.out _).mono ?_; rintro e w2 ⟨rfl, hb2⟩; obtain ⟨hc2, hf2, hz2⟩ := bcell3 hb2; (try simp only [World.size_alloc] at hz2); have hy2 : w.heap.size < w2.heap.size := (by omega); have hx2 : w.heap.size + 1 < w2.heap.size := (by omega)) | (go_at_call 10; refine (H10.out _).mono ?_; rintro e w3 ⟨rfl, hb3⟩; obtain ⟨hc3, hf3, hz3⟩ := bcell3 hb3; (try simp only [World.size_alloc] at hz3); have hy3 : w.heap.size < w3.heap.size := (by omega); have hx3 : w.heap.size + 1 < w3.heap.size := (by omega); have hv3 : w2.heap.size < w3.heap.size := (by omega)))
  have g0 : (w3.alloc (.cells #[.int .i64 vk, .int .i64 vn] 24)).cell? ⟨w.heap.size, 0, none⟩ = some (.int .i64 ak) := by go_simp
  have g1 : (w3.alloc (.cells #[.int .i64 vk, .int .i64 vn] 24)).cell? ⟨w.heap.size, 1, none⟩ = some (.int .i64 an) := by go_simp
  have g2 : (w3.alloc (.cells #[.int .i64 vk, .int .i64 vn] 24)).cell? ⟨w.heap.size + 1, 0, none⟩ = some (.int .i64 bk) := by go_simp
  have g3 : (w3.alloc (.cells #[.int .i64 vk, .int .i64 vn] 24)).cell? ⟨w.heap.size + 1, 1, none⟩ = some (.int .i64 bn) := by go_simp
  have g4 : (w3.alloc (.cells #[.int .i64 vk, .int .i64 vn] 24)).cell? ⟨w2.heap.size, 0, none⟩ = some (.int .i64 vk) := by go_simp
  have g5 : (w3.alloc (.cells #[.int .i64 vk, .int .i64 vn] 24)).cell? ⟨w2.heap.size, 1, none⟩ = some (.int .i64 vn) := by go_simp
  have g6 : (w3.alloc (.cells #[.int .i64 vk, .int .i64 vn] 24)).cell? ⟨w3.heap.size, 0, none⟩ = some (.int .i64 vk) := by go_simp
  have g7 : (w3.alloc (.cells #[.int .i64 vk, .int .i64 vn] 24)).cell? ⟨w3.heap.size, 1, none⟩ = some (.int .i64 vn) := by go_simp
  refine wp_region_keep (w := w) (by kernel_rfl) (by kernel_rfl) (by repeat (first | exact Below.refl _ _ | refine below_alloc ?_ _ | refine below_trans ?_ ‹_› | refine Below.drew ?_)) ?_
  intro hne
  have k0 := Keep.cell (w := w) g0
  have k1 := Keep.cell (w := w) g1
  have k2 := Keep.cell (w := w) g2
  have k3 := Keep.cell (w := w) g3
  have k4 := Keep.cell (w := w) g4
  have k5 := Keep.cell (w := w) g5
  have k6 := Keep.cell (w := w) g6
  have k7 := Keep.cell (w := w) g7
  repeat (go_big_quiet_step (first | (go_at_call 9; exact Keep.call _ ((num_any _ _).mono fun e w' h => ⟨h.1, h.2 ▸ Below.refl _ _⟩)) | (go_at_call 11; exact Keep.call _ (truth11 _ _ _)) | (go_at_call 12; exact Keep.call _ (truth12 _ _ _)) | (go_at_call 13; exact Keep.call _ (same13 _ _ _ _ _)) | (go_at_call 14; exact Keep.call _ (same14 _ _ _ _ _))))
  refine wpQuiet_nil ?_
  rintro _ ⟨n, rfl⟩
  go_wp2
  go_ret
  exact ⟨by simp, n.property.1⟩


theorem own : ownKnob Try.prog.godebug = none := by kernel_rfl
theorem cells24 : Try.prog.cellsOf 24 = 2 := by kernel_rfl
set_option maxRecDepth 100000 in
theorem lifted (os : Os) (started : os.Started) (H : Type) (enc : TypeId × Value → H) :
    ReturnsInHanded {} Try.checked os 5 .any (Rows.valueTellsSpec.pre6 enc Try.prog Try.f5 Rows.valueTellsRow.domain false) (Rows.valueTellsSpec.post enc Try.prog Try.f5 false true false false) := by
  refine returnsInHanded_of_change (C := Try.checked) own started (by kernel_rfl) Try.func5
    (ChangeSpec.witness6 (enc := enc) (C := Try.checked) false ⟨#[], #[.int .i64 0, .agg #[.int .i64 0, .int .i64 0], .agg #[.int .i64 0, .int .i64 0]], []⟩ 8 (by kernel_rfl) (by kernel_rfl) (by kernel_rfl) (by kernel_rfl)) ?_
  intro W base args ds gs before hval0 hW _ _
  have hval : ∀ (j : Nat) t v, Try.f5.params[j]? = some t → args[j]? = some v → Value.okWide Try.prog W .any base t v := hval0
  have hW' := hW
  obtain ⟨p, q, hA0, hV, rfl, hfz, hnd⟩ := hW
  have hA : DataW.TrodAll enc Try.prog W 0 (fun _ => true) true Try.f5.params.toList args.toList ds p := hA0
  rw [Try.params5] at hA hval
  obtain ⟨v0, vs0, d0, ds0, p0, q0, hargs, rfl, rfl, h0, r0⟩ := trodAll_cons hA
  obtain ⟨v1, vs1, d1, ds1, p1, q1, rfl, rfl, rfl, h1, r1⟩ := trodAll_cons r0
  obtain ⟨v2, vs2, d2, ds2, p2, q2, rfl, rfl, rfl, h2, r2⟩ := trodAll_cons r1
  obtain ⟨rfl, rfl, rfl⟩ := trodAll_nil r2
  obtain rfl : args = #[v0, v1, v2] := by cases args; simp_all
  obtain ⟨rfl, rfl⟩ := trodVars_none hV
  obtain ⟨a0, rfl, rfl, rfl, w0⟩ := open_int Try.underlying3 (hval 0 3 v0 rfl rfl) h0
  obtain ⟨c1, e1, y1, z1, m1, rfl, rfl, rfl, hy1, hz1⟩ := open_agg2 Try.underlying24 (by kernel_rfl) cells24 (hval 1 24 v1 rfl rfl) h1
  obtain ⟨a1, f1, rfl, w1⟩ := DataW.trod_int Try.underlying3 hy1
  obtain ⟨b1, g1, rfl, x1⟩ := DataW.trod_int Try.underlying3 hz1
  simp only [List.cons.injEq, and_true] at f1 g1
  subst f1 g1
  have sr1 : ∀ (W' : World) (sp : Nat → Bool), DataW.Trod enc Try.prog W' 0 sp true 24 (.agg #[.int .i64 a1, .int .i64 b1]) (.agg [.lit (.int .i64 a1), .lit (.int .i64 b1)]) [] := fun W' sp =>
    shut_agg2 (y0 := (.lit (.int .i64 a1), [])) (y1 := (.lit (.int .i64 b1), [])) Try.underlying24 (by kernel_rfl) cells24 ⟨1, by simp [DataW.trod, Try.underlying3, w1]⟩ ⟨1, by simp [DataW.trod, Try.underlying3, x1]⟩
  obtain ⟨c2, e2, y2, z2, m2, rfl, rfl, rfl, hy2, hz2⟩ := open_agg2 Try.underlying24 (by kernel_rfl) cells24 (hval 2 24 v2 rfl rfl) h2
  obtain ⟨a2, f2, rfl, w2⟩ := DataW.trod_int Try.underlying3 hy2
  obtain ⟨b2, g2, rfl, x2⟩ := DataW.trod_int Try.underlying3 hz2
  simp only [List.cons.injEq, and_true] at f2 g2
  subst f2 g2
  have sr2 : ∀ (W' : World) (sp : Nat → Bool), DataW.Trod enc Try.prog W' 0 sp true 24 (.agg #[.int .i64 a2, .int .i64 b2]) (.agg [.lit (.int .i64 a2), .lit (.int .i64 b2)]) [] := fun W' sp =>
    shut_agg2 (y0 := (.lit (.int .i64 a2), [])) (y1 := (.lit (.int .i64 b2), [])) Try.underlying24 (by kernel_rfl) cells24 ⟨1, by simp [DataW.trod, Try.underlying3, w2]⟩ ⟨1, by simp [DataW.trod, Try.underlying3, x2]⟩
  clear hA0 hval0
  simp only [List.append_nil] at hW'
  refine (tells_walk a0 a1 b1 a2 b2 W).mono fun e W' ⟨he, hb⟩ => ?_
  subst he
  exact ⟨_, rfl, ⟨_, _, _, [], _, [], hW', (trodAll_cons_mk (shut_bool Try.underlying4 _) trodAll_mk0), (trodAll_cons_mk (shut_int Try.underlying3 w0) (trodAll_cons_mk (sr1 _ _) (trodAll_cons_mk (sr2 _ _) trodAll_mk0))), rfl, hb.frame _, fun h => by cases h⟩⟩

/-- The statement. -/
theorem proved : Rows.ValueTellsSaid :=
  OpenClaim.holds_of_wide 5 Try.f5 rfl rfl rfl rfl rfl rfl rfl ⟨rfl, rfl, rfl, rfl, rfl⟩ rfl rfl rfl rfl rfl (by kernel_rfl) Try.func5 (by kernel_rfl)
    (of_decide_eq_true (by kernel_rfl)) (by unfold Func.isWrapper; first | (rw [if_pos (by decide +kernel)]; kernel_rfl) | (rw [if_neg (by decide +kernel)]; exact ⟨rfl, rfl⟩))
    (fun os started H enc _ => lifted os started H enc)

end Go.Proofs.Ytgeobfdaoafklaa.valueTells
