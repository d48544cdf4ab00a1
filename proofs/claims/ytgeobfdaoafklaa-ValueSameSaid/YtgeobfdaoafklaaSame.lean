/- ValueSame returns true at every three values: sameness goes either way round and on. No condition. -/
import Derived.Test.YtgeobfdaoafklaaParts
import Derived.ProofKit
import Derived.OpenShut
import Derived.Lib.SmallJoins
namespace Go.Proofs.Ytgeobfdaoafklaa.valueSame
open Go.ChangeShapes Go.WideShapes Go.ChangeAt Go.RowKit Go.Joins
set_option linter.unusedVariables false
theorem same13' {ak an bk bn : Int} {b : Bool} (h : sameB ak an bk bn = b) (w : World) : Calls Try.prog 13 #[.agg #[.int .i64 ak, .int .i64 an], .agg #[.int .i64 bk, .int .i64 bn]] w fun e w' => e = .returned (.bool b) ∧ Below w.heap.size w w' := h ▸ same13 ak an bk bn w
set_option maxHeartbeats 1000000 in
theorem same_walk (ak an bk bn ck cn : Int) (s1 s2 s3 t1 t3 : Bool) (w : World) (h1 : sameB ak an ak an = true) (h2 : sameB ak an bk bn = s1) (h3 : sameB bk bn ak an = s1) (h4 : sameB bk bn ck cn = s2) (h5 : sameB ak an ck cn = s3)
    (h6 : truthB ak an = t1) (h7 : truthB ck cn = t3) (h8 : s1 = false ∨ (s1 = true ∧ s2 = false) ∨ (s1 = true ∧ s2 = true ∧ s3 = true ∧ t1 = t3)) : Calls Try.prog 6 #[.agg #[.int .i64 ak, .int .i64 an], .agg #[.int .i64 bk, .int .i64 bn], .agg #[.int .i64 ck, .int .i64 cn]] w fun e w' => e = .returned (.bool true) ∧ Below w.heap.size w w' := by
  rcases h8 with rfl | ⟨rfl, rfl⟩ | ⟨rfl, rfl, rfl, rfl⟩
  all_goals
    go_enter Try.func6, Try.ntmps6
    go_wp2_with (first | (go_at_call 7; refine (alive_any _).mono ?_; rintro e w1 ⟨rfl, hb1⟩; obtain ⟨hc1, hf1, hz1⟩ := bcell3 hb1; (try simp only [World.size_alloc] at hz1); have hy1 : w.heap.size < w1.heap.size := (by omega); have hx1 : w.heap.size + 1 < w1.heap.size := (by omega)))
    have g0 : w1.cell? ⟨w.heap.size, 0, none⟩ = some (.int .i64 ak) := by go_simp
    have g1 : w1.cell? ⟨w.heap.size, 1, none⟩ = some (.int .i64 an) := by go_simp
    have g2 : w1.cell? ⟨w.heap.size + 1, 0, none⟩ = some (.int .i64 bk) := by go_simp
    have g3 : w1.cell? ⟨w.heap.size + 1, 1, none⟩ = some (.int .i64 bn) := by go_simp
    have g4 : w1.cell? ⟨w.heap.size + 1 + 1, 0, none⟩ = some (.int .i64 ck) := by go_simp
    have g5 : w1.cell? ⟨w.heap.size + 1 + 1, 1, none⟩ = some (.int .i64 cn) := by go_simp
    refine wp_region_keep (w := w) (by kernel_rfl) (by kernel_rfl) (by repeat (first | exact Below.refl _ _ | refine below_alloc ?_ _ | refine below_trans ?_ ‹_› | refine Below.drew ?_)) ?_
    intro hne
    have k0 := Keep.cell (w := w) g0
    have k1 := Keep.cell (w := w) g1
    have k2 := Keep.cell (w := w) g2
    have k3 := Keep.cell (w := w) g3
    have k4 := Keep.cell (w := w) g4
    have k5 := Keep.cell (w := w) g5
    repeat (go_big_quiet_step (first | (go_at_call 11; exact Keep.call _ (truth11 _ _ _)) | (go_at_call 13; first | (with_reducible exact Keep.call _ (same13' h1 _)) | (with_reducible exact Keep.call _ (same13' h2 _)) | (with_reducible exact Keep.call _ (same13' h3 _)) | (with_reducible exact Keep.call _ (same13' h4 _)) | (with_reducible exact Keep.call _ (same13' h5 _)))))
    refine wpQuiet_nil ?_
    rintro _ ⟨n, rfl⟩
    clear hne
    have c0 := k0 n
    have c1 := k1 n
    have c2 := k2 n
    have c3 := k3 n
    have c4 := k4 n
    have c5 := k5 n
    have hbn := n.property.1
    clear k0 k1 k2 k3 k4 k5 g0 g1 g2 g3 g4 g5
    generalize n.val = w2 at *
    go_wp2
    refine wp_region_keep (w := w) (by kernel_rfl) (by kernel_rfl) hbn ?_
    intro hne
    have k0 := Keep.cell (w := w) c0
    have k1 := Keep.cell (w := w) c1
    have k2 := Keep.cell (w := w) c2
    have k3 := Keep.cell (w := w) c3
    have k4 := Keep.cell (w := w) c4
    have k5 := Keep.cell (w := w) c5
    repeat (go_big_quiet_step (first | (go_at_call 11; exact Keep.call _ (truth11 _ _ _)) | (go_at_call 13; first | (with_reducible exact Keep.call _ (same13' h1 _)) | (with_reducible exact Keep.call _ (same13' h2 _)) | (with_reducible exact Keep.call _ (same13' h3 _)) | (with_reducible exact Keep.call _ (same13' h4 _)) | (with_reducible exact Keep.call _ (same13' h5 _)))))
    refine wpQuiet_nil ?_
    rintro _ ⟨m, rfl⟩
    go_wp2
    go_ret
    exact ⟨by simp, m.property.1⟩

theorem same_all (ak an bk bn ck cn : Int) (w : World) : Calls Try.prog 6 #[.agg #[.int .i64 ak, .int .i64 an], .agg #[.int .i64 bk, .int .i64 bn], .agg #[.int .i64 ck, .int .i64 cn]] w fun e w' => e = .returned (.bool true) ∧ Below w.heap.size w w' := by
  have r1 : sameB ak an ak an = true := by simp [sameB]
  have r2 : sameB bk bn ak an = sameB ak an bk bn := by
    unfold sameB
    by_cases h : ak = bk
    · subst h
      by_cases h2 : an = bn
      · subst h2; rfl
      · have e1 : (bn == an) = false := by simpa using fun e => h2 e.symm
        have e2 : (an == bn) = false := by simpa using h2
        rw [e1, e2]
    · have e1 : (bk == ak) = false := by simpa using fun e => h e.symm
      have e2 : (ak == bk) = false := by simpa using h
      rw [e1, e2]; rfl
  refine same_walk ak an bk bn ck cn _ _ _ _ _ w r1 rfl r2 rfl rfl rfl rfl ?_
  cases h1 : sameB ak an bk bn with
  | false => exact .inl rfl
  | true =>
    cases h2 : sameB bk bn ck cn with
    | false => exact .inr (.inl ⟨rfl, rfl⟩)
    | true =>
      refine .inr (.inr ⟨rfl, rfl, ?_⟩)
      simp [sameB] at h1 h2
      obtain ⟨rfl, h1⟩ := h1
      obtain ⟨rfl, h2⟩ := h2
      by_cases h0 : ak = 0
      · subst h0; simp [sameB, truthB]
      · have e1 : an = bn := h1.resolve_left h0
        have e2 : bn = cn := h2.resolve_left h0
        subst e1 e2
        simp [sameB]

theorem own : ownKnob Try.prog.godebug = none := by kernel_rfl
theorem cells24 : Try.prog.cellsOf 24 = 2 := by kernel_rfl
set_option maxRecDepth 100000 in
theorem lifted (os : Os) (started : os.Started) (H : Type) (enc : TypeId × Value → H) :
    ReturnsInHanded {} Try.checked os 6 .any (Rows.valueSameSpec.pre6 enc Try.prog Try.f6 Rows.valueSameRow.domain false) (Rows.valueSameSpec.post enc Try.prog Try.f6 false true false false) := by
  refine returnsInHanded_of_change (C := Try.checked) own started (by kernel_rfl) Try.func6
    (ChangeSpec.witness6 (enc := enc) (C := Try.checked) false ⟨#[], #[.agg #[.int .i64 0, .int .i64 0], .agg #[.int .i64 0, .int .i64 0], .agg #[.int .i64 0, .int .i64 0]], []⟩ 8 (by kernel_rfl) (by kernel_rfl) (by kernel_rfl) (by kernel_rfl)) ?_
  intro W base args ds gs before hval0 hW _ _
  have hval : ∀ (j : Nat) t v, Try.f6.params[j]? = some t → args[j]? = some v → Value.okWide Try.prog W .any base t v := hval0
  have hW' := hW
  obtain ⟨p, q, hA0, hV, rfl, hfz, hnd⟩ := hW
  have hA : DataW.TrodAll enc Try.prog W 0 (fun _ => true) true Try.f6.params.toList args.toList ds p := hA0
  rw [Try.params6] at hA hval
  obtain ⟨v0, vs0, d0, ds0, p0, q0, hargs, rfl, rfl, h0, r0⟩ := trodAll_cons hA
  obtain ⟨v1, vs1, d1, ds1, p1, q1, rfl, rfl, rfl, h1, r1⟩ := trodAll_cons r0
  obtain ⟨v2, vs2, d2, ds2, p2, q2, rfl, rfl, rfl, h2, r2⟩ := trodAll_cons r1
  obtain ⟨rfl, rfl, rfl⟩ := trodAll_nil r2
  obtain rfl : args = #[v0, v1, v2] := by cases args; simp_all
  obtain ⟨rfl, rfl⟩ := trodVars_none hV
  obtain ⟨c0, e0, y0, z0, m0, rfl, rfl, rfl, hy0, hz0⟩ := open_agg2 Try.underlying24 (by kernel_rfl) cells24 (hval 0 24 v0 rfl rfl) h0
  obtain ⟨a0, f0, rfl, w0⟩ := DataW.trod_int Try.underlying3 hy0
  obtain ⟨b0, g0, rfl, x0⟩ := DataW.trod_int Try.underlying3 hz0
  simp only [List.cons.injEq, and_true] at f0 g0
  subst f0 g0
  have sr0 : ∀ (W' : World) (sp : Nat → Bool), DataW.Trod enc Try.prog W' 0 sp true 24 (.agg #[.int .i64 a0, .int .i64 b0]) (.agg [.lit (.int .i64 a0), .lit (.int .i64 b0)]) [] := fun W' sp =>
    shut_agg2 (y0 := (.lit (.int .i64 a0), [])) (y1 := (.lit (.int .i64 b0), [])) Try.underlying24 (by kernel_rfl) cells24 ⟨1, by simp [DataW.trod, Try.underlying3, w0]⟩ ⟨1, by simp [DataW.trod, Try.underlying3, x0]⟩
  obtain ⟨c1, e1, y1, z1, m1, rfl, rfl, rfl, hy1, hz1⟩ := open_agg2 Try.underlying24 (by kernel_rfl) cells24 (hval 1 24 v1 rfl rfl) h1
  obtain ⟨a1, f1, rfl, w1⟩ := DataW.trod_int Try.underlying3 hy1
  obtain ⟨b1, g1, rfl, x1⟩ := DataW.trod_int Try.underlying3 hz1
  simp only [List.cons.injEq, and_true] at f1 g1
  subst f1 g1
  have sr1 : ∀ (W' : World) (sp : Nat → Bool), DataW.Trod enc Try.prog W' 0 sp true 24 (.agg #[.int .i64 a1, .int .i64 b1]) (.agg [.lit (.int .i64 a1), .lit (.int .i64 b1)]) [] := fun W' sp =>
    shut_agg2 (y0 := (.lit (.int .i64 a1), [])) (y1 := (.lit (.int .i64 b1), [])) Try.underlying24 (by kernel_rfl) cells24 ⟨1, by simp [DataW.trod, Try.underlying3, w1]⟩ ⟨1, by simp [DataW.trod, Try.underlying3, x1]⟩
  obtain ⟨c2, e2, y2, z2, m2, rfl, rfl, rfl, hy2, hz2⟩ := open_agg2 Try.underlying24 (by kernel_rfl) cells24 (hval 2 24 v2 rfl rfl) h2
  obtain ⟨a2, f2, rfl, w2⟩ := DataW.trod_int Try.underlying3 hy2
  obtain ⟨b2, g2, rfl, x2⟩ := DataW.trod_int Try.underlying3 hz2
  simp only [List.cons.injEq, and_true] at f2 g2
  subst f2 g2
  have sr2 : ∀ (W' : World) (sp : Nat → Bool), DataW.Trod enc Try.prog W' 0 sp true 24 (.agg #[.int .i64 a2, .int .i64 b2]) (.agg [.lit (.int .i64 a2), .lit (.int .i64 b2)]) [] := fun W' sp =>
    shut_agg2 (y0 := (.lit (.int .i64 a2), [])) (y1 := (.lit (.int .i64 b2), [])) Try.underlying24 (by kernel_rfl) cells24 ⟨1, by simp [DataW.trod, Try.underlying3, w2]⟩ ⟨1, by simp [DataW.trod, Try.underlying3, x2]⟩
  clear hA0 hval0
  simp only [List.append_nil] at hW'
  refine (same_all a0 b0 a1 b1 a2 b2 W).mono fun e W' ⟨he, hb⟩ => ?_
  subst he
  exact ⟨_, rfl, ⟨_, _, _, [], _, [], hW', (trodAll_cons_mk (shut_bool Try.underlying4 _) trodAll_mk0), (trodAll_cons_mk (sr0 _ _) (trodAll_cons_mk (sr1 _ _) (trodAll_cons_mk (sr2 _ _) trodAll_mk0))), rfl, hb.frame _, fun h => by cases h⟩⟩

/-- The statement. -/
theorem proved : Rows.ValueSameSaid :=
  OpenClaim.holds_of_wide 6 Try.f6 rfl rfl rfl rfl rfl rfl rfl ⟨rfl, rfl, rfl, rfl, rfl⟩ rfl rfl rfl rfl rfl (by kernel_rfl) Try.func6 (by kernel_rfl)
    (of_decide_eq_true (by kernel_rfl)) (by unfold Func.isWrapper; first | (rw [if_pos (by decide +kernel)]; kernel_rfl) | (rw [if_neg (by decide +kernel)]; exact ⟨rfl, rfl⟩))
    (fun os started H enc _ => lifted os started H enc)

end Go.Proofs.Ytgeobfdaoafklaa.valueSame
