/- The walk of trial.Full. Conditions: the engine is as one that was made; handles; a thousand sweeps at most. -/
import Derived.Test.YtlpklloagaccoaaGreatTrW
import Derived.Outline
namespace Go.Proofs.YtlpklloagaccoaaGreat
open Go.RowKit
set_option linter.unusedVariables false

/-- Sweeps till nothing goes. -/
inductive FuR (roots : List Int) : EngS → EngS → List Int → List Int → Nat → Prop
  | stop {S S1 S2 : EngS} : Fit roots S → DrR S roots S1 [] [] → Fit roots S1 → TrR S1 roots S2 [] [] → FuR roots S S2 [] [] 0
  | more {S S1 S2 S3 : EngS} {f1 t1 f2 t2 F T : List Int} {n : Nat} : Fit roots S → DrR S roots S1 f1 t1 → Fit roots S1 → TrR S1 roots S2 f2 t2 → 0 < f1.length + t1.length + f2.length + t2.length → FuR roots S2 S3 F T n → FuR roots S S3 (f1 ++ f2 ++ F) (t1 ++ t2 ++ T) (n + 1)
theorem FuR.inv {roots : List Int} {S S' : EngS} {F T : List Int} {n : Nat} (h : FuR roots S S' F T n) : ∃ S1 S2 f1 t1 f2 t2, Fit roots S ∧ DrR S roots S1 f1 t1 ∧ Fit roots S1 ∧ TrR S1 roots S2 f2 t2 ∧
    ((f1 = [] ∧ t1 = [] ∧ f2 = [] ∧ t2 = [] ∧ F = [] ∧ T = [] ∧ S' = S2) ∨ (0 < f1.length + t1.length + f2.length + t2.length ∧ ∃ F' T' m, n = m + 1 ∧ FuR roots S2 S' F' T' m ∧ F = f1 ++ f2 ++ F' ∧ T = t1 ++ t2 ++ T')) := by
  cases h with
  | stop a b c d => exact ⟨_, _, _, _, _, _, a, b, c, d, .inl ⟨rfl, rfl, rfl, rfl, rfl, rfl, rfl⟩⟩
  | more a b c d e f => exact ⟨_, _, _, _, _, _, a, b, c, d, .inr ⟨e, _, _, _, rfl, f, rfl, rfl⟩⟩
def FuPost (o : Own) (w : World) (p : Nat) (S' : EngS) (f t : List Int) (e : Ending) (w' : World) : Prop :=
  ∃ vf vt o', e = .returned (.tuple #[vf, vt]) ∧ Fr 1 70 o o' w w' ∧ EngRep o' w' 1 p S' ∧ LRow o' w' 68 vf f ∧ LRow o' w' 69 vt t
/-- Between two sweeps, and between their halves. -/
def FuI (o : Own) (w : World) (p : Nat) (S : EngS) (F T : List Int) (nf nt : Nat) (vf vt : Value) (w' : World) : Prop :=
  ∃ o' Af cf At ct, Fr 1 70 o o' w w' ∧ EngRep o' w' 1 p S ∧ vf = .slice Af nf cf ∧ vt = .slice At nt ct ∧ LRow o' w' 68 (.slice Af nf cf) F ∧ LRow o' w' 69 (.slice At nt ct) T
def FuJ (o : Own) (w : World) (p G : Nat) (S : EngS) (F T : List Int) (nf nt : Nat) (vf vt : Value) (w' : World) : Prop :=
  ∃ o' Af cf At ct, Fr 1 70 o o' w w' ∧ EngRep o' w' 1 p S ∧ vf = .slice Af nf cf ∧ vt = .slice At nt ct ∧ LRow o' w' 68 (.slice Af nf cf) F ∧ LRow o' w' 69 (.slice At nt ct) T ∧ Blk o' w' 0 G (.cells #[.func (.func 83) #[] #[], .func (.func 85) #[] #[]] 91 (0, 0))
set_option maxRecDepth 100000 in
set_option maxHeartbeats 4000000 in
theorem full_run {o : Own} {p : Nat} {S S' : EngS} {F T : List Int} {n : Nat} (A : Option Addr) (m cap : Nat) (roots : List Int) (w : World) (ho : Owned o w) (E : EngRep o w 1 p S) (R : RdS w w.heap.size .i64 A m roots) (hA : ∀ b off, A = some ⟨b, off, none⟩ → b < w.heap.size ∧ (o b < 1 ∨ 70 ≤ o b)) (D : FuR roots S S' F T n) (hl : F.length + T.length ≤ 100000) :
    Calls Tryz.prog 86 #[.pointer (some ⟨p, 0, none⟩), .slice A m cap] w (FuPost o w p S' F T) := by
  have HO := Lib.hid ho
  have HE := Lib.hid E
  have HR := Lib.hid R
  have HD := Lib.hid D
  have HL := Lib.hid hl
  have HA := Lib.hid hA
  clear ho E R D hl hA
  go_enter Tryz.func86, Tryz.ntmps86
  go_wp2_with fail
  go_loopg [6, 7, 8, 10, 11, 12] n (fun k vf vt _ _ _ _ wr => ∃ (S1 : EngS) (F0 T0 F1 T1 : List Int) (nf nt : Nat), FuI o w p S1 F0 T0 nf nt vf vt wr ∧ FuR roots S1 S' F1 T1 k ∧ F = F0 ++ F1 ∧ T = T0 ++ T1)
  case atStart => exact ⟨S, [], [], F, T, 0, 0, ⟨o, _, _, _, _, Fr.refl HO.out, HE.out, rfl, rfl, LRow.nil _ _ _, LRow.nil _ _ _⟩, HD.out, rfl, rfl⟩
  case round =>
    obtain ⟨S1, F0, T0, F1, T1, nf, nt, ⟨o1, Af, cf, At, ct, G1, E1, rfl, rfl, Lf, Lt⟩, D1, hF, hT⟩ := hrel
    have hnf := Lf.len
    have hnt := Lt.len
    have hfl : F.length = F0.length + F1.length := by rw [hF, List.length_append]
    have htl : T.length = T0.length + T1.length := by rw [hT, List.length_append]
    have hb1 : (nf : Int) ≤ 100000 := by have := HL.out; omega
    have hb2 : (nt : Int) ≤ 100000 := by have := HL.out; omega
    obtain ⟨S2, S3, f1, t1, f2, t2, X1, Dd, X2, Dt, hcase⟩ := D1.inv
    have HG1 := Lib.hid G1
    have HE1 := Lib.hid E1
    have HL1 := Lib.hid (And.intro Lf Lt)
    have HX := Lib.hid (And.intro X1 (And.intro Dd (And.intro X2 (And.intro Dt hcase))))
    have HFT := Lib.hid (And.intro hF (And.intro hT (And.intro hnf (And.intro hnt (And.intro hfl htl)))))
    clear G1 E1 Lf Lt X1 Dd X2 Dt hcase hF hT hnf hnt hfl htl D1
    go_wp2_with fail
    have B0 : Blk o1 (wr.alloc (.cells #[.func (.func 83) #[] #[], .func (.func 85) #[] #[]] 91)) 0 wr.heap.size (.cells #[.func (.func 83) #[] #[], .func (.func 85) #[] #[]] 91 (0, 0)) := ⟨HG1.out.fresh _ (Nat.le_refl _), heap_alloc_new wr _⟩
    have F0' : Fr 0 0 o1 o1 wr (wr.alloc (.cells #[.func (.func 83) #[] #[], .func (.func 85) #[] #[]] 91)) := (Fr.refl HG1.out.fresh).alloc _
    generalize wr.alloc (.cells #[.func (.func 83) #[] #[], .func (.func 85) #[] #[]] 91) = w1 at *
    generalize wr.heap.size = G at *
    have HJ0 := Lib.hid (show FuJ o w p G S1 F0 T0 nf nt (.slice Af nf cf) (.slice At nt ct) w1 from ⟨o1, _, _, _, _, HG1.out.trans (F0'.none 1 70), HE1.out.keep F0' (.inr (by omega)), rfl, rfl, HL1.out.1.keep F0' (.inr (by omega)), HL1.out.2.keep F0' (.inr (by omega)), B0⟩)
    clear B0 F0'
    obtain ⟨nf1, hnf1⟩ : ∃ k, k = nf + f1.length := ⟨_, rfl⟩
    obtain ⟨nt1, hnt1⟩ : ∃ k, k = nt + t1.length := ⟨_, rfl⟩
    obtain ⟨nf2, hnf2⟩ : ∃ k, k = nf1 + f2.length := ⟨_, rfl⟩
    obtain ⟨nt2, hnt2⟩ : ∃ k, k = nt1 + t2.length := ⟨_, rfl⟩
    have HNs := Lib.hid (And.intro hnf1 (And.intro hnt1 (And.intro hnf2 hnt2)))
    have HLf1 := Lib.hid (show (F0 ++ f1).length = nf1 by rw [List.length_append]; have := HFT.out; omega)
    have HLt1 := Lib.hid (show (T0 ++ t1).length = nt1 by rw [List.length_append]; have := HFT.out; omega)
    have HLf2 := Lib.hid (show (F0 ++ f1 ++ f2).length = nf2 by rw [List.length_append, List.length_append]; have := HFT.out; omega)
    have HLt2 := Lib.hid (show (T0 ++ t1 ++ t2).length = nt2 by rw [List.length_append, List.length_append]; have := HFT.out; omega)
    have hbd : nf2 + nt2 ≤ 100000 := by
      have h1 := HFT.out
      have h2 := HL.out
      rcases HX.out.2.2.2.2 with ⟨rfl, rfl, rfl, rfl, rfl, rfl, _⟩ | ⟨_, F', T', m', _, _, rfl, rfl⟩
      · simp only [List.length_nil] at *; omega
      · simp only [List.length_append] at h1; omega
    have HBd := Lib.hid (show nf2 + nt2 ≤ 100000 ∧ F0.length + f1.length + f2.length + T0.length + t1.length + t2.length ≤ 100000 from ⟨hbd, by have := HFT.out; omega⟩)
    have hb3 : (nf2 : Int) ≤ 100000 := by omega
    have hb4 : (nt2 : Int) ≤ 100000 := by omega
    clear hnf1 hnt1 hnf2 hnt2 hbd
    go_loopw [6, 7, 20] (fun vf vt iv wq => (iv = .int .i64 0 ∧ FuJ o w p G S1 F0 T0 nf nt vf vt wq) ∨ (iv = .int .i64 1 ∧ FuJ o w p G S2 (F0 ++ f1) (T0 ++ t1) nf1 nt1 vf vt wq) ∨ (iv = .int .i64 2 ∧ FuJ o w p G S3 (F0 ++ f1 ++ f2) (T0 ++ t1 ++ t2) nf2 nt2 vf vt wq)) (fun _ _ iv _ => 2 - (intOf iv).toNat)
    case atStart => exact .inl ⟨rfl, HJ0.out⟩
    case round =>
      rcases hrel with ⟨rfl, hJ⟩ | ⟨rfl, hJ⟩ | ⟨rfl, hJ⟩
      · obtain ⟨o2, Af2, cf2, At2, ct2, G2, E2, rfl, rfl, Lf2, Lt2, B2⟩ := hJ
        have cG := B2.cell 0
        simp only [List.getElem?_toArray, List.getElem?_cons_zero] at cG
        have lG := B2.lt
        have HCall := Lib.hid (drain_run A m cap roots wr G2.fresh E2 (HR.out.keepFr (Nat.le_refl _) G2 fun b off h => by have := (HA.out b off h).2; omega) HX.out.2.1 HX.out.1.rng HX.out.1.len HX.out.1.z)
        have HG2 := Lib.hid G2
        have HL2 := Lib.hid (And.intro Lf2 (And.intro Lt2 B2))
        clear G2 E2 Lf2 Lt2 B2
        go_wp2_with fail
        go_at_call 83
        refine HCall.out.mono ?_
        rintro e w3 ⟨va, vb, o3, rfl, F3, E3, La, Lb⟩
        obtain ⟨A3, c3, hva, _⟩ := La.rd
        obtain ⟨B3, d3, hvb, _⟩ := Lb.rd
        subst hva hvb
        have HF3 := Lib.hid F3
        have HE3 := Lib.hid E3
        have HR3 := Lib.hid (And.intro La Lb)
        have HL3 := Lib.hid (And.intro (HL2.out.1.keep F3 (.inr (by omega))) (And.intro (HL2.out.2.1.keep F3 (.inr (by omega))) (HL2.out.2.2.keep F3 (.inl (by omega)))))
        clear F3 E3 La Lb cG lG
        go_wp2_with (first
          | (at_builtin; refine wpList_append_row _ rfl _ _ _ rfl Tryz.underlying38 (own := o3) HF3.out.fresh 68 rfl HL3.out.1 rfl HR3.out.1.rdn (by have := HBd.out; (try simp only [List.length_append]); omega) ?_; intro v4 w4 o4 F4 R4; obtain ⟨A4, c4, hv4, _⟩ := R4.rd; rw [HLf1.out] at hv4; subst hv4; have HF4 := Lib.hid F4; have HR4 := Lib.hid R4; have HL4 := Lib.hid (And.intro (HL3.out.2.1.keep F4 (.inr (by omega))) (And.intro (HL3.out.2.2.keep F4 (.inl (by omega))) (HR3.out.2.keep F4 (.inl (by omega))))); clear F4 R4)
          | (at_builtin; refine wpList_append_row _ rfl _ _ _ rfl Tryz.underlying38 (own := o4) HF4.out.fresh 69 rfl HL4.out.1 rfl HL4.out.2.2.rdn (by have := HBd.out; (try simp only [List.length_append]); omega) ?_; intro v5 w5 o5 F5 R5; obtain ⟨A5, c5, hv5, _⟩ := R5.rd; rw [HLt1.out] at hv5; subst hv5; have HF5 := Lib.hid F5; have HR5 := Lib.hid R5; clear F5 R5))
        exact ⟨.inr (.inl ⟨by first | rfl | go_num, o5, _, _, _, _, HG2.out.trans ((HF3.out.mono (by omega) (by omega)).trans ((HF4.out.mono (by omega) (by omega)).trans (HF5.out.mono (by omega) (by omega)))), (HE3.out.keep HF4.out (.inl (by omega))).keep HF5.out (.inl (by omega)), rfl, rfl, HR4.out.keep HF5.out (.inl (by omega)), HR5.out, HL4.out.2.1.keep HF5.out (.inl (by omega))⟩), by simp [intOf]⟩
      · obtain ⟨o2, Af2, cf2, At2, ct2, G2, E2, rfl, rfl, Lf2, Lt2, B2⟩ := hJ
        have cG := B2.cell 1
        simp only [List.getElem?_toArray, List.getElem?_cons_zero, List.getElem?_cons_succ] at cG
        have lG := B2.lt
        have HCall := Lib.hid (trial_run A m cap roots wr G2.fresh E2 (HR.out.keepFr (Nat.le_refl _) G2 fun b off h => by have := (HA.out b off h).2; omega) (fun b off h => by have h1 := HA.out b off h; rw [G2.own b h1.1]; omega) HX.out.2.2.2.1 HX.out.2.2.1)
        have HG2 := Lib.hid G2
        have HL2 := Lib.hid (And.intro Lf2 (And.intro Lt2 B2))
        clear G2 E2 Lf2 Lt2 B2
        go_wp2_with fail
        go_at_call 85
        refine HCall.out.mono ?_
        rintro e w3 ⟨va, vb, o3, rfl, F3, E3, La, Lb⟩
        obtain ⟨A3, c3, hva, _⟩ := La.rd
        obtain ⟨B3, d3, hvb, _⟩ := Lb.rd
        subst hva hvb
        have HF3 := Lib.hid F3
        have HE3 := Lib.hid E3
        have HR3 := Lib.hid (And.intro La Lb)
        have HL3 := Lib.hid (And.intro (HL2.out.1.keep F3 (.inr (by omega))) (And.intro (HL2.out.2.1.keep F3 (.inr (by omega))) (HL2.out.2.2.keep F3 (.inl (by omega)))))
        clear F3 E3 La Lb cG lG
        go_wp2_with (first
          | (at_builtin; refine wpList_append_row _ rfl _ _ _ rfl Tryz.underlying38 (own := o3) HF3.out.fresh 68 rfl HL3.out.1 rfl HR3.out.1.rdn (by have := HBd.out; (try simp only [List.length_append]); omega) ?_; intro v4 w4 o4 F4 R4; obtain ⟨A4, c4, hv4, _⟩ := R4.rd; rw [HLf2.out] at hv4; subst hv4; have HF4 := Lib.hid F4; have HR4 := Lib.hid R4; have HL4 := Lib.hid (And.intro (HL3.out.2.1.keep F4 (.inr (by omega))) (And.intro (HL3.out.2.2.keep F4 (.inl (by omega))) (HR3.out.2.keep F4 (.inl (by omega))))); clear F4 R4)
          | (at_builtin; refine wpList_append_row _ rfl _ _ _ rfl Tryz.underlying38 (own := o4) HF4.out.fresh 69 rfl HL4.out.1 rfl HL4.out.2.2.rdn (by have := HBd.out; (try simp only [List.length_append]); omega) ?_; intro v5 w5 o5 F5 R5; obtain ⟨A5, c5, hv5, _⟩ := R5.rd; rw [HLt2.out] at hv5; subst hv5; have HF5 := Lib.hid F5; have HR5 := Lib.hid R5; clear F5 R5))
        exact ⟨.inr (.inr ⟨by first | rfl | go_num, o5, _, _, _, _, HG2.out.trans ((HF3.out.mono (by omega) (by omega)).trans ((HF4.out.mono (by omega) (by omega)).trans (HF5.out.mono (by omega) (by omega)))), (HE3.out.keep HF4.out (.inl (by omega))).keep HF5.out (.inl (by omega)), rfl, rfl, HR4.out.keep HF5.out (.inl (by omega)), HR5.out, HL4.out.2.1.keep HF5.out (.inl (by omega))⟩), by simp [intOf]⟩
      · obtain ⟨o2, Af2, cf2, At2, ct2, G2, E2, rfl, rfl, Lf2, Lt2, B2⟩ := hJ
        have HG2 := Lib.hid G2
        have HE2 := Lib.hid E2
        have HL2 := Lib.hid (And.intro Lf2 Lt2)
        clear G2 E2 Lf2 Lt2 B2
        rcases HX.out.2.2.2.2 with ⟨rfl, rfl, rfl, rfl, rfl, rfl, rfl⟩ | ⟨hpos, F', T', m', hkm, Dn, rfl, rfl⟩
        · have hq : ((nf2 : Int) + (nt2 : Int) == (nf : Int) + (nt : Int)) = true := beq_iff_eq.2 (by have := HNs.out; simp only [List.length_nil] at this; omega)
          simp only [List.append_nil] at HL2
          have hF := HFT.out.1
          have hT := HFT.out.2.1
          rw [List.append_nil] at hF hT
          have HFF := Lib.hid (And.intro hF hT)
          clear hF hT
          go_wp2_with fail
          go_ret2
          refine ⟨_, _, o2, rfl, HG2.out, HE2.out, ?_, ?_⟩
          · rw [HFF.out.1]; exact HL2.out.1
          · rw [HFF.out.2]; exact HL2.out.2
        · have hq : ((nf2 : Int) + (nt2 : Int) == (nf : Int) + (nt : Int)) = false := beq_eq_false_iff_ne.2 (by have := HNs.out; omega)
          have HDn := Lib.hid Dn
          have HKm := Lib.hid hkm
          clear Dn hkm
          go_wp2_with fail
          go_roundg m'
          case measure => have := HKm.out; omega
          case rel => exact ⟨S3, F0 ++ f1 ++ f2, T0 ++ t1 ++ t2, F', T', nf2, nt2, ⟨o2, _, _, _, _, HG2.out, HE2.out, rfl, rfl, HL2.out.1, HL2.out.2⟩, HDn.out, by rw [HFT.out.1]; simp only [List.append_assoc], by rw [HFT.out.2.1]; simp only [List.append_assoc]⟩
end Go.Proofs.YtlpklloagaccoaaGreat
