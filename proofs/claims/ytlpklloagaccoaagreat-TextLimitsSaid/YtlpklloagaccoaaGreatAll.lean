/- All objects of an engine (count.All). Conditions: the engine is as one that was made. -/
import Derived.Test.YtlpklloagaccoaaGreatLive
import Derived.Test.YtlpklloagaccoaaGreatRowS
import Derived.Outline
namespace Go.Proofs.YtlpklloagaccoaaGreat
open Go.RowKit
set_option linter.unusedVariables false

theorem elObj : ElS 89 (.agg #[.int .i64 0, .int .i64 0, .int .i64 0, .bool false, .slice none 0 0]) 5 56 :=
  ⟨info_parts (show (Tryz.prog.info? 89).map (fun i => (i.zero, i.size, i.bytes)) = some (some (.agg #[.int .i64 0, .int .i64 0, .int .i64 0, .bool false, .slice none 0 0]), 5, 56) from by kernel_rfl), by decide, by decide, by decide⟩
/-- All objects: how many, and where the first numbers stand. -/
def AllPost (o : Own) (w : World) (S : EngS) (e : Ending) (w' : World) : Prop :=
  ∃ (A : Option Addr) (cap : Nat) (hs : List Int), e = .returned (.slice A hs.length cap) ∧ SetL (isOb S.ob) hs ∧ Fr 0 0 o o w w' ∧ hs.length ≤ 1048576 ∧ ∀ i, i < hs.length → ∃ g, A = some ⟨g, 0, none⟩ ∧ g < w'.heap.size ∧ w'.cell? ⟨g, 5 * i, none⟩ = some (.int .i64 (hs.getD i 0))
set_option maxRecDepth 100000 in
set_option maxHeartbeats 1000000 in
theorem rall {o : Own} {r p : Nat} {S : EngS} (w : World) (hr : 1 ≤ r) (ho : Owned o w) (E : EngRep o w r p S) :
    Calls Tryz.prog 74 #[.pointer (some ⟨p, 0, none⟩)] w (AllPost o w S) := by
  obtain ⟨ps, pt, pz, pp, bw, bk, v, K, E0, A⟩ := E
  have E : EngRep o w r p S := ⟨ps, pt, pz, pp, bw, bk, v, K, E0, A⟩
  have hio : isOb K.ob = isOb S.ob := by
    funext k
    unfold isOb
    rw [A.ob k]
    cases K.ob k <;> rfl
  have HA := Lib.hid (show Calls Tryz.prog 58 #[.pointer (some ⟨ps, 0, none⟩)] w (SetPost o w (isOb S.ob)) from by rw [← hio]; exact oall w ho E0.sp)
  have c0 := E0.c0
  have hpl := E0.blk.lt
  have HRg := Lib.hid (fun (k : Int) (h : isOb S.ob k = true) => show 0 ≤ k ∧ k < KB from by
    rw [← hio] at h
    obtain ⟨x, hx⟩ := Option.isSome_iff_exists.1 (show (K.ob k).isSome = true from h)
    have := E0.sp.hrange hx
    unfold KB
    omega)
  have HC := Lib.hid (fun (k : Int) (h : isOb S.ob k = true) (w1 : World) (F : Fr 0 0 o o w w1) => show Calls Tryz.prog 39 #[.pointer (some ⟨p, 0, none⟩), .int .i64 k] w1 fun e w' => e = .returned (.tuple #[.int .i64 (S.tot k), .bool (S.st k)]) ∧ Fr 0 0 o o w1 w' from by
    obtain ⟨x, hx⟩ := Option.isSome_iff_exists.1 (show (S.ob k).isSome = true from h)
    exact (rcount k x w1 F.fresh (E.keep F (.inr (Nat.zero_le _))) hx).mono fun e w' hh => ⟨hh.1, (Fr.refl F.fresh).below hh.2⟩)
  have HKd := Lib.hid (fun (k : Int) (w1 : World) (F : Fr 0 0 o o w w1) => show Calls Tryz.prog 33 #[.pointer (some ⟨p, 0, none⟩), .int .i64 k] w1 fun e w' => e = .returned (.int .i64 (kindA S k : Nat)) ∧ Fr 0 0 o o w1 w' from
    (rkind k w1 F.fresh (E.keep F (.inr (Nat.zero_le _)))).mono fun e w' hh => ⟨hh.1, (Fr.refl F.fresh).below hh.2⟩)
  have HRf := Lib.hid (fun (k : Int) (w1 : World) (F : Fr 0 0 o o w w1) => show Calls Tryz.prog 38 #[.pointer (some ⟨p, 0, none⟩), .int .i64 k] w1 fun e w' => ∃ A n cap, e = .returned (.slice A n cap) ∧ Fr 0 0 o o w1 w' from
    (rrefs k w1 hr F.fresh (E.keep F (.inr (Nat.zero_le _)))).mono fun e w' hh => by
      obtain ⟨v, h1, h2, h3⟩ := hh
      obtain ⟨A, cap, hv, _⟩ := h3.row.rd
      exact ⟨A, _, cap, by rw [h1, hv], h2⟩)
  have HO := Lib.hid ho
  clear E E0 A ho hio hr
  go_enter Tryz.func74, Tryz.ntmps74
  go_wp2_with fail
  go_at_call 58
  refine HA.out.mono ?_
  rintro e w2 ⟨vk, ks, rfl, hK, F2, R2⟩
  have HKK := Lib.hid hK
  have HF2 := Lib.hid F2
  obtain ⟨Ak, capk, hvk, hRk⟩ := R2.row.rd
  have HRk := Lib.hid hRk
  subst hvk
  have HLen := Lib.hid (hK.len HRg.out)
  have hkl : (ks.length : Int) ≤ 1048576 := by have := HLen.out; omega
  clear hK F2 R2 hRk c0 hpl
  go_wp2_with fail
  go_loopw [3, 14] (fun vv iv wr => ∃ (i : Nat) (cs : List Value), i ≤ ks.length ∧ iv = .int .i64 i ∧ Fr 0 0 o o w2 wr ∧ RowS 89 5 w2 o wr vv i cs ∧ ∀ j, j < i → cs[5 * j]? = some (.int .i64 (ks.getD j 0))) (fun _ iv _ => ks.length - (intOf iv).toNat)
  case atStart => exact ⟨0, [], by omega, rfl, Fr.refl HF2.out.fresh, RowS.nil _ _ _ _ _, fun j hj => absurd hj (Nat.not_lt_zero _)⟩
  case round =>
    obtain ⟨i, cs, hi, rfl, Fi, Ri, hcs⟩ := hrel
    by_cases hin : i < ks.length
    · have hin' : (i : Int) < ((ks.length : Nat) : Int) := by omega
      obtain ⟨bk, fk, hAk, hbk, hck⟩ := (HRk.out.keep (w' := wr) fun g hg => Fi.block g hg (.inr (Nat.zero_le _))).at_ hin
      have hbk' : bk < wr.heap.size := Nat.lt_of_lt_of_le hbk Fi.size
      have hob : isOb S.ob (ks.getD i 0) = true := (HKK.out.mem _).1 (by
        rw [show ks.getD i 0 = ks[i] from by simp [List.getD, hin]]; exact List.getElem_mem hin)
      have HCk := Lib.hid (HC.out _ hob)
      have HFi := Lib.hid Fi
      have HRi := Lib.hid Ri
      have HCs := Lib.hid hcs
      have HLi := Lib.hid (show cs.length = i * 5 from Ri.own.1)
      have HIl := Lib.hid hin
      subst hAk
      clear Fi Ri hi hob hcs
      generalize hk : ks.getD i 0 = k at *
      have HK := Lib.hid hk
      clear hk
      go_wp2_with fail
      go_at_call 39
      refine (HCk.out _ (HF2.out.trans HFi.out)).mono ?_
      rintro e w3 ⟨rfl, F3⟩
      have HF3 := Lib.hid (HFi.out.trans F3)
      have HR3 := Lib.hid (HRi.out.keep F3 (.inr rfl))
      clear F3
      generalize S.tot k = tk at *
      generalize S.st k = sk at *
      go_wp2_with fail
      go_at_call 33
      refine (HKd.out _ _ (HF2.out.trans HF3.out)).mono ?_
      rintro e w4 ⟨rfl, F4⟩
      have HF4 := Lib.hid (HF3.out.trans F4)
      have HR4 := Lib.hid (HR3.out.keep F4 (.inr rfl))
      clear F4
      generalize ((kindA S k : Nat) : Int) = kk at *
      go_wp2_with fail
      go_at_call 38
      refine (HRf.out _ _ (HF2.out.trans HF4.out)).mono ?_
      rintro e w5 ⟨Af, nf, capf, rfl, F5⟩
      have HF5 := Lib.hid (HF4.out.trans F5)
      have HR5 := Lib.hid (HR4.out.keep F5 (.inr rfl))
      clear F5
      go_wp2_with (at_builtin; refine wpList_append_rowS _ rfl _ _ _ rfl elObj Tryz.underlying84 (w0 := w2) (o0 := o) (o := o) (lo := 0) (hi := 0) (by repeat (first | exact HF5.out | refine Fr.drew ?_ | refine Fr.alloc ?_ _)) rfl (HR5.out.keep (lo := 0) (hi := 0) (by repeat (first | exact Fr.refl HF5.out.fresh | refine Fr.drew ?_ | refine Fr.alloc ?_ _)) (.inr rfl)) rfl [.int .i64 k, .int .i64 kk, .int .i64 tk, .bool sk, .slice Af nf capf] rfl (World.news_of_block (heap_alloc_new _ _)) (by intro u hu; simp only [List.mem_cons, List.not_mem_nil, or_false] at hu; rcases hu with rfl | rfl | rfl | rfl | rfl <;> rfl) (by have := HLen.out; have := HIl.out; omega) ?_; intro v6 w6 F6 R6 G6; have HF6 := Lib.hid F6; have HR6 := Lib.hid R6; clear F6 R6 G6)
      exact ⟨⟨i + 1, _, by omega, by go_num, HF6.out, HR6.out, fun j hj => by
        have hl := HLi.out
        by_cases e : j = i
        · subst e
          rw [List.getElem?_append_right (by omega), show 5 * j - cs.length = 0 by omega, HK.out]; rfl
        · rw [List.getElem?_append_left (by omega)]; exact HCs.out j (by omega)⟩, by simp [intOf]; omega⟩
    · have hin' : ¬ (i : Int) < ((ks.length : Nat) : Int) := by omega
      obtain rfl : i = ks.length := by omega
      have HFi := Lib.hid (HF2.out.trans Fi)
      have HRi := Lib.hid Ri
      have HCs := Lib.hid hcs
      clear Fi Ri hi hin hcs
      go_wp2_with fail
      go_ret
      rcases HRi.out.form with ⟨hv, hn⟩ | ⟨g, cap, hv, hg, hc⟩
      · refine ⟨none, 0, ks, ?_, HKK.out, HFi.out, HLen.out, fun j hj => by omega⟩
        rw [hn]; exact congrArg Ending.returned hv
      · refine ⟨some ⟨g, 0, none⟩, cap, ks, congrArg Ending.returned hv, HKK.out, HFi.out, HLen.out, fun j hj => ⟨g, rfl, hg, hc _ _ (HCs.out j hj)⟩⟩
end Go.Proofs.YtlpklloagaccoaaGreat
