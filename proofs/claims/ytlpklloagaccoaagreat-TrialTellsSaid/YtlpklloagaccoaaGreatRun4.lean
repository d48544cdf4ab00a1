/- What is offered, as a set; at most one. Plain Lean. The walk of drain.Run, up to its loop: the sweep is laid, the zeros are offered. Conditions: the engine is as one that was made; handles. The walk of drain.Run. Conditions: the engine is as one that was made; handles; at most one waits at a time. The walk of drain.Run. Conditions: the engine is as one that was made; handles; at most one waits at a time. -/
import Derived.Test.YtlpklloagaccoaaGreatSweep
import Derived.Test.YtlpklloagaccoaaGreatGdA
import Derived.Test.YtlpklloagaccoaaGreatCat
import Derived.Test.YtlpklloagaccoaaGreatLeast3
import Derived.Deep.LoopGhost
import Derived.Outline
namespace Go.Proofs.YtlpklloagaccoaaGreat
open Go.RowKit
set_option linter.unusedVariables false

theorem offerS_at (Z kept td : Int → Bool) (h k : Int) : offerS Z kept td h k = (td k || (decide (k = h) && Z k && !kept k)) := by
  unfold offerS updS
  by_cases hc : Z h = true ∧ kept h = false
  · rw [if_pos hc]
    by_cases e : k = h
    · subst e; simp [hc.1, hc.2]
    · simp [e]
  · rw [if_neg hc]
    by_cases e : k = h
    · subst e
      cases hz : Z k with
      | false => simp
      | true =>
        cases hk : kept k with
        | true => simp
        | false => exact absurd ⟨hz, hk⟩ hc
    · simp [e]
theorem offersS_at (Z kept : Int → Bool) (k : Int) : ∀ (xs : List Int) (td : Int → Bool), offersS Z kept td xs k = (td k || (decide (k ∈ xs) && Z k && !kept k))
  | [], td => by simp [offersS]
  | x :: xs, td => by
    show offersS Z kept (offerS Z kept td x) xs k = _
    rw [offersS_at Z kept k xs, offerS_at]
    by_cases e : k = x
    · subst e; cases td k <;> cases Z k <;> cases kept k <;> simp
    · have : (decide (k ∈ x :: xs)) = decide (k ∈ xs) := by simp [e]
      rw [this]; simp [e]
/-- The one that waits, as a set. -/
def tdF (td : Option Int) : Int → Bool := fun k => decide (td = some k)
theorem offers_pick {Z kept : Int → Bool} {xs : List Int} {td : Option Int} (h : Pick (fun k => k ∈ xs ∧ Z k = true ∧ kept k = false) td) : offersS Z kept (fun _ => false) xs = tdF td := by
  funext k
  rw [offersS_at]
  unfold tdF
  have h1 := h k
  by_cases e : td = some k
  · obtain ⟨a, b, c⟩ := h1.2 e
    simp [a, b, c, e]
  · have h2 : ¬ (k ∈ xs ∧ Z k = true ∧ kept k = false) := fun hh => e (h1.1 hh)
    by_cases a : k ∈ xs
    · cases b : Z k with
      | false => simp [e]
      | true =>
        cases c : kept k with
        | true => simp [e]
        | false => exact absurd ⟨a, b, c⟩ h2
    · simp [a, e]
/-- The zeros that are offered at first. -/
theorem offers_first {Z kept : Int → Bool} {xs : List Int} {td : Option Int} (hS : SetL Z xs) (h : Pick (fun k => Z k = true ∧ kept k = false) td) : offersS Z kept (fun _ => false) xs = tdF td :=
  offers_pick fun k => ⟨fun hh => (h k).1 hh.2, fun hh => ⟨(hS.mem k).2 ((h k).2 hh).1, (h k).2 hh⟩⟩
end Go.Proofs.YtlpklloagaccoaaGreat
namespace Go.Proofs.YtlpklloagaccoaaGreat
open Go.RowKit
set_option linter.unusedVariables false

theorem catN_twoI (l1 l2 : List Int) : catN (fun i => if i = 0 then l1 else l2) 2 = l1 ++ l2 := by
  show ([] ++ l1) ++ l2 = _
  rw [List.nil_append]
/-- Behind two rows in a row of rows: Concat. -/
theorem concat_twoI {o : Own} {A1 A2 : Option Addr} {n1 n2 c1 c2 : Nat} {l1 l2 : List Int} {T : TypeId} (w : World) (ho : Owned o w) (R1 : RdS w w.heap.size .i64 A1 n1 l1) (R2 : RdS w w.heap.size .i64 A2 n2 l2) (hb : l1.length + l2.length ≤ 1048576) {a : Nat} (ha : a = w.heap.size) :
    Calls Tryz.prog 134 #[.slice (some ⟨a, 0, none⟩) 2 2] (w.alloc (.cells #[.slice A1 n1 c1, .slice A2 n2 c2] T)) (CatPost 3 .i64 o (w.alloc (.cells #[.slice A1 n1 c1, .slice A2 n2 c2] T)) (l1 ++ l2)) := by
  subst ha
  have hA := (Fr.refl (lo := 0) (hi := 0) ho).alloc (.cells #[.slice A1 n1 c1, .slice A2 n2 c2] T)
  have hbk := heap_alloc_new w (.cells #[.slice A1 n1 c1, .slice A2 n2 c2] T)
  have hsz : w.heap.size ≤ (w.alloc (.cells #[.slice A1 n1 c1, .slice A2 n2 c2] T)).heap.size := hA.size
  have R1' := R1.keep (w' := w.alloc (.cells #[.slice A1 n1 c1, .slice A2 n2 c2] T)) fun b hb => hA.block b hb (.inr (Nat.zero_le _))
  have R2' := R2.keep (w' := w.alloc (.cells #[.slice A1 n1 c1, .slice A2 n2 c2] T)) fun b hb => hA.block b hb (.inr (Nat.zero_le _))
  have up : ∀ {A n l}, RdS (w.alloc (.cells #[.slice A1 n1 c1, .slice A2 n2 c2] T)) w.heap.size .i64 A n l → RdS (w.alloc (.cells #[.slice A1 n1 c1, .slice A2 n2 c2] T)) (w.alloc (.cells #[.slice A1 n1 c1, .slice A2 n2 c2] T)).heap.size .i64 A n l := fun h =>
    ⟨h.1, fun hn => by obtain ⟨b, off, h1, h2, h3⟩ := h.2 hn; exact ⟨b, off, h1, Nat.lt_of_lt_of_le h2 hsz, h3⟩⟩
  have R1'' := up R1'
  have R2'' := up R2'
  clear R1' R2' up hsz
  generalize w.alloc (.cells #[.slice A1 n1 c1, .slice A2 n2 c2] T) = w2 at *
  rw [← catN_twoI]
  refine concat_I w.heap.size 2 2 (fun i => if i = 0 then A1 else A2) (fun i => if i = 0 then n1 else n2) (fun i => if i = 0 then c1 else c2) _ w2 hA.fresh (by omega) (fun i hi => ?_) (fun i hi => ?_) (by rw [catN_twoI, List.length_append]; exact hb)
  · rcases (show i = 0 ∨ i = 1 by omega) with rfl | rfl
    · simp [World.cell?, hbk]
    · simp [World.cell?, hbk]
  · rcases (show i = 0 ∨ i = 1 by omega) with rfl | rfl
    · exact R1''
    · exact R2''
end Go.Proofs.YtlpklloagaccoaaGreat
namespace Go.Proofs.YtlpklloagaccoaaGreat
open Go.RowKit
set_option linter.unusedVariables false

theorem SetL.len_le {Z : Int → Bool} {xs : List Int} (h : SetL Z xs) (hz : ∀ k, Z k = true → 0 ≤ k ∧ k < KB) : xs.length ≤ 1048576 :=
  nodup_lenN 1048576 xs (h.sorted.imp fun {a b} h e => by omega) fun x hx => by
    have := hz x ((h.mem x).1 hx)
    unfold KB at this
    omega
/-- Behind drain.Run. -/
def RunPost (o : Own) (w : World) (p : Nat) (S' : EngS) (f t : List Int) (e : Ending) (w' : World) : Prop :=
  ∃ vf vt o', e = .returned (.tuple #[vf, vt]) ∧ Fr 1 57 o o' w w' ∧ EngRep o' w' 1 p S' ∧ LRow o' w' 55 vf f ∧ LRow o' w' 56 vt t
/-- At the head of the loop. -/
def RunRel (o : Own) (w : World) (s p : Nat) (S' : EngS) (f t : List Int) (n : Nat) (hv okv : Value) (wr : World) : Prop :=
  ∃ (o' : Own) (S : EngS) (kept : Int → Bool) (td : Option Int) (f1 t1 f2 t2 : List Int), Fr 1 57 o o' w wr ∧ EngRep o' wr 1 p S ∧ Sw o' wr s p kept (fun _ => false) f1 t1 ∧ f = f1 ++ f2 ∧ t = t1 ++ t2 ∧ Dr S kept td S' f2 t2 n ∧ okv = .bool td.isSome ∧ (∀ h, td = some h → hv = .int .i64 h) ∧ f1.length + n < 1048576 ∧ t1.length + n < 1048576
theorem sw_pop {o : Own} {w : World} {s p q bk : Nat} {kept : Int → Bool} {td : Option Int} {freed told : List Int} {vf vt : Value} (ho : Owned o w) (W : SwX o w s p kept (tdF td) freed told bk q vf vt) :
    Calls Tryz.prog 137 #[.pointer (some ⟨q, 0, none⟩)] w fun e w' => ∃ hv o', e = .returned (.tuple #[.int .i64 hv, .bool td.isSome]) ∧ (∀ h, td = some h → hv = h) ∧ Fr 52 55 o o' w w' ∧ Sw o' w' s p kept (fun _ => false) freed told := by
  refine (lpop_any w ho W.todo).mono fun e w' hh => ?_
  obtain ⟨o', F, hc⟩ := hh
  have hrest : ∀ T, LeastRep o' w' 52 q T → Sw o' w' s p kept T freed told := fun T L => ⟨bk, q, vf, vt, W.blk.keep F (by omega), W.kept.keep F (by omega), L, W.freed.keep F (by omega), W.told.keep F (by omega)⟩
  rcases hc with ⟨h1, h2, h3⟩ | ⟨n, h1, h2, h3⟩
  · have ht : td = none := by
      cases td with
      | none => rfl
      | some h => have := h2 h; simp [tdF] at this
    subst ht
    refine ⟨0, o', h1, fun h e => (by cases e), F, ?_⟩
    have : tdF none = fun _ => false := by funext k; simp [tdF]
    rw [this] at h3
    exact hrest _ h3
  · have ht : td = some n := by simpa [tdF] using h2
    subst ht
    refine ⟨n, o', h1, fun h e => (by cases e; rfl), F, ?_⟩
    have : updS (tdF (some n)) n false = fun _ => false := by
      funext k
      unfold updS tdF
      by_cases e : k = n
      · rw [if_pos e]
      · rw [if_neg e]; simpa using fun h => e h.symm
    rw [this] at h3
    exact hrest _ h3
end Go.Proofs.YtlpklloagaccoaaGreat
namespace Go.Proofs.YtlpklloagaccoaaGreat
open Go.RowKit
set_option linter.unusedVariables false

set_option maxRecDepth 100000 in
set_option maxHeartbeats 2000000 in
theorem drain_run0 {o : Own} {p : Nat} {S S' : EngS} {f t : List Int} {td : Option Int} {n : Nat} (A : Option Addr) (m cap : Nat) (roots : List Int) (w : World) (ho : Owned o w) (E : EngRep o w 1 p S) (R : RdS w w.heap.size .i64 A m roots) (hP : Pick (fun k => S.Z k = true ∧ keptA S roots k = false) td) (D : Dr S (keptA S roots) td S' f t n)
    (hk : ∀ k ∈ roots ++ S.pend, 0 ≤ k ∧ k < KB) (hl : roots.length + S.pend.length ≤ 1000000) (hz : ∀ k, S.Z k = true → 0 ≤ k ∧ k < KB) (hn : n < 1000000) :
    Calls Tryz.prog 83 #[.pointer (some ⟨p, 0, none⟩), .slice A m cap] w (RunPost o w p S' f t) := by
  have HPe := Lib.hid (rpending w ho E (by omega))
  have HO := Lib.hid ho
  have HE := Lib.hid E
  have HR := Lib.hid R
  have HK := Lib.hid (And.intro hk hl)
  clear ho E R hk hl
  go_enter Tryz.func83, Tryz.ntmps83
  go_wp2_with fail
  go_at_call 79
  refine HPe.out.mono ?_
  rintro e w2 ⟨v2, rfl, F2, R2⟩
  obtain ⟨A2, c2, hv2, hrd2⟩ := R2.row.rd
  subst hv2
  have HF2 := Lib.hid F2
  have HRD2 := Lib.hid hrd2
  clear F2 R2 hrd2
  have HCC := Lib.hid (fun (a : Nat) (ha : a = w2.heap.size) => concat_twoI (c1 := cap) (c2 := c2) (T := 38) w2 HF2.out.fresh (show RdS w2 w2.heap.size .i64 A m roots from (HR.out.keep fun b hb => HF2.out.block b hb (.inr (Nat.zero_le _))) |> fun h => ⟨h.1, fun hn => let ⟨b, off, h1, h2, h3⟩ := h.2 hn; ⟨b, off, h1, Nat.lt_of_lt_of_le h2 HF2.out.size, h3⟩⟩) HRD2.out (by have := HK.out.2; omega) ha)
  go_wp2_with fail
  go_at_call 134
  refine (HCC.out _ rfl).mono ?_
  rintro e w3 ⟨v3, rfl, F3, R3⟩
  obtain ⟨A3, c3, hv3, _, _⟩ := R3.form
  rw [List.length_append] at hv3
  subst hv3
  have HF3 := Lib.hid ((HF2.out.alloc _).trans F3)
  have HR3 := Lib.hid R3.toNew
  clear F3 R3
  have HDS := Lib.hid (dset_any A3 (roots.length + S.pend.length) c3 (roots ++ S.pend) w3 HF3.out.fresh HR3.out (by have := HK.out.2; omega) HK.out.1)
  go_wp2_with fail
  go_at_call 133
  refine HDS.out.mono ?_
  rintro e w4 ⟨bk, o4, rfl, F4, M4⟩
  have HF4 := Lib.hid ((HF3.out.none 51 52).trans F4)
  have HM4 := Lib.hid M4
  clear F4 M4
  have HLN := Lib.hid (least_new 52 w4 HF4.out.fresh)
  go_wp2_with fail
  go_at_call 88
  refine HLN.out.mono ?_
  rintro e w5 ⟨q, o5, rfl, F5, L5⟩
  have HF5 := Lib.hid ((HF4.out.mono (lo' := 50) (hi' := 57) (by omega) (by omega)).trans (F5.mono (by omega) (by omega)))
  have HM5 := Lib.hid (HM4.out.keep F5 (.inl (by omega)))
  have HL5 := Lib.hid L5
  clear F5 L5
  go_wp2_with fail
  have F6 : Fr 50 57 o5 (o5.give w5.heap.size 50) w5 (w5.alloc (.cells #[.pointer (some ⟨p, 0, none⟩), .map (some bk), .pointer (some ⟨q, 0, none⟩), .slice none 0 0, .slice none 0 0] 145)) := (Fr.refl HF5.out.fresh).give _ 50
  have B6 := Blk.new (o := o5) (w := w5) (.cells #[.pointer (some ⟨p, 0, none⟩), .map (some bk), .pointer (some ⟨q, 0, none⟩), .slice none 0 0, .slice none 0 0] 145) 50
  have F65 : Fr 50 51 o5 (o5.give w5.heap.size 50) w5 (w5.alloc (.cells #[.pointer (some ⟨p, 0, none⟩), .map (some bk), .pointer (some ⟨q, 0, none⟩), .slice none 0 0, .slice none 0 0] 145)) := (Fr.refl HF5.out.fresh).give _ 50
  generalize o5.give w5.heap.size 50 = o6 at *
  generalize w5.alloc (.cells #[.pointer (some ⟨p, 0, none⟩), .map (some bk), .pointer (some ⟨q, 0, none⟩), .slice none 0 0, .slice none 0 0] 145) = w6 at *
  generalize w5.heap.size = s at *
  have HF6 := Lib.hid (HF5.out.trans F6)
  have HW6 := Lib.hid (show Sw o6 w6 s p (keptA S roots) (fun _ => false) [] [] from ⟨bk, q, _, _, B6, HM5.out.keep F65 (.inr (by omega)), HL5.out.keep F65 (.inr (by omega)), LRow.nil _ _ _, LRow.nil _ _ _⟩)
  have HE6 := Lib.hid (HE.out.keep HF6.out (.inl (by omega)))
  clear F6 B6 F65
  have HZ := Lib.hid (rzeros w6 HF6.out.fresh HE6.out)
  go_at_call 69
  refine HZ.out.mono ?_
  rintro e w7 ⟨v7, zs, rfl, hzs, F7, R7⟩
  have hzr : ∀ k ∈ zs, 0 ≤ k ∧ k < KB := fun k hk => hz k ((hzs.mem k).1 hk)
  have hzl := SetL.len_le hzs hz
  obtain ⟨A7, c7, hv7, _⟩ := R7.row.rd
  subst hv7
  have HOF := Lib.hid (offers_first hzs hP)
  have HF7 := Lib.hid (HF6.out.trans (F7.none 50 57))
  have HEa := Lib.hid (each_offer A7 zs.length c7 zs w7 HF7.out.fresh R7 (HE6.out.keep F7 (.inr (by omega))) (HW6.out.keep F7 (.inr (by omega))) hzl hzr)
  rw [HOF.out] at HEa
  clear hzs F7 R7 hzr hzl HOF
  go_wp2_with fail
  go_at_call 135
  refine HEa.out.mono ?_
  rintro e w8 ⟨rfl, o8, F8, W8⟩
  have HF8 := Lib.hid (HF7.out.trans F8)
  clear F8
  obtain ⟨bk8, q8, vf8, vt8, W8⟩ := W8
  have c2 := W8.blk.cell 2
  simp only [List.getElem?_toArray, List.getElem?_cons_zero, List.getElem?_cons_succ] at c2
  have hpl := W8.blk.lt
  have HPo := Lib.hid (sw_pop HF8.out.fresh W8)
  clear W8
  go_wp2_with fail
  go_at_call 137
  refine HPo.out.mono ?_
  rintro e w9 ⟨hv, o9, rfl, hhv, F9, W9⟩
  have HF9 := Lib.hid (HF8.out.trans (F9.mono (by omega) (by omega)))
  have HW9 := Lib.hid W9
  have HHV := Lib.hid hhv
  have HE9 := Lib.hid (HE.out.keep HF9.out (.inl (by omega)))
  clear F9 W9 hhv c2 hpl
  obtain ⟨b9, hb9⟩ : ∃ b, b = td.isSome := ⟨_, rfl⟩
  have HB9 := Lib.hid hb9
  rw [← hb9]
  clear hb9
  go_wp2_with fail
  go_loopg [7, 8, 9] n (fun k hvv okv _ wr => RunRel o w s p S' f t k hvv okv wr)
  case atStart => exact ⟨o9, S, keptA S roots, td, [], [], f, t, HF9.out.mono (by omega) (by omega), HE9.out, HW9.out, rfl, rfl, D, by rw [HB9.out], fun h e => by rw [HHV.out h e], by simp; omega, by simp; omega⟩
  case round =>
    obtain ⟨oi, Si, kept, tdi, f1, t1, f2, t2, Fi, Ei, Wi, hf, ht, Di, hok, hhd, hb1, hb2⟩ := hrel
    cases Di with
    | done =>
      subst hok
      obtain ⟨bk1, q1, vf1, vt1, W1⟩ := Wi
      have c3 := W1.blk.cell 3
      have c4 := W1.blk.cell 4
      simp only [List.getElem?_toArray, List.getElem?_cons_zero, List.getElem?_cons_succ] at c3 c4
      have hpl := W1.blk.lt
      rw [List.append_nil] at hf ht
      have H := Lib.hid (And.intro Fi (And.intro Ei (And.intro W1.freed W1.told)))
      subst hf ht
      clear Fi Ei W1 hhd hb1 hb2
      go_wp2_with fail
      go_quiet (fail)
      go_wp2_with fail
      go_ret2
      exact ⟨vf1, vt1, oi, rfl, H.out.1.drewN _, H.out.2.1.keep (lo := 0) (hi := 0) ((Fr.refl H.out.1.fresh).drewN _) (.inr (by omega)), H.out.2.2.1.keep (lo := 0) (hi := 0) ((Fr.refl H.out.1.fresh).drewN _) (.inr (by omega)), H.out.2.2.2.keep (lo := 0) (hi := 0) ((Fr.refl H.out.1.fresh).drewN _) (.inr (by omega))⟩
    | free hw hx hrg hwk hpk Dn =>
      rename_i h x f3 m tdn hK9
      have e1 := hhd h rfl
      subst hok e1
      have HFi := Lib.hid Fi
      have HEi := Lib.hid Ei
      have HWi := Lib.hid Wi
      have HRw := Lib.hid (show Calls Tryz.prog 77 #[.pointer (some ⟨p, 0, none⟩), .int .i64 h] wr fun e w' => e = .returned (.bool false) ∧ wr = w' from by rw [← hw]; exact rwatched h wr Ei)
      have HSf := Lib.hid (sfree_any (td := fun _ => false) h x wr Fi.fresh Ei Wi hx hrg.2.2 (by omega) hrg.1 hrg.2.1)
      rw [offers_pick hpk] at HSf
      have HB := Lib.hid (And.intro hf (And.intro ht (And.intro hb1 hb2)))
      have HDn := Lib.hid Dn
      clear Fi Ei Wi hw hx hrg hwk hpk Dn hf ht hb1 hb2 hhd
      go_wp2_with fail
      go_at_call 77
      refine HRw.out.mono ?_
      rintro e w2 ⟨rfl, rfl⟩
      go_wp2_with fail
      go_at_call 138
      refine HSf.out.mono ?_
      rintro e w2 ⟨rfl, o2, F2, E2, W2⟩
      have HF2 := Lib.hid (HFi.out.trans F2)
      have HE2 := Lib.hid E2
      clear F2 E2
      obtain ⟨bk2, q2, vf2, vt2, W2⟩ := W2
      have c2 := W2.blk.cell 2
      simp only [List.getElem?_toArray, List.getElem?_cons_zero, List.getElem?_cons_succ] at c2
      have hpl := W2.blk.lt
      have HPo := Lib.hid (sw_pop HF2.out.fresh W2)
      clear W2
      go_wp2_with fail
      go_at_call 137
      refine HPo.out.mono ?_
      rintro e w3 ⟨hv, o3, rfl, hhv, F3, W3⟩
      have HF3 := Lib.hid (HF2.out.trans (F3.mono (by omega) (by omega)))
      have HE3 := Lib.hid (HE2.out.keep F3 (.inl (by omega)))
      have HW3 := Lib.hid W3
      have HHV := Lib.hid hhv
      clear F3 W3 hhv c2 hpl
      obtain ⟨b9, hb9⟩ : ∃ b, b = tdn.isSome := ⟨_, rfl⟩
      have HB9 := Lib.hid hb9
      rw [← hb9]
      clear hb9
      go_wp2_with fail
      go_roundg m
      case measure => omega
      case rel => exact ⟨o3, _, kept, tdn, f1 ++ [h], t1, f3, t2, HF3.out, HE3.out, HW3.out, by rw [HB.out.1, List.append_assoc]; rfl, HB.out.2.1, HDn.out, by rw [HB9.out], fun k e => by rw [HHV.out k e], by have := HB.out.2.2.1; simp; omega, by have := HB.out.2.2.2; omega⟩
    | tell hw hx hpl0 hrg Dn =>
      rename_i h x t3 m hK9
      have e1 := hhd h rfl
      subst hok e1
      have HFi := Lib.hid Fi
      have HEi := Lib.hid Ei
      have HWi := Lib.hid Wi
      have HRw := Lib.hid (show Calls Tryz.prog 77 #[.pointer (some ⟨p, 0, none⟩), .int .i64 h] wr fun e w' => e = .returned (.bool true) ∧ wr = w' from by rw [← hw]; exact rwatched h wr Ei)
      have HSt := Lib.hid (stell_any (td := fun _ => false) h wr Fi.fresh Wi hrg.1 hrg.2 (by omega) (show Calls Tryz.prog 75 #[.pointer (some ⟨p, 0, none⟩), .int .i64 h] wr (EngDo oi wr 1 p (tellA Si h) (.int .i64 0)) from rtell h x wr Fi.fresh Ei hx hw hpl0) Ei)
      have HB := Lib.hid (And.intro hf (And.intro ht (And.intro hb1 hb2)))
      have HDn := Lib.hid Dn
      clear Fi Ei Wi hw hx hrg hpl0 Dn hf ht hb1 hb2 hhd
      go_wp2_with fail
      go_at_call 77
      refine HRw.out.mono ?_
      rintro e w2 ⟨rfl, rfl⟩
      go_wp2_with fail
      go_at_call 139
      refine HSt.out.mono ?_
      rintro e w2 ⟨rfl, o2, F2, E2, W2⟩
      have HF2 := Lib.hid (HFi.out.trans F2)
      have HE2 := Lib.hid E2
      clear F2 E2
      obtain ⟨bk2, q2, vf2, vt2, W2⟩ := W2
      have c2 := W2.blk.cell 2
      simp only [List.getElem?_toArray, List.getElem?_cons_zero, List.getElem?_cons_succ] at c2
      have hpl := W2.blk.lt
      have hz0 : (fun _ => false : Int → Bool) = tdF none := by funext k; simp [tdF]
      rw [hz0] at W2
      have HPo := Lib.hid (sw_pop HF2.out.fresh W2)
      clear W2 hz0
      go_wp2_with fail
      go_at_call 137
      refine HPo.out.mono ?_
      rintro e w3 ⟨hv, o3, rfl, hhv, F3, W3⟩
      have HF3 := Lib.hid (HF2.out.trans (F3.mono (by omega) (by omega)))
      have HE3 := Lib.hid (HE2.out.keep F3 (.inl (by omega)))
      have HW3 := Lib.hid W3
      clear F3 W3 hhv c2 hpl
      go_wp2_with fail
      go_roundg m
      case measure => omega
      case rel => exact ⟨o3, _, _, none, f1, t1 ++ [h], f2, t3, HF3.out, HE3.out, HW3.out, HB.out.1, by rw [HB.out.2.1, List.append_assoc]; rfl, HDn.out, rfl, fun k e => (by cases e), by have := HB.out.2.2.1; omega, by have := HB.out.2.2.2; simp; omega⟩
theorem drain_run {o : Own} {p : Nat} {S S' : EngS} {f t : List Int} (A : Option Addr) (m cap : Nat) (roots : List Int) (w : World) (ho : Owned o w) (E : EngRep o w 1 p S) (R : RdS w w.heap.size .i64 A m roots) (D : DrR S roots S' f t)
    (hk : ∀ k ∈ roots ++ S.pend, 0 ≤ k ∧ k < KB) (hl : roots.length + S.pend.length ≤ 1000000) (hz : ∀ k, S.Z k = true → 0 ≤ k ∧ k < KB) :
    Calls Tryz.prog 83 #[.pointer (some ⟨p, 0, none⟩), .slice A m cap] w (RunPost o w p S' f t) :=
  let ⟨td, n, hn, hP, D⟩ := D; drain_run0 A m cap roots w ho E R hP D hk hl hz hn
end Go.Proofs.YtlpklloagaccoaaGreat
