/- Dicts are written (dict.Put). Conditions: the engine is as one that was made; the dict is one; keys are keys; there is memory. The walk of dict.Put. Conditions: the engine is as one that was made; the dict is one; keys are keys; there is memory. -/
import Derived.Test.YtlpklloagaccoaaGreatDict3
import Derived.Outline
namespace Go.Proofs.YtlpklloagaccoaaGreat
open Go.RowKit
set_option linter.unusedVariables false

section
variable {S S' : EngS} {h : Int} {ks vs : Nat → Nat × Int} {n c : Nat} {s : Int}
theorem KeyOk.keep {k : Nat × Int} (K : KeyOk S k) (hm : ∀ m z, S.ob m = some z → z.kind = 1 → S'.ob m = some z) : KeyOk S' k :=
  ⟨K.1, fun e => by obtain ⟨x, h1, h2⟩ := K.2 e; exact ⟨x, hm _ _ h1 h2, h2⟩⟩
theorem sameK_keep {a b : Nat × Int} (ka : KeyOk S a) (kb : KeyOk S b) (hm : ∀ m z, S.ob m = some z → z.kind = 1 → S'.ob m = some z) : sameK S' a b = sameK S a b := by
  unfold sameK
  by_cases e : a.1 = 3 ∧ b.1 = 3
  · obtain ⟨x, h1, h2⟩ := ka.2 e.1
    obtain ⟨y, h3, h4⟩ := kb.2 e.2
    rw [if_pos e, if_pos e, h1, h3, hm _ _ h1 h2, hm _ _ h3 h4]
  · rw [if_neg e, if_neg e]
theorem vals_at {y : Ob} (A : DS S h ks vs n c s) (hy : S.ob s = some y) (h3 : ∀ i, i < n → y.val (2 * i) = ks i ∧ y.val (2 * i + 1) = vs i) (h4 : ∀ j, 2 * n ≤ j → j < c → (y.val j).1 = 0) : ∀ j, j < c → (y.val j).1 = 0 ∨ ValOk S (y.val j).1 (y.val j).2 := fun j hj => by
  by_cases hjn : 2 * n ≤ j
  · exact .inl (h4 j hjn hj)
  · right
    have hi : j / 2 < n := by omega
    rcases Nat.mod_two_eq_zero_or_one j with e | e
    · have := (h3 _ hi).1
      rw [show 2 * (j / 2) = j by omega] at this
      rw [this]; exact (A.keys _ hi).2
    · have := (h3 _ hi).2
      rw [show 2 * (j / 2) + 1 = j by omega] at this
      rw [this]; exact A.vals _ hi
/-- A value is written over. -/
theorem DS.over (A : DS S h ks vs n c s) {y : Ob} (hy : S.ob s = some y) (hyc : y.cells = c) (hk : y.kind = 4) (h3 : ∀ i, i < n → y.val (2 * i) = ks i ∧ y.val (2 * i + 1) = vs i) (h4 : ∀ j, 2 * n ≤ j → j < c → (y.val j).1 = 0) {i : Nat} (hi : i < n) {v : Nat × Int} (V : ValOk S v.1 v.2)
    (hob : S'.ob = updI S.ob s (some (setVal y (2 * i + 1) v))) (hL : S'.L = S.L) : DS S' h ks (updF vs i v) n c s ∧ ∀ m z, S.ob m = some z → z.kind = 1 → S'.ob m = some z := by
  obtain ⟨x, B⟩ := A.ex
  have obs : S'.ob s = some (setVal y (2 * i + 1) v) := by rw [hob]; exact if_pos rfl
  have obh : S'.ob h = some x := by rw [hob]; unfold updI; rw [if_neg A.hs]; exact B.st.ob
  have hm : ∀ m z, S.ob m = some z → ∃ z', S'.ob m = some z' := fun m z hz => by rw [hob]; exact updI_some hz
  have ht : ∀ m z, S.ob m = some z → z.kind = 1 → S'.ob m = some z := fun m z hz hz1 => by
    rw [hob]; unfold updI
    rw [if_neg (fun e => by rw [e, hy] at hz; cases hz; omega)]
    exact hz
  refine ⟨⟨⟨x, ⟨⟨obh, B.st.two, B.st.none_, fun h0 => ⟨(B.st.some_ h0).1, _, obs, hyc⟩⟩, B.kind, B.len, B.nc, B.c4⟩⟩, fun h0 => ⟨_, obs, hyc, hk, fun j hj => ⟨?_, ?_⟩, fun j hj hjc => ?_⟩, A.hs, by rw [hL]; exact A.ok, fun j hj => ⟨(A.keys j hj).1.keep ht, (A.keys j hj).2.more hm⟩, fun j hj => ?_⟩, ht⟩
  · show updF y.val (2 * i + 1) v (2 * j) = _
    unfold updF
    rw [if_neg (by omega)]; exact (h3 j hj).1
  · show updF y.val (2 * i + 1) v (2 * j + 1) = updF vs i v j
    unfold updF
    by_cases e : j = i
    · rw [if_pos (by omega), if_pos e]
    · rw [if_neg (by omega), if_neg e]; exact (h3 j hj).2
  · show (updF y.val (2 * i + 1) v j).1 = 0
    unfold updF
    rw [if_neg (by omega)]; exact h4 j hj hjc
  · refine ValOk.more (S := S) ?_ hm
    unfold updF
    split
    · exact V
    · exact A.vals j hj
/-- A key comes, in a store 't' that has all that was there. -/
theorem DS.add (A : DS S h ks vs n c s) {x y : Ob} (B : DictAt S h x s c n) {t : Int} {c' : Nat} (hc' : 2 * n + 2 ≤ c') (hc4 : c' ≤ 4000) (hyc : y.cells = c') (hk : y.kind = 4) (h3 : ∀ i, i < n → y.val (2 * i) = ks i ∧ y.val (2 * i + 1) = vs i) (h4 : ∀ j, 2 * n ≤ j → j < c' → (y.val j).1 = 0) {k v : Nat × Int} (K : KeyOk S k) (KV : ValOk S k.1 k.2) (V : ValOk S v.1 v.2)
    (ht : h ≠ t) {x' : Ob} (hx' : x'.cells = 2 ∧ x'.kind = 3 ∧ x'.val 0 = (1, ((n + 1 : Nat) : Int)) ∧ x'.val 1 = (3, t)) (obh : S'.ob h = some x') (obt : S'.ob t = some (setVal (setVal y (2 * n) k) (2 * n + 1) v)) (hm : ∀ m z, S.ob m = some z → ∃ z', S'.ob m = some z') (htx : ∀ m z, S.ob m = some z → z.kind = 1 → S'.ob m = some z) (hok : S'.L.ok = true) :
    DS S' h (updF ks n k) (updF vs n v) (n + 1) c' t := by
  obtain ⟨e1, e2, e3, e4⟩ := hx'
  refine ⟨⟨x', ⟨⟨obh, e1, fun h0 => by omega, fun h0 => ⟨e4, _, obt, hyc⟩⟩, e2, e3, by omega, hc4⟩⟩, fun h0 => ⟨_, obt, hyc, hk, fun j hj => ⟨?_, ?_⟩, fun j hj hjc => ?_⟩, ht, hok, fun j hj => ?_, fun j hj => ?_⟩
  · show updF (updF y.val (2 * n) k) (2 * n + 1) v (2 * j) = updF ks n k j
    unfold updF
    rw [if_neg (by omega)]
    by_cases e : j = n
    · rw [if_pos (by omega), if_pos e]
    · rw [if_neg (by omega), if_neg e]; exact (h3 j (by omega)).1
  · show updF (updF y.val (2 * n) k) (2 * n + 1) v (2 * j + 1) = updF vs n v j
    unfold updF
    by_cases e : j = n
    · rw [if_pos (by omega), if_pos e]
    · rw [if_neg (by omega), if_neg (by omega), if_neg e]; exact (h3 j (by omega)).2
  · show (updF (updF y.val (2 * n) k) (2 * n + 1) v j).1 = 0
    unfold updF
    rw [if_neg (by omega), if_neg (by omega)]; exact h4 j (by omega) hjc
  · unfold updF
    split
    · exact ⟨K.keep htx, KV.more hm⟩
    · exact ⟨(A.keys j (by omega)).1.keep htx, (A.keys j (by omega)).2.more hm⟩
  · refine ValOk.more (S := S) ?_ hm
    unfold updF
    split
    · exact V
    · exact A.vals j (by omega)
end
end Go.Proofs.YtlpklloagaccoaaGreat
namespace Go.Proofs.YtlpklloagaccoaaGreat
open Go.RowKit
set_option linter.unusedVariables false

/-- Two boxes that nobody owns. -/
structure Bx (o : Own) (z : Nat) (a b c d : Int) (w : World) : Prop where
  b0 : w.heap[z]? = some (vX a b)
  b1 : w.heap[z + 1]? = some (vX c d)
  o0 : o z = 0
  o1 : o (z + 1) = 0
theorem Box2.bx {o : Own} {w w1 : World} {a b c d : Int} (h : Box2 o w a b c d w1) (ho : Owned o w) : Bx o w.heap.size a b c d w1 := ⟨h.b0, h.b1, ho _ (Nat.le_refl _), ho _ (by omega)⟩
theorem Bx.keep {lo hi : Nat} {o o' : Own} {w w' : World} {z : Nat} {a b c d : Int} (h : Bx o z a b c d w) (k : Fr lo hi o o' w w') (hr : 0 < lo ∨ hi = 0) : Bx o' z a b c d w' :=
  ⟨(k.block _ (lt_of_block h.b0) (by rw [h.o0]; omega)).trans h.b0, (k.block _ (lt_of_block h.b1) (by rw [h.o1]; omega)).trans h.b1, (k.own _ (lt_of_block h.b0)).trans h.o0, (k.own _ (lt_of_block h.b1)).trans h.o1⟩
theorem Bx.cells {o : Own} {z : Nat} {w1 : World} {a b c d : Int} (h : Bx o z a b c d w1) : w1.cell? ⟨z, 0, none⟩ = some (.int .i64 a) ∧ w1.cell? ⟨z, 1, none⟩ = some (.int .i64 b) ∧ w1.cell? ⟨z + 1, 0, none⟩ = some (.int .i64 c) ∧ w1.cell? ⟨z + 1, 1, none⟩ = some (.int .i64 d) := by
  have h0 := h.b0
  have h1 := h.b1
  unfold vX at h0 h1
  simp [World.cell?, h0, h1]
section
variable {o : Own} {r p : Nat} {S : EngS} {h : Int} {ks vs : Nat → Nat × Int} {n c : Nat} {s : Int}
/-- What Put gives. -/
def DPutPost (o : Own) (w : World) (r p : Nat) (S : EngS) (h : Int) (ks vs : Nat → Nat × Int) (n c : Nat) (s : Int) (k v : Nat × Int) (e : Ending) (w' : World) : Prop :=
  ∃ i S', Found S ks k n i ∧ EngDo o w r p S' (.int .i64 0) e w' ∧ (∀ m z, S.ob m = some z → z.kind = 1 → S'.ob m = some z) ∧
    ((i < n ∧ S'.L = S.L ∧ DS S' h ks (updF vs i v) n c s) ∨
     (i = n ∧ ∃ c' s', DS S' h (updF ks n k) (updF vs n v) (n + 1) c' s' ∧ ((2 * n + 2 ≤ c ∧ c' = c ∧ S'.L = S.L) ∨ (c < 2 * n + 2 ∧ c' = moreN c 8 ∧ S'.L.n = S.L.n ∧ ∃ t, tookL S.L (wordsN (moreN c 8) 0) = some (S'.L, t)))))
set_option maxRecDepth 100000 in
set_option maxHeartbeats 2000000 in
theorem ds_put (k v : Nat × Int) (w : World) (hr : 1 ≤ r) (ho : Owned o w) (E : EngRep o w r p S) (A : DS S h ks vs n c s) (kk : KeyOk S k) (KV : ValOk S k.1 k.2) (V : ValOk S v.1 v.2) (hn : n < 1000) (hev : c % 2 = 0)
    (hT : c < 2 * n + 2 → c < 2000 ∧ ∃ L' t, tookL S.L (wordsN (moreN c 8) 0) = some (L', t)) :
    Calls Tryz.prog 44 #[.pointer (some ⟨p, 0, none⟩), .int .i64 h, valV k.1 k.2, valV v.1 v.2] w (DPutPost o w r p S h ks vs n c s k v) := by
  have HM := Lib.hid (fun (w1 : World) (F : Fr 0 0 o o w w1) => (ds_may k v w1 F.fresh (E.keep F (.inr (Nat.zero_le _))) A kk V))
  have HFi := Lib.hid (fun (w1 : World) (F : Fr 0 0 o o w w1) => ds_find k w1 F.fresh (E.keep F (.inr (Nat.zero_le _))) A kk)
  have HE := Lib.hid (fun (w1 : World) (F : Fr 0 0 o o w w1) => E.keep F (.inr (Nat.zero_le _)))
  have HA := Lib.hid A
  have HKK := Lib.hid kk
  have HKV := Lib.hid KV
  have HV := Lib.hid V
  have HT := Lib.hid hT
  have HO := Lib.hid ho
  have HNB := Lib.hid hn
  have HEV := Lib.hid hev
  have HR := Lib.hid hr
  have hn4 : (n : Int) < 1000 := by omega
  clear E A kk KV V hT ho hn hr hev
  obtain ⟨q1, n1⟩ := k
  obtain ⟨q2, n2⟩ := v
  simp only at HKV HV ⊢
  go_enter Tryz.func44, Tryz.ntmps44
  go_wp2_with fail
  go_at_call 98
  refine (HM.out _ (by repeat (first | exact Fr.refl HO.out | refine Fr.drew ?_ | refine Fr.alloc ?_ _))).mono ?_
  rintro e w2 ⟨rfl, F2⟩
  have HX := Lib.hid ((Box2.base HO.out (q1 : Int) n1 (q2 : Int) n2).fr0 F2)
  obtain ⟨x0, x1, x2, x3⟩ := HX.out.cells
  clear F2
  go_wp2_with fail
  go_at_call 99
  refine (HFi.out _ HX.out.fr).mono ?_
  rintro e w3 ⟨i, hf, rfl, F3⟩
  have HFd := Lib.hid hf
  have HY := Lib.hid (HX.out.fr0 F3)
  have HB3 := Lib.hid (HY.out.bx HO.out)
  obtain ⟨y0, y1, y2, y3⟩ := HB3.out.cells
  have hile := hf.le
  clear F3 x0 x1 x2 x3 hf
  by_cases hin : i < n
  · have hin' : (i : Int) < (n : Int) := by omega
    obtain ⟨y, hy, hyc, hk, h3, h4⟩ := HA.out.st (by obtain ⟨x, B⟩ := HA.out.ex; have := B.nc; omega)
    have HS := Lib.hid (show Calls Tryz.prog 68 #[.pointer (some ⟨p, 0, none⟩), .int .i64 s, .int .i64 (2 * (i : Nat) + 1 : Int), valV q2 n2] w3 (EngDo o w3 r p (setA S s y (2 * i + 1) q2 n2) (.int .i64 0)) from
      rset s (2 * (i : Nat) + 1 : Int) y (2 * i + 1) q2 n2 w3 HR.out HY.out.fr.fresh (HE.out _ HY.out.fr) hy (by omega) (by obtain ⟨x, B⟩ := HA.out.ex; have := B.nc; omega) HV.out.q3 HV.out.n64 HV.out.ref (fun _ e => by rw [(h3 i hin).2] at e ⊢; exact (HA.out.vals i hin).ref e))
    have HD := Lib.hid (HA.out.over (S' := setA S s y (2 * i + 1) q2 n2) hy hyc hk h3 h4 hin (v := (q2, n2)) HV.out (setA_ob ..) (setA_L ..))
    have HIN := Lib.hid hin
    clear hy hyc hk h3 h4 hin hile
    go_wp2_with fail
    go_at_call 68
    refine HS.out.mono ?_
    rintro e w4 ⟨rfl, o4, F4, E4⟩
    have HF4 := Lib.hid ((HY.out.fr.none r (r + 29)).trans F4)
    have HE4 := Lib.hid E4
    clear F4 E4
    go_wp2_with fail
    go_ret
    exact ⟨i, _, HFd.out, ⟨rfl, o4, HF4.out, HE4.out⟩, HD.out.2, .inl ⟨HIN.out, setA_L .., HD.out.1⟩⟩
  · have hin' : ¬ (i : Int) < (n : Int) := by omega
    obtain rfl : i = n := by omega
    have h2000 : ¬ 2000 ≤ (i : Int) := by omega
    obtain ⟨x, B⟩ := HA.out.ex
    by_cases hroom : 2 * i + 2 ≤ c
    · obtain ⟨y, hy, hyc, hk, h3, h4⟩ := HA.out.st (by omega)
      have hz0 : (y.val (2 * i)).1 ≠ 3 := by rw [h4 _ (by omega) (by omega)]; omega
      have hz1 : (y.val (2 * i + 1)).1 ≠ 3 := by rw [h4 _ (by omega) (by omega)]; omega
      have HRm := Lib.hid (fun (w1 : World) (F : Fr 0 0 o o w w1) => (room_has (2 * ((i : Nat) + 1 : Int)) 8 w1 F.fresh (HE.out _ F) B.st (by omega)).mono fun e w' (hh : _ ∧ Below w1.heap.size w1 w') => (⟨hh.1, Fr.of_below F.fresh hh.2⟩ : e = .returned (.tuple #[.int .i64 s, .int .i64 0]) ∧ Fr 0 0 o o w1 w'))
      have HS1 := Lib.hid (fun (w1 : World) (F : Fr 0 0 o o w w1) => show Calls Tryz.prog 68 #[.pointer (some ⟨p, 0, none⟩), .int .i64 s, .int .i64 (2 * (i : Nat) : Int), valV q1 n1] w1 (EngDo o w1 r p (setA S s y (2 * i) q1 n1) (.int .i64 0)) from
        rset s (2 * (i : Nat) : Int) y (2 * i) q1 n1 w1 HR.out F.fresh (HE.out _ F) hy (by omega) (by omega) HKV.out.q3 HKV.out.n64 HKV.out.ref (fun _ e => absurd e hz0))
      have hob1 : (setA S s y (2 * i) q1 n1).ob = updI S.ob s (some (setVal y (2 * i) (q1, n1))) := setA_ob ..
      have hm1 : ∀ m z, S.ob m = some z → ∃ z', (setA S s y (2 * i) q1 n1).ob m = some z' := fun m z hz => by rw [hob1]; exact updI_some hz
      have HS2 := Lib.hid (fun (o1 : Own) (w1 : World) (ho1 : Owned o1 w1) (E1 : EngRep o1 w1 r p (setA S s y (2 * i) q1 n1)) => show Calls Tryz.prog 68 #[.pointer (some ⟨p, 0, none⟩), .int .i64 s, .int .i64 (2 * (i : Nat) + 1 : Int), valV q2 n2] w1 (EngDo o1 w1 r p (setA (setA S s y (2 * i) q1 n1) s (setVal y (2 * i) (q1, n1)) (2 * i + 1) q2 n2) (.int .i64 0)) from
        rset s (2 * (i : Nat) + 1 : Int) (setVal y (2 * i) (q1, n1)) (2 * i + 1) q2 n2 w1 HR.out ho1 E1 (by rw [hob1]; exact if_pos rfl) (by omega) (by show 2 * i + 1 < y.cells; omega) HV.out.q3 HV.out.n64 (fun e => by obtain ⟨z, hz⟩ := HV.out.ref e; exact hm1 _ _ hz) (fun _ e => absurd e (by
          show (updF y.val (2 * i) (q1, n1) (2 * i + 1)).1 ≠ 3
          unfold updF
          rw [if_neg (by omega)]; exact hz1)))
      have hob2 : (setA (setA S s y (2 * i) q1 n1) s (setVal y (2 * i) (q1, n1)) (2 * i + 1) q2 n2).ob = updI S.ob s (some (setVal (setVal y (2 * i) (q1, n1)) (2 * i + 1) (q2, n2))) := by rw [setA_ob, hob1, updI_twice]
      have hSt : StoreAt (setA (setA S s y (2 * i) q1 n1) s (setVal y (2 * i) (q1, n1)) (2 * i + 1) q2 n2) h x s c := by
        refine ⟨?_, B.st.two, B.st.none_, fun h0 => ⟨(B.st.some_ h0).1, setVal (setVal y (2 * i) (q1, n1)) (2 * i + 1) (q2, n2), by rw [hob2]; exact if_pos rfl, hyc⟩⟩
        rw [hob2]; unfold updI; rw [if_neg HA.out.hs]; exact B.st.ob
      have HKp := Lib.hid (fun (o1 : Own) (w1 : World) (ho1 : Owned o1 w1) (E1 : EngRep o1 w1 r p (setA (setA S s y (2 * i) q1 n1) s (setVal y (2 * i) (q1, n1)) (2 * i + 1) q2 n2)) => keep_same ((i : Nat) + 1 : Int) w1 HR.out ho1 E1 hSt (by unfold in64; omega) (by rw [B.len]; show (1 : Nat) ≠ 3; omega))
      have hob3 : (wrA (setA (setA S s y (2 * i) q1 n1) s (setVal y (2 * i) (q1, n1)) (2 * i + 1) q2 n2) h x 0 1 ((i : Nat) + 1 : Int)).ob = updI (updI S.ob s (some (setVal (setVal y (2 * i) (q1, n1)) (2 * i + 1) (q2, n2)))) h (some (setVal x 0 (1, ((i : Nat) + 1 : Int)))) := by
        show updI _ _ _ = _
        rw [hob2]
      have htx : ∀ m z, S.ob m = some z → z.kind = 1 → (wrA (setA (setA S s y (2 * i) q1 n1) s (setVal y (2 * i) (q1, n1)) (2 * i + 1) q2 n2) h x 0 1 ((i : Nat) + 1 : Int)).ob m = some z := fun m z hz hz1 => by
        rw [hob3]; unfold updI
        rw [if_neg (fun e => by rw [e, B.st.ob] at hz; cases hz; have := B.kind; omega), if_neg (fun e => by rw [e, hy] at hz; cases hz; omega)]
        exact hz
      have hx0 : (setVal x 0 (1, ((i : Nat) + 1 : Int))).val 0 = (1, ((i + 1 : Nat) : Int)) := by
        show updF x.val 0 (1, ((i : Nat) + 1 : Int)) 0 = _
        unfold updF
        rw [if_pos rfl]
        push_cast
        rfl
      have hx1 : (setVal x 0 (1, ((i : Nat) + 1 : Int))).val 1 = (3, s) := by
        show updF x.val 0 (1, ((i : Nat) + 1 : Int)) 1 = (3, s)
        unfold updF
        rw [if_neg (by omega)]; exact (B.st.some_ (by omega)).1
      have HD := Lib.hid (show DS (wrA (setA (setA S s y (2 * i) q1 n1) s (setVal y (2 * i) (q1, n1)) (2 * i + 1) q2 n2) h x 0 1 ((i : Nat) + 1 : Int)) h (updF ks i (q1, n1)) (updF vs i (q2, n2)) (i + 1) c s from
        HA.out.add B hroom B.c4 hyc hk h3 h4 HKK.out HKV.out HV.out HA.out.hs (x' := setVal x 0 (1, ((i : Nat) + 1 : Int))) ⟨B.st.two, B.kind, hx0, hx1⟩ (by rw [hob3]; exact if_pos rfl) (by rw [hob3]; unfold updI; rw [if_neg (fun e => HA.out.hs e.symm), if_pos rfl]) (fun m z hz => by
          rw [hob3]
          obtain ⟨z1, hz1⟩ := updI_some (k := s) (x := setVal (setVal y (2 * i) (q1, n1)) (2 * i + 1) (q2, n2)) hz
          exact updI_some hz1) htx (by
          show (setA (setA S s y (2 * i) q1 n1) s (setVal y (2 * i) (q1, n1)) (2 * i + 1) q2 n2).L.ok = true
          rw [setA_L, setA_L]; exact HA.out.ok))
      have HTX := Lib.hid htx
      have HLL := Lib.hid (show (wrA (setA (setA S s y (2 * i) q1 n1) s (setVal y (2 * i) (q1, n1)) (2 * i + 1) q2 n2) h x 0 1 ((i : Nat) + 1 : Int)).L = S.L by
        show (setA (setA S s y (2 * i) q1 n1) s (setVal y (2 * i) (q1, n1)) (2 * i + 1) q2 n2).L = S.L
        rw [setA_L, setA_L])
      have HRO := Lib.hid hroom
      clear hy hyc hk h3 h4 hz0 hz1 hob1 hm1 hob2 hSt hob3 htx hroom B hin hile hx0 hx1
      generalize (setA (setA S s y (2 * i) q1 n1) s (setVal y (2 * i) (q1, n1)) (2 * i + 1) q2 n2) = S2 at *
      generalize (setA S s y (2 * i) q1 n1) = S1 at *
      go_wp2_with fail
      go_at_call 91
      refine (HRm.out _ HY.out.fr).mono ?_
      rintro e w4 ⟨rfl, F4⟩
      have HF4 := Lib.hid (HY.out.fr.trans F4)
      have HB4 := Lib.hid (HB3.out.keep F4 (.inr rfl))
      obtain ⟨z0, z1, z2, z3⟩ := HB4.out.cells
      clear F4 y0 y1 y2 y3
      go_wp2_with fail
      go_at_call 68
      refine (HS1.out _ HF4.out).mono ?_
      rintro e w5 ⟨rfl, o5, F5, E5⟩
      have HB5 := Lib.hid (HB4.out.keep F5 (.inl (by have := HR.out; omega)))
      have HF5 := Lib.hid ((HF4.out.none r (r + 29)).trans F5)
      have HE5 := Lib.hid E5
      obtain ⟨y0, y1, y2, y3⟩ := HB5.out.cells
      clear F5 E5 z0 z1 z2 z3
      go_wp2_with fail
      go_at_call 68
      refine (HS2.out o5 _ HF5.out.fresh HE5.out).mono ?_
      rintro e w6 ⟨rfl, o6, F6, E6⟩
      have HF6 := Lib.hid (HF5.out.trans F6)
      have HE6 := Lib.hid E6
      clear F6 E6 y0 y1 y2 y3
      go_wp2_with fail
      go_at_call 92
      refine (HKp.out o6 _ HF6.out.fresh HE6.out).mono ?_
      rintro e w7 ⟨rfl, o7, F7, E7⟩
      have HF7 := Lib.hid (HF6.out.trans F7)
      have HE7 := Lib.hid E7
      clear F7 E7
      go_wp2_with fail
      go_ret
      exact ⟨i, _, HFd.out, ⟨rfl, o7, HF7.out, HE7.out⟩, HTX.out, .inr ⟨rfl, c, s, HD.out, .inl ⟨HRO.out, rfl, HLL.out⟩⟩⟩
    · obtain ⟨hc2, L', t, hTk⟩ := HT.out (by omega)
      have hci : c = 2 * i := by have := B.nc; have := HEV.out; omega
      have hmc : 2 * i + 2 ≤ moreN c 8 ∧ moreN c 8 ≤ 4000 := by unfold moreN; split <;> omega
      have hy : ∃ y : Ob, (0 < c → S.ob s = some y ∧ y.cells = c ∧ y.kind = 4) ∧ (∀ j, j < i → y.val (2 * j) = ks j ∧ y.val (2 * j + 1) = vs j) := by
        rcases Nat.eq_zero_or_pos c with h0 | h0
        · exact ⟨newOb 0 0 0, fun h => by omega, fun j hj => by omega⟩
        · obtain ⟨y, h1, h2, h3, h4, _⟩ := HA.out.st h0
          exact ⟨y, fun _ => ⟨h1, h2, h3⟩, h4⟩
      obtain ⟨y, hy, h3⟩ := hy
      have hvals : ∀ j, j < c → (y.val j).1 ≤ 3 ∧ in64 (y.val j).2 ∧ ((y.val j).1 = 3 → ∃ z, S.ob (y.val j).2 = some z) := fun j hj => by
        have hi2 : j / 2 < i := by omega
        have hV : ValOk S (y.val j).1 (y.val j).2 := by
          rcases Nat.mod_two_eq_zero_or_one j with e | e
          · have := (h3 _ hi2).1
            rw [show 2 * (j / 2) = j by omega] at this
            rw [this]; exact (HA.out.keys _ hi2).2
          · have := (h3 _ hi2).2
            rw [show 2 * (j / 2) + 1 = j by omega] at this
            rw [this]; exact HA.out.vals _ hi2
        exact ⟨hV.q3, hV.n64, hV.ref⟩
      have HRm := Lib.hid (fun (w1 : World) (F : Fr 0 0 o o w w1) => room_new (2 * ((i : Nat) + 1 : Int)) 8 L' t w1 HR.out F.fresh (HE.out _ F) B.st (by omega) B.c4 (by omega) (by omega) HA.out.ok hTk (fun h0 => ⟨(hy h0).1, (hy h0).2.1⟩) hvals)
      generalize hyt : withVals (newOb 4 (moreN c 8) 0) y.val c = yt
      generalize hT0 : copyA (makeA S L' t 4 (moreN c 8) 0) (t : Int) (newOb 4 (moreN c 8) 0) y.val c = T0 at HRm
      have hobT : T0.ob = updI S.ob (t : Int) (some yt) := by
        rw [← hT0, copyA_ob (show (makeA S L' t 4 (moreN c 8) 0).ob (t : Int) = _ from if_pos rfl), hyt]
        show updI (updI S.ob _ _) _ _ = _
        rw [updI_twice]
      have hLT : T0.L = L' := by rw [← hT0, copyA_L]; rfl
      have hytc : yt.cells = moreN c 8 := by rw [← hyt]; rfl
      have hytk : yt.kind = 4 := by rw [← hyt]; rfl
      have hytv : ∀ j, yt.val j = if j < c then y.val j else (0, 0) := fun j => by rw [← hyt]; rfl
      have hz0 : (yt.val (2 * i)).1 ≠ 3 := by rw [hytv, if_neg (by omega)]; show (0 : Nat) ≠ 3; omega
      have hz1 : (yt.val (2 * i + 1)).1 ≠ 3 := by rw [hytv, if_neg (by omega)]; show (0 : Nat) ≠ 3; omega
      have hmT : ∀ m z, S.ob m = some z → ∃ z', T0.ob m = some z' := fun m z hz => by rw [hobT]; exact updI_some hz
      have HS1 := Lib.hid (fun (o1 : Own) (w1 : World) (ho1 : Owned o1 w1) (E1 : EngRep o1 w1 r p T0) => show Calls Tryz.prog 68 #[.pointer (some ⟨p, 0, none⟩), .int .i64 (t : Nat), .int .i64 (2 * (i : Nat) : Int), valV q1 n1] w1 (EngDo o1 w1 r p (setA T0 (t : Int) yt (2 * i) q1 n1) (.int .i64 0)) from
        rset (t : Int) (2 * (i : Nat) : Int) yt (2 * i) q1 n1 w1 HR.out ho1 E1 (by rw [hobT]; exact if_pos rfl) (by omega) (by omega) HKV.out.q3 HKV.out.n64 (fun e => by obtain ⟨z, hz⟩ := HKV.out.ref e; exact hmT _ _ hz) (fun _ e => absurd e hz0))
      have hob1 : (setA T0 (t : Int) yt (2 * i) q1 n1).ob = updI S.ob (t : Int) (some (setVal yt (2 * i) (q1, n1))) := by rw [setA_ob, hobT, updI_twice]
      have hm1 : ∀ m z, S.ob m = some z → ∃ z', (setA T0 (t : Int) yt (2 * i) q1 n1).ob m = some z' := fun m z hz => by rw [hob1]; exact updI_some hz
      have HS2 := Lib.hid (fun (o1 : Own) (w1 : World) (ho1 : Owned o1 w1) (E1 : EngRep o1 w1 r p (setA T0 (t : Int) yt (2 * i) q1 n1)) => show Calls Tryz.prog 68 #[.pointer (some ⟨p, 0, none⟩), .int .i64 (t : Nat), .int .i64 (2 * (i : Nat) + 1 : Int), valV q2 n2] w1 (EngDo o1 w1 r p (setA (setA T0 (t : Int) yt (2 * i) q1 n1) (t : Int) (setVal yt (2 * i) (q1, n1)) (2 * i + 1) q2 n2) (.int .i64 0)) from
        rset (t : Int) (2 * (i : Nat) + 1 : Int) (setVal yt (2 * i) (q1, n1)) (2 * i + 1) q2 n2 w1 HR.out ho1 E1 (by rw [hob1]; exact if_pos rfl) (by omega) (by show 2 * i + 1 < yt.cells; omega) HV.out.q3 HV.out.n64 (fun e => by obtain ⟨z, hz⟩ := HV.out.ref e; exact hm1 _ _ hz) (fun _ e => absurd e (by
          show (updF yt.val (2 * i) (q1, n1) (2 * i + 1)).1 ≠ 3
          unfold updF
          rw [if_neg (by omega)]; exact hz1)))
      have hob2 : (setA (setA T0 (t : Int) yt (2 * i) q1 n1) (t : Int) (setVal yt (2 * i) (q1, n1)) (2 * i + 1) q2 n2).ob = updI S.ob (t : Int) (some (setVal (setVal yt (2 * i) (q1, n1)) (2 * i + 1) (q2, n2))) := by rw [setA_ob, hob1, updI_twice]
      have hL2 : (setA (setA T0 (t : Int) yt (2 * i) q1 n1) (t : Int) (setVal yt (2 * i) (q1, n1)) (2 * i + 1) q2 n2).L = L' := by rw [setA_L, setA_L, hLT]
      generalize hS1 : (setA T0 (t : Int) yt (2 * i) q1 n1) = S1 at HS1 HS2 hob2 hL2
      generalize hS2 : (setA S1 (t : Int) (setVal yt (2 * i) (q1, n1)) (2 * i + 1) q2 n2) = S2 at HS2 hob2 hL2
      have HKp := Lib.hid (fun (hnew : S.ob (t : Int) = none) (h64 : 64 ≤ t) (h26 : t < 262144) (o1 : Own) (w1 : World) (ho1 : Owned o1 w1) (E1 : EngRep o1 w1 r p S2) => show Calls Tryz.prog 92 #[.pointer (some ⟨p, 0, none⟩), .int .i64 h, .int .i64 (t : Nat), .int .i64 ((i : Nat) + 1 : Int)] w1 (EngDo o1 w1 r p (wrA (setA S2 h x 1 3 (t : Int)) h (setVal x 1 (3, (t : Int))) 0 1 ((i : Nat) + 1 : Int)) (.tuple #[])) from by
        have hht : h ≠ (t : Int) := fun e => by have := B.st.ob; rw [e, hnew] at this; cases this
        have hst : s ≠ (t : Int) := fun e => by
          rcases Nat.eq_zero_or_pos c with h0 | h0
          · have := (B.st.none_ h0).2; omega
          · have := (hy h0).1; rw [e, hnew] at this; cases this
        refine keep_new (y := setVal (setVal yt (2 * i) (q1, n1)) (2 * i + 1) (q2, n2)) ((i : Nat) + 1 : Int) w1 HR.out ho1 E1 (s := s) (c := c) ⟨?_, B.st.two, B.st.none_, fun h0 => ⟨(B.st.some_ h0).1, y, ?_, (hy h0).2.1⟩⟩ (by unfold in64; omega) (by rw [B.len]; show (1 : Nat) ≠ 3; omega) hst (by rw [hob2]; exact if_pos rfl) (by unfold in64; omega)
        · rw [hob2]; unfold updI; rw [if_neg hht]; exact B.st.ob
        · rw [hob2]; unfold updI; rw [if_neg hst]; exact (hy h0).1)
      have hob3 : (wrA (setA S2 h x 1 3 (t : Int)) h (setVal x 1 (3, (t : Int))) 0 1 ((i : Nat) + 1 : Int)).ob = updI (updI S.ob (t : Int) (some (setVal (setVal yt (2 * i) (q1, n1)) (2 * i + 1) (q2, n2)))) h (some (setVal (setVal x 1 (3, (t : Int))) 0 (1, ((i : Nat) + 1 : Int)))) := by
        show updI (setA S2 h x 1 3 (t : Int)).ob _ _ = _
        rw [setA_ob, updI_twice, hob2]
      have hL3 : (wrA (setA S2 h x 1 3 (t : Int)) h (setVal x 1 (3, (t : Int))) 0 1 ((i : Nat) + 1 : Int)).L = L' := by
        show (setA S2 h x 1 3 (t : Int)).L = L'
        rw [setA_L, hL2]
      generalize hS3 : (wrA (setA S2 h x 1 3 (t : Int)) h (setVal x 1 (3, (t : Int))) 0 1 ((i : Nat) + 1 : Int)) = S3 at HKp hob3 hL3
      have HEND := Lib.hid (fun (hnew : S.ob (t : Int) = none) (hok' : L'.ok = true) => show (∀ m z, S.ob m = some z → z.kind = 1 → S3.ob m = some z) ∧ DS S3 h (updF ks i (q1, n1)) (updF vs i (q2, n2)) (i + 1) (moreN c 8) (t : Int) from by
        have hht : h ≠ (t : Int) := fun e => by have := B.st.ob; rw [e, hnew] at this; cases this
        have htx : ∀ m z, S.ob m = some z → z.kind = 1 → S3.ob m = some z := fun m z hz hz1 => by
          rw [hob3]; unfold updI
          rw [if_neg (fun e => by rw [e, B.st.ob] at hz; cases hz; have := B.kind; omega), if_neg (fun e => by rw [e, hnew] at hz; cases hz)]
          exact hz
        have hx0 : (setVal (setVal x 1 (3, (t : Int))) 0 (1, ((i : Nat) + 1 : Int))).val 0 = (1, ((i + 1 : Nat) : Int)) := by
          show updF (setVal x 1 (3, (t : Int))).val 0 (1, ((i : Nat) + 1 : Int)) 0 = _
          unfold updF
          rw [if_pos rfl]
          push_cast
          rfl
        have hx1 : (setVal (setVal x 1 (3, (t : Int))) 0 (1, ((i : Nat) + 1 : Int))).val 1 = (3, (t : Int)) := by
          show updF (updF x.val 1 (3, (t : Int))) 0 (1, ((i : Nat) + 1 : Int)) 1 = (3, (t : Int))
          unfold updF
          rw [if_neg (by omega), if_pos rfl]
        refine ⟨htx, HA.out.add B hmc.1 hmc.2 hytc hytk (fun j hj => ⟨?_, ?_⟩) (fun j hj hjc => ?_) HKK.out HKV.out HV.out hht (x' := setVal (setVal x 1 (3, (t : Int))) 0 (1, ((i : Nat) + 1 : Int))) ⟨B.st.two, B.kind, hx0, hx1⟩ (by rw [hob3]; exact if_pos rfl) (by rw [hob3]; unfold updI; rw [if_neg (fun e => hht e.symm), if_pos rfl]) (fun m z hz => ?_) htx (by rw [hL3]; exact hok')⟩
        · rw [hytv, if_pos (by omega)]; exact (h3 j hj).1
        · rw [hytv, if_pos (by omega)]; exact (h3 j hj).2
        · rw [hytv, if_neg (by omega)]
        · rw [hob3]
          obtain ⟨z1, hz1⟩ := updI_some (k := (t : Int)) (x := setVal (setVal yt (2 * i) (q1, n1)) (2 * i + 1) (q2, n2)) hz
          exact updI_some hz1)
      have HLL := Lib.hid hL3
      have HTk := Lib.hid hTk
      have HRO := Lib.hid hroom
      clear hy h3 hvals hyt hT0 hobT hLT hytc hytk hytv hz0 hz1 hmT hob1 hm1 hob2 hL2 hS1 hS2 hob3 hL3 hS3 hTk hroom B hin hile hmc hci hc2
      go_wp2_with fail
      go_at_call 91
      refine (HRm.out _ HY.out.fr).mono ?_
      rintro e w4 ⟨⟨rfl, o4, F4, E4⟩, hnew, h64, h26, hok', hLn⟩
      have HNW := Lib.hid (And.intro hnew (And.intro h64 (And.intro h26 (And.intro hok' hLn))))
      have HB4 := Lib.hid (HB3.out.keep F4 (.inl (by have := HR.out; omega)))
      have HF4 := Lib.hid ((HY.out.fr.none r (r + 29)).trans F4)
      have HE4 := Lib.hid E4
      obtain ⟨z0, z1, z2, z3⟩ := HB4.out.cells
      clear F4 y0 y1 y2 y3 E4 hnew h64 h26 hok' hLn
      go_wp2_with fail
      go_at_call 68
      refine (HS1.out o4 _ HF4.out.fresh HE4.out).mono ?_
      rintro e w5 ⟨rfl, o5, F5, E5⟩
      have HB5 := Lib.hid (HB4.out.keep F5 (.inl (by have := HR.out; omega)))
      have HF5 := Lib.hid (HF4.out.trans F5)
      have HE5 := Lib.hid E5
      obtain ⟨y0, y1, y2, y3⟩ := HB5.out.cells
      clear F5 E5 z0 z1 z2 z3
      go_wp2_with fail
      go_at_call 68
      refine (HS2.out o5 _ HF5.out.fresh HE5.out).mono ?_
      rintro e w6 ⟨rfl, o6, F6, E6⟩
      have HF6 := Lib.hid (HF5.out.trans F6)
      have HE6 := Lib.hid E6
      clear F6 E6 y0 y1 y2 y3
      go_wp2_with fail
      go_at_call 92
      refine (HKp.out HNW.out.1 HNW.out.2.1 HNW.out.2.2.1 o6 _ HF6.out.fresh HE6.out).mono ?_
      rintro e w7 ⟨rfl, o7, F7, E7⟩
      have HF7 := Lib.hid (HF6.out.trans F7)
      have HE7 := Lib.hid E7
      clear F7 E7
      go_wp2_with fail
      go_ret
      exact ⟨i, S3, HFd.out, ⟨rfl, o7, HF7.out, HE7.out⟩, (HEND.out HNW.out.1 HNW.out.2.2.2.1).1, .inr ⟨rfl, moreN c 8, (t : Int), (HEND.out HNW.out.1 HNW.out.2.2.2.1).2, .inr ⟨by have := HRO.out; omega, rfl, by rw [HLL.out]; exact HNW.out.2.2.2.2, t, by rw [HLL.out]; exact HTk.out⟩⟩⟩
end
end Go.Proofs.YtlpklloagaccoaaGreat
