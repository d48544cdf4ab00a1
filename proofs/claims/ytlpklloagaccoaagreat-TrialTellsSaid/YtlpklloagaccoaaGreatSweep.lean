/- A set of numbers (drain.Set): a new map of owner 51. Conditions: handles; at most 1048576. A number is taken out of a set (least.Heap.Pop): one that is in it. Conditions: the set is one. The sweep of a drain: its parts; what is offered (drain.sweep.offer). Conditions: the engine is as one that was made; handles. The sweep of a drain: an object's end is told (drain.sweep.tell). Conditions: the engine is as one that was made; the object is watched. The sweep of a drain: some are offered, one after the other (drain.each). Conditions: the engine is as one that was made; handles. The sweep of a drain: an object is let go, and what it referred to is offered (drain.sweep.free). Conditions: the engine is as one that was made; handles. -/
import Derived.Test.YtlpklloagaccoaaGreatEngW
import Derived.Test.YtlpklloagaccoaaGreatSl
import Derived.Outline
import Derived.Test.YtlpklloagaccoaaGreatLeast3
import Derived.Test.YtlpklloagaccoaaGreatHeapPop
import Derived.Deep.LoopGhost
import Derived.Test.YtlpklloagaccoaaGreatZeros
import Derived.Test.YtlpklloagaccoaaGreatTells
import Derived.Test.YtlpklloagaccoaaGreatFree
import Derived.Test.YtlpklloagaccoaaGreatRefs
namespace Go.Proofs.YtlpklloagaccoaaGreat
open Go.RowKit
set_option linter.unusedVariables false

/-- Is it one of these? -/
def inL (xs : List Int) : Int → Bool := fun k => decide (k ∈ xs)
theorem inL_step (xs : List Int) {i : Nat} (hi : i < xs.length) : inL (xs.take (i + 1)) = updS (inL (xs.take i)) (xs.getD i 0) true := by
  funext k
  unfold inL updS
  have e : xs.getD i 0 = xs[i] := by simp [List.getD, hi]
  rw [List.take_succ_eq_append_getElem hi, e]
  by_cases h : k = xs[i]
  · rw [if_pos h]; simp only [List.mem_append, List.mem_singleton, h, or_true, decide_true]
  · rw [if_neg h]; simp only [List.mem_append, List.mem_singleton, h, or_false]
def DSetPost (o : Own) (w : World) (xs : List Int) (e : Ending) (w' : World) : Prop := ∃ b o', e = .returned (.map (some b)) ∧ Fr 51 52 o o' w w' ∧ MapBlk o' w' 51 b (setMap (inL xs))
set_option maxRecDepth 100000 in
set_option maxHeartbeats 1000000 in
theorem dset_any {o : Own} {w0 : World} (A : Option Addr) (n cap : Nat) (xs : List Int) (w : World) (ho : Owned o w) (R : RowNew w0 o w (.slice A n cap) xs) (hn : n ≤ 1048576) (hk : ∀ k ∈ xs, 0 ≤ k ∧ k < KB) :
    Calls Tryz.prog 133 #[.slice A n cap] w (DSetPost o w xs) := by
  have hmm := @run_makeMap Tryz.prog
  have HR := Lib.hid R
  have HO := Lib.hid ho
  have hl : xs.length = n := by
    obtain ⟨A', cap', e, _⟩ := R.row.rd
    cases e; rfl
  have hn' : (n : Int) ≤ 1048576 := by omega
  have HK := Lib.hid (fun (i : Nat) (hi : i < n) => show 0 ≤ xs.getD i 0 ∧ xs.getD i 0 < KB from by
    have e : xs.getD i 0 = xs[i]'(by omega) := by simp [List.getD, show i < xs.length by omega]
    rw [e]; exact hk _ (List.getElem_mem _))
  have HL := Lib.hid hl
  clear R ho hk hn hl
  go_enter Tryz.func133, Tryz.ntmps133
  go_wp2_with fail
  have HM0 := Lib.hid (MapBlk.new (o := o) (w := w) 51)
  have HF0 := Lib.hid (show Fr 51 52 o (o.give w.heap.size 51) w (w.alloc (.map #[] 0)) from (Fr.refl HO.out).give _ 51)
  have hbl : w.heap.size < (w.alloc (.map #[] 0)).heap.size := by simp
  generalize hb : w.heap.size = b at *
  go_loopw [9] (fun iv wr => ∃ (i : Nat), i ≤ n ∧ iv = .int .i64 i ∧ Fr 51 52 o (o.give b 51) w wr ∧ MapBlk (o.give b 51) wr 51 b (setMap (inL (xs.take i)))) (fun iv _ => n - (intOf iv).toNat)
  case atStart => exact ⟨0, by omega, rfl, HF0.out, ⟨HM0.out.1, HM0.out.2.congr fun k => by unfold setMap inL; simp⟩⟩
  case round =>
    obtain ⟨i, hi, rfl, Fi, Mi⟩ := hrel
    have HFi := Lib.hid Fi
    have HMi := Lib.hid Mi
    by_cases hin : i < n
    · have hin' : (i : Int) < (n : Int) := by omega
      obtain ⟨k0, k1⟩ := HK.out i hin
      obtain ⟨A', cap', e, R'⟩ := (HR.out.keep Fi (.inl (by omega))).row.rd
      cases e
      obtain ⟨g, f, hA, hg, hc⟩ := R'.at_ (i := i) (by rw [HL.out]; exact hin)
      subst hA
      have hst := inL_step xs (i := i) (by rw [HL.out]; exact hin)
      have HST := Lib.hid hst
      clear Fi Mi hi hst R'
      generalize xs.getD i 0 = k at *
      go_wp2_with (at_mapUpdate; refine wpList_mapUpdate_is _ rfl _ _ _ 100 rfl 3 4 Tryz.underlying100 Tryz.underlying3 b _ (by exact HMi.out.2) rfl k rfl k0 k1 _ rfl ?_; intro w2 hm2 ht2; have HF2 := Lib.hid (HFi.out.trans (ht2.fr (lo := 51) (hi := 52) HFi.out.fresh (by rw [HMi.out.1]; omega))); have HM2 := Lib.hid (hm2.congr fun j => setMap_upd (inL (xs.take i)) k j))
      exact ⟨⟨i + 1, by omega, by go_num, HF2.out, ⟨HMi.out.1, by rw [HST.out]; exact HM2.out⟩⟩, by simp [intOf]; omega⟩
    · have hin' : ¬ (i : Int) < (n : Int) := by omega
      obtain rfl : i = n := by omega
      have HE := Lib.hid (show xs.take i = xs from List.take_of_length_le (by rw [HL.out]; omega))
      clear Fi Mi hi
      go_wp2_with fail
      go_ret
      exact ⟨b, _, rfl, HFi.out, HMi.out.1, by have := HMi.out.2; rw [HE.out] at this; exact this⟩
end Go.Proofs.YtlpklloagaccoaaGreat
namespace Go.Proofs.YtlpklloagaccoaaGreat
open Go.RowKit
set_option linter.unusedVariables false

theorem pickJ_lt {xs : List Int} {i n : Nat} (h : 2 * i + 1 < n) : pickJ xs i n < n := by
  unfold pickJ
  split <;> omega
theorem downL_perm : ∀ (f : Nat) (xs : List Int) (i n : Nat), n ≤ xs.length → (downL f xs i n).Perm xs
  | 0, xs, _, _, _ => List.Perm.refl xs
  | f + 1, xs, i, n, h => by
    rw [downL_succ]
    split
    · exact List.Perm.refl xs
    · split
      · have hp := pickJ_lt (xs := xs) (i := i) (n := n) (by omega)
        exact (downL_perm f _ _ n (by rw [swapL_length]; exact h)).trans (swapL_perm (by omega) (by omega))
      · exact List.Perm.refl xs
theorem popL_perm {xs : List Int} (h : 0 < xs.length) : (xs.getD 0 0 :: popL xs).Perm xs := by
  obtain ⟨n, hn⟩ : ∃ n, xs.length = n + 1 := ⟨xs.length - 1, by omega⟩
  have hp := (downL_perm n (swapL xs 0 n) 0 n (by rw [swapL_length]; omega)).trans (swapL_perm (xs := xs) (i := 0) (j := n) (by omega) (by omega))
  have hl : (downL n (swapL xs 0 n) 0 n).length = n + 1 := by rw [downL_length, swapL_length, hn]
  have e1 : popL xs = (downL n (swapL xs 0 n) 0 n).take n := by unfold popL; rw [hn, Nat.add_sub_cancel]
  have e2 : (downL n (swapL xs 0 n) 0 n).getD n 0 = xs.getD 0 0 := by
    rw [downL_getD _ _ _ _ _ (Nat.le_refl _)]
    unfold swapL
    rw [List.getD, List.getElem?_set_self (by simp; omega)]
    rfl
  rw [e1, ← e2]
  generalize downL n (swapL xs 0 n) 0 n = ys at *
  have e3 : ys = ys.take n ++ [ys.getD n 0] := by
    have h4 : ys.getD n 0 = ys[n] := by simp [List.getD, hl]
    rw [h4, ← List.take_succ_eq_append_getElem (by omega), List.take_of_length_le (by omega)]
  refine List.Perm.trans ?_ hp
  have h5 : (ys.getD n 0 :: ys.take n).Perm (ys.take n ++ [ys.getD n 0]) := (List.perm_append_comm (l₁ := [ys.getD n 0]) (l₂ := ys.take n))
  rw [← e3] at h5
  exact h5
/-- Behind Pop: the set was empty; or one that was in it is out. -/
def LPopPost (o : Own) (w : World) (r p : Nat) (S : Int → Bool) (e : Ending) (w' : World) : Prop :=
  ∃ o', Fr r (r + 3) o o' w w' ∧ ((e = .returned (.tuple #[.int .i64 0, .bool false]) ∧ (∀ k, S k = false) ∧ LeastRep o' w' r p S) ∨
    ∃ n, e = .returned (.tuple #[.int .i64 n, .bool true]) ∧ S n = true ∧ LeastRep o' w' r p (updS S n false))
/-- One number is out of the row and out of the map. -/
theorem Least.out {o : Own} {w w2 w3 : World} {r p g cap b : Nat} {S : Int → Bool} {xs : List Int} {f : Int → Option Value} (L : Least o w r p S (.slice (some ⟨g, 0, none⟩) xs.length cap) xs b f) (ho : Owned o w) (hl : 0 < xs.length)
    (hp2 : w2.heap[p]? = some (.cells #[.slice (some ⟨g, 0, none⟩) (xs.length - 1) cap, .map (some b)] 157 (0, 0))) (R2 : RowB w2 g cap (popL xs)) (F2 : RowFr w w2 p (some g)) (hm3 : MapIs w3 b (fun j => if j = xs.getD 0 0 then none else f j)) (ht3 : MapTurn w2 w3 b) :
    Fr r (r + 3) o o w w3 ∧ Least o w3 r p (updS S (xs.getD 0 0) false) (.slice (some ⟨g, 0, none⟩) (popL xs).length cap) (popL xs) b (fun j => if j = xs.getD 0 0 then none else f j) := by
  have hperm := popL_perm hl
  have hog := L.own g rfl
  have hop := L.blk.1
  have hob := L.map.1
  have hpb : p ≠ b := fun e => by rw [e] at hop; omega
  have hgb : g ≠ b := fun e => by rw [e] at hog; omega
  have hFr2 : Fr r (r + 3) o o w w2 := ⟨F2.os, F2.tape, F2.output, F2.size, fun c hc hor => F2.block c hc (fun e => by rw [e] at hor; omega) (fun e => by cases e; omega), fun _ _ => rfl, fun c hc => ho c (Nat.le_trans F2.size hc)⟩
  have hFr3 := hFr2.trans (ht3.fr (lo := r) (hi := r + 3) hFr2.fresh (by omega))
  have hnd : (xs.getD 0 0 :: popL xs).Nodup := hperm.nodup_iff.2 L.nd
  rw [List.nodup_cons] at hnd
  have hmem : ∀ k, k ∈ xs ↔ k = xs.getD 0 0 ∨ k ∈ popL xs := fun k => by rw [← hperm.mem_iff, List.mem_cons]
  refine ⟨hFr3, ⟨hop, ?_⟩, (R2.of_eq (ht3.block g hgb)).row, fun g' hg' => ?_, ⟨hob, hm3⟩, fun k => ?_, fun k => ?_, hnd.2, fun x hx => L.rng x ((hmem x).2 (.inr hx))⟩
  · rw [popL_length]; exact (ht3.block p hpb).trans hp2
  · simp only [Value.ownBlock, Option.some.injEq] at hg'
    subst hg'; exact hog
  · unfold updS
    by_cases e : k = xs.getD 0 0
    · rw [if_pos e, if_pos e]; rfl
    · rw [if_neg e, if_neg e]; exact L.is k
  · by_cases e : k = xs.getD 0 0
    · rw [if_pos e, e]
      exact ⟨fun h => (by cases h), fun h => absurd h hnd.1⟩
    · rw [if_neg e, L.mem k, hmem k]
      exact ⟨fun h => h.resolve_left e, .inr⟩
set_option maxRecDepth 100000 in
set_option maxHeartbeats 1000000 in
theorem lpop_any {o : Own} {r p : Nat} {S : Int → Bool} (w : World) (ho : Owned o w) (L : LeastRep o w r p S) :
    Calls Tryz.prog 137 #[.pointer (some ⟨p, 0, none⟩)] w (LPopPost o w r p S) := by
  obtain ⟨v, xs, b, f, L⟩ := L
  have HO := Lib.hid ho
  have HL := Lib.hid L
  have hta : ∀ (x : Int) (w : World), (Instr.typeAssert (.iface 3 (.int .i64 x)) 20 3 false).run Tryz.prog w = .ok (.int .i64 x) w := fun _ _ => by kernel_rfl
  clear L ho
  go_enter Tryz.func137, Tryz.ntmps137
  go_wp2_with fail
  go_loopg [4] xs.length (fun k _ wr => ∃ (v : Value) (ys : List Int) (f : Int → Option Value), k = ys.length ∧ Fr r (r + 3) o o w wr ∧ Least o wr r p S v ys b f)
  case atStart => exact ⟨v, xs, f, rfl, Fr.refl HO.out, HL.out⟩
  case round =>
    obtain ⟨v, ys, f, hk, Fi, Li⟩ := hrel
    have HKL := Lib.hid hk
    clear hk
    have HFi := Lib.hid Fi
    have c0 := Li.blk.cell 0
    have c1 := Li.blk.cell 1
    simp only [List.getElem?_toArray, List.getElem?_cons_zero, List.getElem?_cons_succ] at c0 c1
    have hpl := Li.blk.lt
    rcases Li.row.form with ⟨rfl, rfl⟩ | ⟨g, cap, rfl, R⟩
    · have HLi := Lib.hid Li
      clear Fi Li
      go_wp2_with (go_at_call 184; refine (row_len .nilIface _ _ _ _).mono ?_; rintro e w2 ⟨rfl, rfl⟩)
      go_ret2
      refine ⟨o, HFi.out, .inl ⟨rfl, fun k => ?_, _, _, _, _, HLi.out⟩⟩
      have h1 := HLi.out.is k
      have h2 := HLi.out.mem k
      cases hf : f k with
      | none => rw [hf] at h1; simpa using h1.symm
      | some u => rw [hf] at h2; simp at h2
    · by_cases hl : 0 < ys.length
      · have hlen := nodup_len Li.nd Li.rng
        have hpg : ¬ p = g := fun e => by have h1 := Li.own g rfl; have h2 := Li.blk.1; rw [e] at h2; omega
        have hgl := R.lt
        have hl' : (0 : Int) < (ys.length : Int) := by omega
        have HPop := Lib.hid (heap_pop wr Li.blk.2 (off := 0) rfl hpg R hl (by omega))
        have HOut := Lib.hid (fun (w2 w3 : World) h1 h2 h3 h4 h5 => Li.out HFi.out.fresh (w2 := w2) (w3 := w3) hl h1 h2 h3 h4 h5)
        have HMap := Lib.hid (fun (w2 : World) (F2 : RowFr wr w2 p (some g)) => show MapIs w2 b f from by
          have h1 := Li.own g rfl
          have h2 := Li.blk.1
          have h3 := Li.map.1
          obtain ⟨es, cl, hb, rest⟩ := Li.map.2
          exact MapIs.of_eq Li.map.2 (F2.block b (lt_of_block hb) (fun e => by rw [e] at h3; omega) (fun e => by cases e; omega)))
        have HIs := Lib.hid (Li.is (ys.getD 0 0))
        have HLen := Lib.hid (popL_length ys)
        have HLP := Lib.hid hl
        clear Fi Li R hpg hl
        obtain ⟨n, hn⟩ : ∃ n, n = ys.getD 0 0 := ⟨_, rfl⟩
        have HN := Lib.hid hn
        unfold HeapPopPost at HPop
        rw [← hn] at HPop HOut HIs
        clear hn
        cases hs : S n with
        | true =>
          rw [hs] at HIs
          have HS := Lib.hid hs
          clear hs
          go_wp2_with (go_at_call 184; refine (row_len .nilIface _ _ _ _).mono ?_; rintro e w2 ⟨rfl, rfl⟩)
          go_at_call 185
          refine HPop.out.mono ?_
          rintro e w2 ⟨rfl, hp2, R2, F2⟩
          have hm2 := HMap.out w2 F2
          have d1 : w2.cell? ⟨p, 1, none⟩ = some (.map (some b)) := by simp [World.cell?, hp2]
          have hpl2 := lt_of_block hp2
          have hlk : (Instr.lookup 100 (.map (some b)) (.int .i64 n) false).run Tryz.prog w2 = .ok (.bool true) w2 := by
            rw [MapIs.lookup hm2 Tryz.underlying100 Tryz.underlying3 zero_boolL false n]; simp [HIs.out]
          have HO2 := Lib.hid (fun (w3 : World) h3 h4 => HOut.out w2 w3 (by simpa using hp2) R2 F2 h3 h4)
          clear hp2 R2 F2
          go_wp2_with (at_delete; refine wpList_delete_is _ rfl _ _ 100 3 rfl 4 Tryz.underlying100 Tryz.underlying3 b _ (by exact hm2) rfl n rfl ?_; intro w3 hm3 ht3; have HO3 := Lib.hid (HO2.out w3 hm3 ht3); clear hm3 ht3)
          go_ret2
          exact ⟨o, HFi.out.trans HO3.out.1, .inr ⟨n, rfl, HS.out, _, _, _, _, HO3.out.2⟩⟩
        | false =>
          rw [hs] at HIs
          have HS := Lib.hid hs
          clear hs
          go_wp2_with (go_at_call 184; refine (row_len .nilIface _ _ _ _).mono ?_; rintro e w2 ⟨rfl, rfl⟩)
          go_at_call 185
          refine HPop.out.mono ?_
          rintro e w2 ⟨rfl, hp2, R2, F2⟩
          have hm2 := HMap.out w2 F2
          have d1 : w2.cell? ⟨p, 1, none⟩ = some (.map (some b)) := by simp [World.cell?, hp2]
          have hpl2 := lt_of_block hp2
          have hlk : (Instr.lookup 100 (.map (some b)) (.int .i64 n) false).run Tryz.prog w2 = .ok (.bool false) w2 := by
            rw [MapIs.lookup hm2 Tryz.underlying100 Tryz.underlying3 zero_boolL false n]; simp [HIs.out]
          have HO2 := Lib.hid (fun (w3 : World) h3 h4 => HOut.out w2 w3 (by simpa using hp2) R2 F2 h3 h4)
          clear hp2 R2 F2
          go_wp2_with (at_delete; refine wpList_delete_is _ rfl _ _ 100 3 rfl 4 Tryz.underlying100 Tryz.underlying3 b _ (by exact hm2) rfl n rfl ?_; intro w3 hm3 ht3; have HO3 := Lib.hid (HO2.out w3 hm3 ht3); clear hm3 ht3)
          go_roundg (ys.length - 1)
          case measure => have := HKL.out; have := HLP.out; omega
          case rel => exact ⟨_, popL ys, _, HLen.out.symm, HFi.out.trans HO3.out.1, by have := HO3.out.2; rw [updS_same HS.out] at this; exact this⟩
      · have hy : ys = [] := List.eq_nil_of_length_eq_zero (by omega)
        subst hy
        have HLi := Lib.hid Li
        clear Fi Li R hl
        go_wp2_with (go_at_call 184; refine (row_len .nilIface _ _ _ _).mono ?_; rintro e w2 ⟨rfl, rfl⟩)
        go_ret2
        refine ⟨o, HFi.out, .inl ⟨rfl, fun k => ?_, _, _, _, _, HLi.out⟩⟩
        have h1 := HLi.out.is k
        have h2 := HLi.out.mem k
        cases hf : f k with
        | none => rw [hf] at h1; simpa using h1.symm
        | some u => rw [hf] at h2; simp at h2
end Go.Proofs.YtlpklloagaccoaaGreat
namespace Go.Proofs.YtlpklloagaccoaaGreat
open Go.RowKit
set_option linter.unusedVariables false

theorem rzero {o : Own} {r p : Nat} {S : EngS} (h : Int) (w : World) (E : EngRep o w r p S) :
    Calls Tryz.prog 183 #[.pointer (some ⟨p, 0, none⟩), .int .i64 h] w fun e w' => e = .returned (.bool (S.Z h)) ∧ w = w' := by
  obtain ⟨ps, pt, pz, pp, bw, bk, v, K, E, A⟩ := E
  have HH := Lib.hid (show Calls Tryz.prog 174 #[.pointer (some ⟨pz, 0, none⟩), .int .i64 h] w fun e w' => e = .returned (.bool (S.Z h)) ∧ w = w' from by rw [A.Z]; exact has_any h w E.zeros)
  have c2 := E.c2
  clear E A
  go_enter Tryz.func183, Tryz.ntmps183
  go_wp2_with (go_at_call 174; refine HH.out.mono ?_; rintro e w2 ⟨rfl, rfl⟩)
  go_ret
  exact ⟨rfl, rfl⟩
/-- A sweep over the engine 'p': what is kept, what waits, what was freed and told. -/
structure SwX (o : Own) (w : World) (s p : Nat) (kept td : Int → Bool) (freed told : List Int) (bk q : Nat) (vf vt : Value) : Prop where
  blk : Blk o w 50 s (.cells #[.pointer (some ⟨p, 0, none⟩), .map (some bk), .pointer (some ⟨q, 0, none⟩), vf, vt] 145 (0, 0))
  kept : MapBlk o w 51 bk (setMap kept)
  todo : LeastRep o w 52 q td
  freed : LRow o w 55 vf freed
  told : LRow o w 56 vt told
def Sw (o : Own) (w : World) (s p : Nat) (kept td : Int → Bool) (freed told : List Int) : Prop := ∃ bk q vf vt, SwX o w s p kept td freed told bk q vf vt
theorem SwX.keep {lo hi : Nat} {o o' : Own} {w w' : World} {s p : Nat} {kept td : Int → Bool} {freed told : List Int} {bk q : Nat} {vf vt : Value} (h : SwX o w s p kept td freed told bk q vf vt) (k : Fr lo hi o o' w w') (hr : 57 ≤ lo ∨ hi ≤ 50) : SwX o' w' s p kept td freed told bk q vf vt :=
  ⟨h.blk.keep k (by omega), h.kept.keep k (by omega), h.todo.keep k (by omega), h.freed.keep k (by omega), h.told.keep k (by omega)⟩
theorem Sw.keep {lo hi : Nat} {o o' : Own} {w w' : World} {s p : Nat} {kept td : Int → Bool} {freed told : List Int} (h : Sw o w s p kept td freed told) (k : Fr lo hi o o' w w') (hr : 57 ≤ lo ∨ hi ≤ 50) : Sw o' w' s p kept td freed told :=
  let ⟨a, b, c, d, s⟩ := h; ⟨a, b, c, d, s.keep k hr⟩
/-- Behind a call on the sweep that leaves the engine. -/
def SwPost (o : Own) (w : World) (s p : Nat) (kept td : Int → Bool) (freed told : List Int) (e : Ending) (w' : World) : Prop :=
  e = .returned (.tuple #[]) ∧ ∃ o', Fr 50 57 o o' w w' ∧ Sw o' w' s p kept td freed told
def offerS (Z kept td : Int → Bool) (h : Int) : Int → Bool := if Z h = true ∧ kept h = false then updS td h true else td
set_option maxRecDepth 100000 in
theorem offer_any {o : Own} {s p : Nat} {S : EngS} {kept td : Int → Bool} {freed told : List Int} (h : Int) (w : World) (ho : Owned o w) (E : EngRep o w 1 p S) (W : Sw o w s p kept td freed told) (h0 : 0 ≤ h) (h1 : h < KB) :
    Calls Tryz.prog 136 #[.pointer (some ⟨s, 0, none⟩), .int .i64 h] w (SwPost o w s p kept (offerS S.Z kept td h) freed told) := by
  obtain ⟨bk, q, vf, vt, W⟩ := W
  have HZ := Lib.hid (rzero h w E)
  have HP := Lib.hid (lpush_any h w ho W.todo h0 h1)
  have c0 := W.blk.cell 0
  have c1 := W.blk.cell 1
  have c2 := W.blk.cell 2
  simp only [List.getElem?_toArray, List.getElem?_cons_zero, List.getElem?_cons_succ] at c0 c1 c2
  have hpl := W.blk.lt
  have hlk : (Instr.lookup 100 (.map (some bk)) (.int .i64 h) false).run Tryz.prog w = .ok (.bool (kept h)) w := by
    rw [MapIs.lookup W.kept.2 Tryz.underlying100 Tryz.underlying3 zero_boolL false h]; simp [setMap_get]
  have HO := Lib.hid ho
  have HW := Lib.hid W
  clear W E ho
  generalize ht : offerS S.Z kept td h = td'
  have HT := Lib.hid ht
  clear ht
  cases hz : S.Z h with
  | false =>
    rw [hz] at HZ
    have HZF := Lib.hid hz
    clear hz
    go_enter Tryz.func136, Tryz.ntmps136
    go_wp2_with (go_at_call 183; refine HZ.out.mono ?_; rintro e w2 ⟨rfl, rfl⟩)
    go_end0
    exact ⟨rfl, o, Fr.refl HO.out, bk, q, vf, vt, by rw [← HT.out]; unfold offerS; rw [HZF.out, if_neg (fun e => by cases e.1)]; exact HW.out⟩
  | true =>
    rw [hz] at HZ
    have HZF := Lib.hid hz
    clear hz
    cases hk : kept h with
    | true =>
      rw [hk] at hlk
      have HKF := Lib.hid hk
      clear hk
      go_enter Tryz.func136, Tryz.ntmps136
      go_wp2_with (go_at_call 183; refine HZ.out.mono ?_; rintro e w2 ⟨rfl, rfl⟩)
      go_end0
      exact ⟨rfl, o, Fr.refl HO.out, bk, q, vf, vt, by rw [← HT.out]; unfold offerS; rw [HKF.out, if_neg (fun e => by cases e.2)]; exact HW.out⟩
    | false =>
      rw [hk] at hlk
      have HKF := Lib.hid hk
      clear hk
      go_enter Tryz.func136, Tryz.ntmps136
      go_wp2_with (go_at_call 183; refine HZ.out.mono ?_; rintro e w2 ⟨rfl, rfl⟩)
      go_at_call 116
      refine HP.out.mono ?_
      rintro e w2 ⟨rfl, o2, F2, L2⟩
      have HF2 := Lib.hid F2
      have HL2 := Lib.hid L2
      clear F2 L2
      go_wp2_with fail
      go_end0
      have X := HW.out
      exact ⟨rfl, o2, HF2.out.mono (by omega) (by omega), bk, q, vf, vt, by rw [← HT.out]; unfold offerS; rw [HZF.out, HKF.out, if_pos ⟨rfl, rfl⟩]; exact ⟨X.blk.keep HF2.out (by omega), X.kept.keep HF2.out (by omega), HL2.out, X.freed.keep HF2.out (by omega), X.told.keep HF2.out (by omega)⟩⟩
end Go.Proofs.YtlpklloagaccoaaGreat
namespace Go.Proofs.YtlpklloagaccoaaGreat
open Go.RowKit
set_option linter.unusedVariables false

/-- Behind a call on the sweep that turns the engine too. -/
def SwDo (o : Own) (w : World) (s p : Nat) (S : EngS) (kept td : Int → Bool) (freed told : List Int) (e : Ending) (w' : World) : Prop :=
  e = .returned (.tuple #[]) ∧ ∃ o', Fr 1 57 o o' w w' ∧ EngRep o' w' 1 p S ∧ Sw o' w' s p kept td freed told
set_option maxRecDepth 100000 in
set_option maxHeartbeats 1000000 in
theorem stell_any {o : Own} {s p : Nat} {S S' : EngS} {kept td : Int → Bool} {freed told : List Int} (h : Int) (w : World) (ho : Owned o w) (W : Sw o w s p kept td freed told) (h0 : 0 ≤ h) (h1 : h < KB) (hl : told.length < 1048576)
    (HT : Calls Tryz.prog 75 #[.pointer (some ⟨p, 0, none⟩), .int .i64 h] w (EngDo o w 1 p S' (.int .i64 0))) (E : EngRep o w 1 p S) :
    Calls Tryz.prog 139 #[.pointer (some ⟨s, 0, none⟩), .int .i64 h] w (SwDo o w s p S' (updS kept h true) td freed (told ++ [h])) := by
  obtain ⟨bk, q, vf, vt, W⟩ := W
  have c0 := W.blk.cell 0
  simp only [List.getElem?_toArray, List.getElem?_cons_zero] at c0
  have hpl := W.blk.lt
  have HTt := Lib.hid HT
  have HO := Lib.hid ho
  have HW := Lib.hid W
  have HL := Lib.hid hl
  clear W E ho HT hl
  go_enter Tryz.func139, Tryz.ntmps139
  go_wp2_with fail
  go_at_call 75
  refine HTt.out.mono ?_
  rintro e w2 ⟨rfl, o2, F2, E2⟩
  have HF2 := Lib.hid F2
  have HE2 := Lib.hid E2
  have HW2 := Lib.hid (HW.out.keep F2 (.inr (by omega)))
  clear F2 E2 c0 hpl
  obtain ⟨At, ct, hvt, _⟩ := HW2.out.told.rd
  subst hvt
  have c1 := HW2.out.blk.cell 1
  have c4 := HW2.out.blk.cell 4
  simp only [List.getElem?_toArray, List.getElem?_cons_zero, List.getElem?_cons_succ] at c1 c4
  have hpl := HW2.out.blk.lt
  go_wp2_with (first
    | (at_mapUpdate; refine wpList_mapUpdate_is _ rfl _ _ _ 100 rfl 3 4 Tryz.underlying100 Tryz.underlying3 bk _ (by exact HW2.out.kept.2) rfl h rfl h0 h1 _ rfl ?_; intro w3 hm3 ht3; have hsb : s ≠ bk := fun e => (by have a1 := HW2.out.blk.1; have a2 := HW2.out.kept.1; rw [e] at a1; omega); have F3 := ht3.fr (lo := 51) (hi := 52) HF2.out.fresh (by rw [HW2.out.kept.1]; omega); have c43 := (ht3.cell (a := ⟨s, 4, none⟩) hsb).trans c4; have hpl3 : s < w3.heap.size := Nat.lt_of_lt_of_le hpl F3.size; have HF3 := Lib.hid F3; have HT3 := Lib.hid (HW2.out.told.keep F3 (.inr (by omega))); have HM3 := Lib.hid (hm3.congr fun j => setMap_upd kept h j); have HB3 := Lib.hid (HW2.out.blk.keep F3 (.inl (by omega))); clear hm3 ht3 F3)
    | (at_builtin; go_loud (refine wpList_append_row _ rfl _ _ _ rfl Tryz.underlying38 (own := o2) (by exact (HF3.out.alloc _).fresh) 56 rfl (HT3.out.keep (lo := 0) (hi := 0) ((Fr.refl HF3.out.fresh).alloc _) (.inr (by omega))) rfl (RdS.one _ .i64 _ h (by simp)) (by have := HL.out; omega) ?_; intro v4 w4 o4 F4 R4; have HG4 := Lib.hid ((((Fr.refl (lo := 0) (hi := 0) HF3.out.fresh).alloc _).none 56 57).trans F4); have HB4 := Lib.hid ((HB3.out.keep (lo := 0) (hi := 0) ((Fr.refl HF3.out.fresh).alloc _) (.inr (by omega))).keep F4 (.inl (by omega))); obtain ⟨A4, ct4, hv4, _⟩ := R4.rd; subst hv4; have HR4 := Lib.hid R4; have c44 := HB4.out.cell 4; have f44 := HB4.out.free 4; have hpl4 := HB4.out.lt; clear F4 R4)))
  go_end0
  have hs4 := HB4.out.1
  have G5 : Fr 50 51 o4 o4 w4 (w4.setCell ⟨s, 4, none⟩ (.slice A4 (told.length + 1) ct4)) := (Fr.refl HG4.out.fresh).setCell _ _ (.inl ⟨by simp only [hs4]; omega, by simp only [hs4]; omega⟩)
  have B5 := HB4.out.set 4 (.slice A4 (told.length + 1) ct4)
  have hlen : (told ++ [h]).length = told.length + 1 := by simp
  have K3 : MapBlk o2 w3 51 bk (setMap (updS kept h true)) := ⟨HW2.out.kept.1, HM3.out⟩
  have FF : Fr 50 57 o2 o4 w2 (w4.setCell ⟨s, 4, none⟩ (.slice A4 (told.length + 1) ct4)) := ((HF3.out.mono (by omega) (by omega)).trans (HG4.out.mono (by omega) (by omega))).trans (G5.mono (by omega) (by omega))
  exact ⟨rfl, o4, (HF2.out.mono (by omega) (by omega)).trans (FF.mono (by omega) (by omega)), HE2.out.keep FF (.inl (by omega)), bk, q, vf, _, B5, (K3.keep HG4.out (by omega)).keep G5 (by omega), ((HW2.out.todo.keep HF3.out (by omega)).keep HG4.out (by omega)).keep G5 (by omega), ((HW2.out.freed.keep HF3.out (by omega)).keep HG4.out (by omega)).keep G5 (by omega), by have := HR4.out.keep G5 (by omega); rw [hlen] at this; exact this⟩
end Go.Proofs.YtlpklloagaccoaaGreat
namespace Go.Proofs.YtlpklloagaccoaaGreat
open Go.RowKit
set_option linter.unusedVariables false

def offersS (Z kept td : Int → Bool) (xs : List Int) : Int → Bool := xs.foldl (offerS Z kept) td
theorem offersS_step (Z kept td : Int → Bool) (xs : List Int) {i : Nat} (hi : i < xs.length) : offersS Z kept td (xs.take (i + 1)) = offerS Z kept (offersS Z kept td (xs.take i)) (xs.getD i 0) := by
  have e : xs.getD i 0 = xs[i] := by simp [List.getD, hi]
  unfold offersS
  rw [List.take_succ_eq_append_getElem hi, List.foldl_append, e]
  rfl
set_option maxRecDepth 100000 in
set_option maxHeartbeats 1000000 in
theorem each_offer {o : Own} {w0 : World} {s p : Nat} {S : EngS} {kept td : Int → Bool} {freed told : List Int} (A : Option Addr) (n cap : Nat) (xs : List Int) (w : World) (ho : Owned o w) (R : RowNew w0 o w (.slice A n cap) xs) (E : EngRep o w 1 p S) (W : Sw o w s p kept td freed told) (hn : n ≤ 1048576) (hk : ∀ k ∈ xs, 0 ≤ k ∧ k < KB) :
    Calls Tryz.prog 135 #[.slice A n cap, .func (.func 136) #[.pointer (some ⟨s, 0, none⟩)] #[]] w (SwPost o w s p kept (offersS S.Z kept td xs) freed told) := by
  have hl : xs.length = n := by
    obtain ⟨A', cap', e, _⟩ := R.row.rd
    cases e; rfl
  have hn' : (n : Int) ≤ 1048576 := by omega
  have HK := Lib.hid (fun (i : Nat) (hi : i < n) => show 0 ≤ xs.getD i 0 ∧ xs.getD i 0 < KB from by
    have e : xs.getD i 0 = xs[i]'(by omega) := by simp [List.getD, show i < xs.length by omega]
    rw [e]; exact hk _ (List.getElem_mem _))
  have HR := Lib.hid R
  have HO := Lib.hid ho
  have HE := Lib.hid E
  have HW := Lib.hid W
  have HL := Lib.hid hl
  clear R ho hk hn hl E W
  go_enter Tryz.func135, Tryz.ntmps135
  go_wp2_with fail
  go_loopw [8] (fun iv wr => ∃ (i : Nat) (o' : Own), i ≤ n ∧ iv = .int .i64 i ∧ Fr 50 57 o o' w wr ∧ Sw o' wr s p kept (offersS S.Z kept td (xs.take i)) freed told) (fun iv _ => n - (intOf iv).toNat)
  case atStart => exact ⟨0, o, by omega, rfl, Fr.refl HO.out, HW.out⟩
  case round =>
    obtain ⟨i, oi, hi, rfl, Fi, Wi⟩ := hrel
    have HFi := Lib.hid Fi
    have HWi := Lib.hid Wi
    by_cases hin : i < n
    · have hin' : (i : Int) < (n : Int) := by omega
      have HKi := Lib.hid (HK.out i hin)
      obtain ⟨A', cap', e, R'⟩ := (HR.out.keep Fi (.inl (by omega))).row.rd
      cases e
      obtain ⟨g, f, hA, hg, hc⟩ := R'.at_ (i := i) (by rw [HL.out]; exact hin)
      subst hA
      have HST := Lib.hid (offersS_step S.Z kept td xs (i := i) (by rw [HL.out]; exact hin))
      clear Fi Wi hi R'
      have HC := Lib.hid (offer_any (S := S) (xs.getD i 0) wr HFi.out.fresh (HE.out.keep HFi.out (.inl (by omega))) HWi.out HKi.out.1 HKi.out.2)
      generalize xs.getD i 0 = k at *
      go_wp2_with fail
      refine HC.out.mono ?_
      rintro e w2 ⟨rfl, o2, F2, W2⟩
      have HF2 := Lib.hid (HFi.out.trans F2)
      have HW2 := Lib.hid W2
      clear F2 W2
      go_wp2_with fail
      exact ⟨⟨i + 1, o2, by omega, by go_num, HF2.out, by rw [HST.out]; exact HW2.out⟩, by simp [intOf]; omega⟩
    · have hin' : ¬ (i : Int) < (n : Int) := by omega
      obtain rfl : i = n := by omega
      have HEq := Lib.hid (show xs.take i = xs from List.take_of_length_le (by rw [HL.out]; omega))
      clear Fi Wi hi
      go_wp2_with fail
      go_end0
      exact ⟨rfl, oi, HFi.out, by have := HWi.out; rw [HEq.out] at this; exact this⟩
end Go.Proofs.YtlpklloagaccoaaGreat
namespace Go.Proofs.YtlpklloagaccoaaGreat
open Go.RowKit
set_option linter.unusedVariables false

set_option maxRecDepth 100000 in
set_option maxHeartbeats 1000000 in
theorem sfree_any {o : Own} {s p : Nat} {S : EngS} {kept td : Int → Bool} {freed told : List Int} (h : Int) (x : Ob) (w : World) (ho : Owned o w) (E : EngRep o w 1 p S) (W : Sw o w s p kept td freed told) (hx : S.ob h = some x) (hpl : S.pend.length ≤ 1048576) (hl : freed.length < 1048576) (hk : ∀ k ∈ refsA S h, 0 ≤ k ∧ k < KB) (hrl : (refsA S h).length ≤ 1048576) :
    Calls Tryz.prog 138 #[.pointer (some ⟨s, 0, none⟩), .int .i64 h] w (SwDo o w s p (freeA S h) kept (offersS (freeA S h).Z kept td (refsA S h)) (freed ++ [h]) told) := by
  obtain ⟨bk, q, vf, vt, W⟩ := W
  have c0 := W.blk.cell 0
  simp only [List.getElem?_toArray, List.getElem?_cons_zero] at c0
  have hsl := W.blk.lt
  have HRf := Lib.hid (rrefs h w (by omega) ho E)
  have HFr := Lib.hid (fun (w2 : World) (F : Fr 0 0 o o w w2) => rfree h x w2 (by omega) F.fresh (E.keep F (.inr (Nat.zero_le _))) hx hpl)
  have HO := Lib.hid ho
  have HW := Lib.hid W
  have HL := Lib.hid (And.intro hl (And.intro hk hrl))
  clear W E ho hl hk hrl hx hpl
  generalize hS : freeA S h = S' at *
  generalize hxs : refsA S h = xs at *
  clear hS hxs
  go_enter Tryz.func138, Tryz.ntmps138
  go_wp2_with fail
  go_at_call 38
  refine HRf.out.mono ?_
  rintro e w2 ⟨v, rfl, F2, R2⟩
  obtain ⟨Ar, cr, hvr, _⟩ := R2.row.rd
  subst hvr
  have HF2 := Lib.hid F2
  have HR2 := Lib.hid R2
  have c02 := F2.cell0 c0
  have hsl2 := Nat.lt_of_lt_of_le hsl F2.size
  clear F2 R2 c0 hsl
  go_wp2_with fail
  go_at_call 81
  refine (HFr.out w2 HF2.out).mono ?_
  rintro e w3 ⟨rfl, o3, F3, E3⟩
  have HF3 := Lib.hid F3
  have HE3 := Lib.hid E3
  have HR3 := Lib.hid (HR2.out.keep F3 (.inl (by omega)))
  have HW3 := Lib.hid ((HW.out.keep HF2.out (.inr (by omega))).keep F3 (.inr (by omega)))
  clear F3 E3 c02 hsl2
  obtain ⟨Af, cf, hvf, _⟩ := HW3.out.freed.rd
  subst hvf
  have c3 := HW3.out.blk.cell 3
  simp only [List.getElem?_toArray, List.getElem?_cons_zero, List.getElem?_cons_succ] at c3
  have hsl3 := HW3.out.blk.lt
  go_wp2_with (at_builtin; go_loud (refine wpList_append_row _ rfl _ _ _ rfl Tryz.underlying38 (own := o3) (by exact (HF3.out.alloc _).fresh) 55 rfl (HW3.out.freed.keep (lo := 0) (hi := 0) ((Fr.refl HF3.out.fresh).alloc _) (.inr (by omega))) rfl (RdS.one _ .i64 _ h (by simp)) (by have := HL.out; omega) ?_; intro v4 w4 o4 F4 R4; have HG4 := Lib.hid ((((Fr.refl (lo := 0) (hi := 0) HF3.out.fresh).alloc _).none 55 56).trans F4); have HB4 := Lib.hid ((HW3.out.blk.keep (lo := 0) (hi := 0) ((Fr.refl HF3.out.fresh).alloc _) (.inr (by omega))).keep F4 (.inl (by omega))); obtain ⟨A4, ct4, hv4, _⟩ := R4.rd; subst hv4; have HR4 := Lib.hid R4; have c44 := HB4.out.cell 3; have f44 := HB4.out.free 3; have hpl4 := HB4.out.lt; clear F4 R4))
  have hs4 := HB4.out.1
  have hlen : (freed ++ [h]).length = freed.length + 1 := by simp
  have hG5 : Fr 50 51 o4 o4 w4 (w4.setCell ⟨s, 3, none⟩ (.slice A4 (freed.length + 1) ct4)) := (Fr.refl HG4.out.fresh).setCell _ _ (.inl ⟨by simp only [hs4]; omega, by simp only [hs4]; omega⟩)
  have hB5 := HB4.out.set 3 (.slice A4 (freed.length + 1) ct4)
  have hR5 := HR4.out.keep hG5 (.inr (by omega))
  rw [hlen] at hR5
  generalize w4.setCell ⟨s, 3, none⟩ (.slice A4 (freed.length + 1) ct4) = w5 at *
  have HFF := Lib.hid ((HG4.out.mono (lo' := 50) (hi' := 57) (by omega) (by omega)).trans (hG5.mono (by omega) (by omega)))
  have HSw := Lib.hid (show Sw o4 w5 s p kept td (freed ++ [h]) told from ⟨bk, q, _, vt, hB5, (HW3.out.kept.keep HG4.out (by omega)).keep hG5 (by omega), (HW3.out.todo.keep HG4.out (by omega)).keep hG5 (by omega), hR5, (HW3.out.told.keep HG4.out (by omega)).keep hG5 (by omega)⟩)
  clear hs4 hG5 hB5 hR5
  go_wp2_with fail
  go_at_call 135
  refine (each_offer (S := S') Ar xs.length cr xs w5 HFF.out.fresh (HR3.out.keep HFF.out (.inl (by omega))) (HE3.out.keep HFF.out (.inl (by omega))) HSw.out HL.out.2.2 HL.out.2.1).mono ?_
  rintro e w6 ⟨rfl, o6, F6, W6⟩
  have HF6 := Lib.hid F6
  have HW6 := Lib.hid W6
  clear F6 W6
  go_wp2_with fail
  go_end0
  exact ⟨rfl, o6, ((HF2.out.none 1 57).trans (HF3.out.mono (by omega) (by omega))).trans ((HFF.out.trans HF6.out).mono (by omega) (by omega)), HE3.out.keep (HFF.out.trans HF6.out) (.inl (by omega)), HW6.out⟩
end Go.Proofs.YtlpklloagaccoaaGreat
