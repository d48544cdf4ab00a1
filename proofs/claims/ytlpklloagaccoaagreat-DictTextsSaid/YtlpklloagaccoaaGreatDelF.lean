/- slices.IndexFunc, slices.DeleteFunc over rows of numbers, with a predicate that may turn what is not the row. Condition: the predicate's own. -/
import Derived.Test.YtlpklloagaccoaaGreatSl
import Derived.Test.YtlpklloagaccoaaGreatRun
import Derived.Deep.LoopGhost
import Derived.Outline
namespace Go.Proofs.YtlpklloagaccoaaGreat
open Go.RowKit
set_option linter.unusedVariables false

theorem LRow.at_ {o : Own} {w : World} {r n cap i : Nat} {A : Option Addr} {xs : List Int} (h : LRow o w r (.slice A n cap) xs) (hi : i < xs.length) : ∃ g, A = some ⟨g, 0, none⟩ ∧ g < w.heap.size ∧ w.cell? ⟨g, i, none⟩ = some (.int .i64 (xs.getD i 0)) ∧ w.frozen? ⟨g, i, none⟩ = false ∧ n = xs.length := by
  rcases h.1.form with ⟨h1, h2⟩ | ⟨g, cap', h1, R⟩
  · rw [h2] at hi; cases hi
  · simp only [Value.slice.injEq] at h1
    obtain ⟨rfl, h3, _⟩ := h1
    exact ⟨g, rfl, R.lt, R.cell hi, R.free i, h3⟩
theorem LRow.len {o : Own} {w : World} {r n cap : Nat} {A : Option Addr} {xs : List Int} (h : LRow o w r (.slice A n cap) xs) : n = xs.length := by
  obtain ⟨A2, c2, e, _⟩ := h.rd
  cases e; rfl
/-- A predicate that is called along a row of owner rs: what it answers; what holds behind i calls. -/
structure PredR (g : Nat) (lb : Array Value) (p : Int → Bool) (xs : List Int) (lo hi rs : Nat) (R : Nat → Own → World → Prop) : Prop where
  call : ∀ i, i < xs.length → ∀ o w, Owned o w → R i o w → Calls Tryz.prog g (#[.int .i64 (xs.getD i 0)] ++ lb) w fun e w' => e = .returned (.bool (p (xs.getD i 0))) ∧ ∃ o', Fr lo hi o o' w w' ∧ R (i + 1) o' w'
  keep : ∀ i o o' w w', R i o w → Fr rs (rs + 1) o o' w w' → R i o' w'
  drew : ∀ i o w, R i o w → R i o w.drew
  enters : ∀ args w, (callFunc g args).run Tryz.prog w = .ok (.enter g args) w
  apart : rs < lo ∨ hi ≤ rs
def IdxPost (xs : List Int) (p : Int → Bool) (lo hi rs : Nat) (R : Nat → Own → World → Prop) (v : Value) (o : Own) (w : World) (e : Ending) (w' : World) : Prop :=
  ∃ o', Fr lo hi o o' w w' ∧ LRow o' w' rs v xs ∧
    ((e = .returned (.int .i64 (-1)) ∧ (∀ j, j < xs.length → p (xs.getD j 0) = false) ∧ R xs.length o' w') ∨
     ∃ k, k < xs.length ∧ e = .returned (.int .i64 (k : Nat)) ∧ (∀ j, j < k → p (xs.getD j 0) = false) ∧ p (xs.getD k 0) = true ∧ R (k + 1) o' w')
set_option maxRecDepth 100000 in
set_option maxHeartbeats 1000000 in
theorem index_func {o : Own} {w : World} {g : Nat} {lb : Array Value} {p : Int → Bool} {xs : List Int} {lo hi rs : Nat} {R : Nat → Own → World → Prop} (P : PredR g lb p xs lo hi rs R) (A : Option Addr) (n cap : Nat) (ho : Owned o w) (L : LRow o w rs (.slice A n cap) xs) (hR : R 0 o w) (hn : n ≤ 1048576) :
    Calls Tryz.prog 181 #[.slice A n cap, .func (.func g) #[] lb] w (IdxPost xs p lo hi rs R (.slice A n cap) o w) := by
  have eg := P.enters
  have HP := Lib.hid P
  have HL := Lib.hid L
  have HR := Lib.hid hR
  have HO := Lib.hid ho
  obtain rfl := L.len
  clear L hR ho P
  go_enter Tryz.func181, Tryz.ntmps181
  go_wp2_with fail
  go_loopw [8] (fun iv wr => ∃ (i : Nat) (o' : Own), i ≤ xs.length ∧ iv = .int .i64 i ∧ Fr lo hi o o' w wr ∧ LRow o' wr rs (.slice A xs.length cap) xs ∧ R i o' wr ∧ ∀ j, j < i → p (xs.getD j 0) = false) (fun iv _ => xs.length - (intOf iv).toNat)
  case atStart => exact ⟨0, o, by omega, rfl, Fr.refl HO.out, HL.out, HR.out, fun j hj => absurd hj (Nat.not_lt_zero _)⟩
  case round =>
    obtain ⟨i, oi, hi', rfl, Fi, Li, Ri, hall⟩ := hrel
    have HF := Lib.hid Fi
    have HLi := Lib.hid Li
    have HRi := Lib.hid Ri
    have HA := Lib.hid hall
    by_cases hin : i < xs.length
    · have hin' : (i : Int) < ((xs.length : Nat) : Int) := by omega
      obtain ⟨gb, rfl, hgl, hc, _, _⟩ := Li.at_ hin
      have hcall := Lib.hid (HP.out.call i hin oi wr Fi.fresh Ri)
      clear Fi Li Ri hall
      generalize hx : xs.getD i 0 = x at *
      have HX := Lib.hid hx
      clear hx
      cases hq : p x with
      | true =>
        have HQ := Lib.hid hq
        rw [hq] at hcall
        clear hq
        go_wp2_with fail
        refine hcall.out.mono ?_
        rintro e w' ⟨rfl, o2, F2, R2⟩
        have HF2 := Lib.hid F2
        have HR2 := Lib.hid R2
        clear F2 R2
        go_wp2_with fail
        go_ret
        refine ⟨o2, HF.out.trans HF2.out, HLi.out.keep HF2.out HP.out.apart, .inr ⟨i, hin, rfl, HA.out, by rw [HX.out]; exact HQ.out, HR2.out⟩⟩
      | false =>
        have HQ := Lib.hid hq
        rw [hq] at hcall
        clear hq
        go_wp2_with fail
        refine hcall.out.mono ?_
        rintro e w' ⟨rfl, o2, F2, R2⟩
        have HF2 := Lib.hid F2
        have HR2 := Lib.hid R2
        clear F2 R2
        go_wp2_with fail
        exact ⟨⟨i + 1, o2, by omega, by go_num, HF.out.trans HF2.out, HLi.out.keep HF2.out HP.out.apart, HR2.out, fun j hj => by
          by_cases e : j = i
          · subst e; rw [HX.out]; exact HQ.out
          · exact HA.out j (by omega)⟩, by simp [intOf]; omega⟩
    · have hin' : ¬ (i : Int) < ((xs.length : Nat) : Int) := by omega
      obtain rfl : i = xs.length := by omega
      clear Fi Li Ri hall
      go_wp2_with fail
      go_ret
      exact ⟨oi, HF.out, HLi.out, .inl ⟨rfl, HA.out, HRi.out⟩⟩
/-- What stands in the row between two rounds: i of the first j elements are kept. -/
structure KeptL (xs : List Int) (p : Int → Bool) (i j : Nat) (ys : List Int) : Prop where
  len : ys.length = xs.length
  lt : i < j
  le : j ≤ xs.length
  low : ys.take i = (xs.take j).filter fun x => !p x
  high : ys.drop j = xs.drop j
theorem take_succ_getD {xs : List Int} {j : Nat} (h : j < xs.length) : xs.take (j + 1) = xs.take j ++ [xs.getD j 0] := by
  rw [List.take_succ_eq_append_getElem h]
  simp [List.getD, h]
theorem drop_getD {xs ys : List Int} {j : Nat} (h : ys.drop j = xs.drop j) (hj : j < xs.length) (hl : ys.length = xs.length) : ys.getD j 0 = xs.getD j 0 := by
  have h1 : (ys.drop j)[0]? = (xs.drop j)[0]? := by rw [h]
  rw [List.getElem?_drop, List.getElem?_drop] at h1
  simp only [List.getD_eq_getElem?_getD]
  simpa using congrArg (fun x : Option Int => x.getD 0) h1
theorem KeptL.start {xs : List Int} {p : Int → Bool} {k : Nat} (hk : k < xs.length) (hall : ∀ j, j < k → p (xs.getD j 0) = false) (ht : p (xs.getD k 0) = true) : KeptL xs p k (k + 1) xs := by
  refine ⟨rfl, Nat.lt_succ_self _, hk, ?_, rfl⟩
  rw [take_succ_getD hk, List.filter_append, List.filter_cons_of_neg (by rw [ht]; decide), List.filter_nil, List.append_nil, List.filter_eq_self.2]
  intro x hx
  obtain ⟨j, hj, rfl⟩ := List.getElem_of_mem hx
  rw [List.length_take] at hj
  have := hall j (by omega)
  rw [List.getElem_take]
  rw [show xs.getD j 0 = xs[j] from by simp [List.getD, show j < xs.length by omega]] at this
  rw [this]; rfl
theorem KeptL.keep {xs ys : List Int} {p : Int → Bool} {i j : Nat} (K : KeptL xs p i j ys) (hj : j < xs.length) (hp : p (xs.getD j 0) = false) : KeptL xs p (i + 1) (j + 1) (ys.set i (xs.getD j 0)) := by
  have hl := K.len
  have hi := K.lt
  refine ⟨by rw [List.length_set]; exact K.len, by omega, hj, ?_, ?_⟩
  · rw [take_succ_getD hj, List.filter_append, List.filter_cons_of_pos (by rw [hp]; decide), List.filter_nil, ← K.low, take_succ_getD (by rw [List.length_set]; omega)]
    have h1 : (ys.set i (xs.getD j 0)).take i = ys.take i := by rw [List.take_set_of_le (Nat.le_refl _)]
    have h2 : (ys.set i (xs.getD j 0)).getD i 0 = xs.getD j 0 := by simp [List.getD, show i < ys.length by omega]
    rw [h1, h2]
  · rw [List.drop_set_of_lt (by omega), ← List.drop_drop, ← List.drop_drop, K.high]
theorem KeptL.skip {xs ys : List Int} {p : Int → Bool} {i j : Nat} (K : KeptL xs p i j ys) (hj : j < xs.length) (hp : p (xs.getD j 0) = true) : KeptL xs p i (j + 1) ys := by
  refine ⟨K.len, by have := K.lt; omega, hj, ?_, ?_⟩
  · rw [take_succ_getD hj, List.filter_append, List.filter_cons_of_neg (by rw [hp]; decide), List.filter_nil, List.append_nil]; exact K.low
  · rw [← List.drop_drop, ← List.drop_drop, K.high]
theorem RowB.clear {g cap : Nat} : ∀ (c a : Nat) (w : World) (ys : List Int), RowB w g cap ys → a + c = ys.length → RowB (w.setCells g a (List.replicate c (.int .i64 0))) g cap (ys.take a ++ List.replicate c 0)
  | 0, a, w, ys, R, h => by
    rw [List.replicate_zero, List.replicate_zero, List.append_nil, List.take_of_length_le (by omega)]
    exact R
  | c + 1, a, w, ys, R, h => by
    have h1 := RowB.clear c (a + 1) (w.setCell ⟨g, a, none⟩ (.int .i64 0)) (ys.set a 0) (R.set (by omega) 0) (by rw [List.length_set]; omega)
    have h2 : (ys.set a 0).take (a + 1) ++ List.replicate c 0 = ys.take a ++ List.replicate (c + 1) 0 := by
      rw [take_succ_getD (by rw [List.length_set]; omega), List.take_set_of_le (Nat.le_refl _), List.append_assoc]
      congr 1
      rw [show (ys.set a 0).getD a 0 = 0 from by simp [List.getD, show a < ys.length by omega]]
      rfl
    rw [h2] at h1
    exact h1
theorem LRow.clear {o : Own} {w : World} {r g n cap : Nat} {ys : List Int} (h : LRow o w r (.slice (some ⟨g, 0, none⟩) n cap) ys) (ho : Owned o w) {a c : Nat} (e : a + c = ys.length) :
    Fr r (r + 1) o o w (w.setCells g a (List.replicate c (.int .i64 0))) ∧ LRow o (w.setCells g a (List.replicate c (.int .i64 0))) r (.slice (some ⟨g, 0, none⟩) a cap) (ys.take a) := by
  have hg := h.2 g rfl
  have hs := setCells_block g (List.replicate c (Value.int .i64 0)) a w
  refine ⟨⟨hs.2.2.1, hs.2.2.2.1, hs.2.2.2.2, Nat.le_of_eq hs.2.1.symm, fun b hb hor => hs.1 b (fun e => by subst e; omega), fun _ _ => rfl, fun b hb => ho b (by rw [← hs.2.1]; exact hb)⟩, ?_, fun g' hg' => by cases hg'; exact hg⟩
  obtain ⟨R, _⟩ := Row.rowB h.1
  have R2 := (RowB.clear c a w ys R e).take (n := a) (by simp; omega)
  rw [List.take_left' (by simp; omega)] at R2
  have R3 := R2.row
  rw [List.length_take, Nat.min_eq_left (by omega)] at R3
  exact R3
def DelPost (xs : List Int) (p : Int → Bool) (lo hi rs : Nat) (R : Nat → Own → World → Prop) (o : Own) (w : World) (e : Ending) (w' : World) : Prop :=
  ∃ o' v, e = .returned v ∧ Fr lo hi o o' w w' ∧ LRow o' w' rs v (xs.filter fun x => !p x) ∧ R xs.length o' w'
set_option maxRecDepth 100000 in
set_option maxHeartbeats 1000000 in
theorem delete_func {o : Own} {w : World} {g : Nat} {lb : Array Value} {p : Int → Bool} {xs : List Int} {lo hi rs : Nat} {R : Nat → Own → World → Prop} (P : PredR g lb p xs lo hi rs R) (v : Value) (lo2 hi2 : Nat) (h1 : ∀ (o o' : Own) (w w' : World), Fr lo hi o o' w w' → Fr lo2 hi2 o o' w w') (h2 : lo2 ≤ rs ∧ rs < hi2) (ho : Owned o w) (L : LRow o w rs v xs) (hR : R 0 o w) (hn : xs.length ≤ 1048576) :
    Calls Tryz.prog 131 #[v, .func (.func g) #[] lb] w (DelPost xs p lo2 hi2 rs R o w) := by
  obtain ⟨A, cap, rfl, _⟩ := L.rd
  have eg := P.enters
  have HI := Lib.hid (index_func P A xs.length cap ho L hR (by omega))
  have HP := Lib.hid P
  have HO := Lib.hid ho
  have HM := Lib.hid h1
  have H12 := Lib.hid h2
  clear L hR ho P h1 h2
  go_enter Tryz.func131, Tryz.ntmps131
  go_wp2_with fail
  go_at_call 181
  refine HI.out.mono ?_
  rintro e w1 ⟨o1, F1, L1, hh⟩
  rcases hh with ⟨rfl, hall, R1⟩ | ⟨k, hk, rfl, hall, ht, R1⟩
  · have HF1 := Lib.hid F1
    have HL1 := Lib.hid L1
    have HA := Lib.hid hall
    have HR1 := Lib.hid R1
    clear F1 L1 hall R1
    go_wp2_with fail
    go_ret
    refine ⟨o1, _, rfl, HM.out _ _ _ _ HF1.out, ?_, HR1.out⟩
    rw [List.filter_eq_self.2]
    · exact HL1.out
    · intro x hx
      obtain ⟨j, hj, rfl⟩ := List.getElem_of_mem hx
      have := HA.out j hj
      rw [show xs.getD j 0 = xs[j] from by simp [List.getD, hj]] at this
      rw [this]; rfl
  · obtain ⟨gb, rfl, _, _, _, _⟩ := L1.at_ hk
    have HF1 := Lib.hid (show Fr lo2 hi2 o o1 w w1 from HM.out _ _ _ _ F1)
    have HL1 := Lib.hid L1
    have HR1 := Lib.hid R1
    have HK := Lib.hid (KeptL.start hk hall ht)
    have hk0 : (k : Int) ≤ 1048576 := by omega
    have hk1 : ((k : Int) == -1) = false := beq_eq_false_iff_ne.2 (by omega)
    have HKl := Lib.hid hk
    clear F1 L1 hall ht R1 hk
    go_wp2_with fail
    go_loopw [5, 6] (fun iv jv wr => ∃ (i j : Nat) (o' : Own) (ys : List Int), iv = .int .i64 i ∧ jv = .int .i64 j ∧ KeptL xs p i j ys ∧ Fr lo2 hi2 o o' w wr ∧ LRow o' wr rs (.slice (some ⟨gb, 0, none⟩) xs.length cap) ys ∧ R j o' wr) (fun _ jv _ => xs.length - (intOf jv).toNat)
    case atStart => exact ⟨k, k + 1, o1, xs, rfl, by go_num, HK.out, HF1.out, HL1.out, HR1.out⟩
    case round =>
      obtain ⟨i, j, oj, ys, rfl, rfl, Kj, Fj, Lj, Rj⟩ := hrel
      have HKj := Lib.hid Kj
      have HFj := Lib.hid Fj
      have HLj := Lib.hid Lj
      have HRj := Lib.hid Rj
      have hij := Kj.lt
      have hjl := Kj.le
      have hyl := Kj.len
      by_cases hjx : j < xs.length
      · have hjx' : (j : Int) < ((xs.length : Nat) : Int) := by omega
        obtain ⟨g2, e2, hgl, hc, hfz, hle⟩ := Lj.at_ (i := j) (by omega)
        cases e2
        clear hfz hle
        rw [drop_getD Kj.high hjx hyl] at hc
        have hcall := Lib.hid (HP.out.call j hjx oj wr Fj.fresh Rj)
        clear Kj Fj Lj Rj
        generalize hx : xs.getD j 0 = x at *
        have HX := Lib.hid hx
        have HY := Lib.hid (And.intro hij (And.intro hjl hyl))
        clear hx hjl hyl
        cases hq : p x with
        | true =>
          have HQ := Lib.hid hq
          rw [hq] at hcall
          clear hq
          go_wp2_with fail
          refine hcall.out.mono ?_
          rintro e w' ⟨rfl, o2, F2, R2⟩
          have HF2 := Lib.hid F2
          have HR2 := Lib.hid R2
          clear F2 R2
          go_wp2_with fail
          exact ⟨⟨i, j + 1, o2, ys, rfl, by go_num, HKj.out.skip hjx (by rw [HX.out]; exact HQ.out), HFj.out.trans (HM.out _ _ _ _ HF2.out), HLj.out.keep HF2.out HP.out.apart, HR2.out⟩, by simp [intOf]; omega⟩
        | false =>
          have HQ := Lib.hid hq
          rw [hq] at hcall
          clear hq
          go_wp2_with fail
          refine hcall.out.mono ?_
          rintro e w' ⟨rfl, o2, F2, R2⟩
          have L2 := HLj.out.keep F2 HP.out.apart
          obtain ⟨g3, e3, hgl3, hc3, hf3, hle⟩ := L2.at_ (i := i) (by have := HY.out; omega)
          cases e3
          clear hle
          have hij' : (i : Int) < ((xs.length : Nat) : Int) := by have := HY.out; omega
          obtain ⟨g4, cap4, hv4, hcc, hff, hset⟩ := L2.set F2.fresh (i := i) (by have := HY.out; omega)
          simp only [Value.slice.injEq, Option.some.injEq, Addr.mk.injEq] at hv4
          obtain ⟨⟨rfl, _⟩, hle2, rfl⟩ := hv4
          clear hle2 hcc hff
          have HS := Lib.hid (hset x)
          have HF2 := Lib.hid F2
          have HR2 := Lib.hid R2
          clear F2 R2 L2 hset
          go_wp2_with fail
          refine ⟨⟨i + 1, j + 1, o2, ys.set i x, by go_num, by go_num, by rw [← HX.out]; exact HKj.out.keep hjx (by rw [HX.out]; exact HQ.out), (HFj.out.trans (HM.out _ _ _ _ HF2.out)).trans (HS.out.1.mono (by have := H12.out; omega) (by have := H12.out; omega)), ?_, HP.out.keep _ _ _ _ _ HR2.out HS.out.1⟩, by simp [intOf]; omega⟩
          exact HS.out.2
      · have hjx' : ¬ (j : Int) < ((xs.length : Nat) : Int) := by omega
        obtain rfl : j = xs.length := by omega
        have hcl : ∀ ty, (Builtin.clear_ #[38] ty #[.slice (some ⟨gb, i, none⟩) (xs.length - i) (cap - i)]).run Tryz.prog wr = .ok (.tuple #[]) (wr.setCells gb i (List.replicate (xs.length - i) (.int .i64 0))) :=
          fun ty => Lib.run_clear_slice wr 38 3 ty (.int .i64 0) Tryz.underlying38 (fun w => by kernel_rfl) rfl rfl gb i (xs.length - i) (cap - i) (by omega) (fun t ht => by
            obtain ⟨g2, e2, _, hc, _, _⟩ := Lj.at_ (i := i + t) (by omega)
            cases e2; rw [hc]; rfl) (fun t ht => by
            obtain ⟨g2, e2, _, _, hf, _⟩ := Lj.at_ (i := i + t) (by omega)
            cases e2; exact hf)
        obtain ⟨RB, hnn⟩ := Row.rowB Lj.1
        have hcap : ys.length ≤ cap := by obtain ⟨cur, _, _, h1, _, _⟩ := RB; exact h1
        have hci : ¬ cap = i := by omega
        have hci2 : (i : Int) ≤ (cap : Int) := by omega
        have hci3 : (i : Int) ≤ (xs.length : Int) := by omega
        have hC := Lib.hid (Lj.clear Fj.fresh (a := i) (c := xs.length - i) (by omega))
        clear Kj Fj Lj Rj RB hcap hyl hjl hij hnn
        go_wp2_with (simp only [hcl])
        all_goals
          go_ret
          refine ⟨oj, _, rfl, HFj.out.trans (hC.out.1.mono (by have := H12.out; omega) (by have := H12.out; omega)), ?_, HP.out.keep _ _ _ _ _ HRj.out hC.out.1⟩
          have h3 := hC.out.2
          have h4 := HKj.out.low
          rw [List.take_length] at h4
          rw [h4] at h3
          have h5 := h3.len
          first
          | exact h3
          | (rw [← h5]; exact h3)
end Go.Proofs.YtlpklloagaccoaaGreat
