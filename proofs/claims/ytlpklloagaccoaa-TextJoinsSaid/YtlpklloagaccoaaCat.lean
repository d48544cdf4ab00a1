/- slices.Concat at []byte, []int: some rows, one behind the other, in a new one (printed by wip/gen_cat.py). Conditions: at most 1048576 in all. -/
import Derived.Test.YtlpklloagaccoaaShelf3
import Derived.Test.YtlpklloagaccoaaRefs
import Derived.Test.YtlpklloagaccoaaStr
import Derived.Outline
namespace Go.Proofs.Ytlpklloagaccoaa
open Go.RowKit
set_option linter.unusedVariables false

theorem elU8 : ElT 5 .u8 1 := ⟨info_parts infoU8⟩
/-- A row of numbers of any kind that is new since a world 'w0', and nobody's. -/
structure RowN (e : TypeId) (k : IntKind) (w0 : World) (o : Own) (w : World) (v : Value) (xs : List Int) : Prop where
  row : RowK e k w v xs
  own : ∀ g, v.ownBlock = some g → o g = 0
  new : ∀ g, v.ownBlock = some g → w0.heap.size ≤ g
theorem RowN.nil (e : TypeId) (k : IntKind) (w0 : World) (o : Own) (w : World) : RowN e k w0 o w (.slice none 0 0) [] := ⟨⟨rfl, .inl ⟨rfl, rfl⟩⟩, fun g h => (by cases h), fun g h => (by cases h)⟩
theorem RowN.toNew {w0 : World} {o : Own} {w : World} {v : Value} {xs : List Int} (h : RowN 3 .i64 w0 o w v xs) : RowNew w0 o w v xs := ⟨⟨h.row, h.own⟩, h.new⟩
theorem RowN.form {e : TypeId} {k : IntKind} {w0 : World} {o : Own} {w : World} {v : Value} {xs : List Int} (h : RowN e k w0 o w v xs) :
    ∃ A cap, v = .slice A xs.length cap ∧ xs.length ≤ cap ∧ (xs.length = 0 ∨ ∃ g, A = some ⟨g, 0, none⟩ ∧ g < w.heap.size ∧ o g = 0 ∧ w0.heap.size ≤ g ∧ ∀ i, i < xs.length → w.cell? ⟨g, i, none⟩ = some (.int k (xs.getD i 0))) := by
  rcases h.row.2 with ⟨rfl, h0⟩ | ⟨g, cap, cur, rfl, _, hb, hnc, _, _, ht⟩
  · exact ⟨none, 0, by rw [h0], by omega, .inl h0⟩
  · refine ⟨_, cap, rfl, hnc, .inr ⟨g, rfl, lt_of_block hb, h.own g rfl, h.new g rfl, fun i hi => ?_⟩⟩
    have h2 : cur.toList[i]? = some (.int k (xs.getD i 0)) := by
      have := congrArg (fun l => l[i]?) ht
      simp only [List.getElem?_take, Nat.mul_one, hi, if_true, List.getElem?_map] at this
      rw [this]
      simp [List.getD, hi]
    rw [Array.getElem?_toList] at h2
    simp [World.cell?, hb, h2]
theorem run_append_N {t e : TypeId} {k : IntKind} {bytes : Nat} (w : World) (ht : Try.prog.underlying t = some (.slice e)) (I : ElT e k bytes) (hb8 : bytes ≤ 8) {w0 : World} {o0 own : Own} {lo hi : Nat} (F : Fr lo hi o0 own w0 w) {v : Value} {xs : List Int} (hown : RowN e k w0 own w v xs)
    {B : Nat} {A : Option Addr} {m : Nat} (c : Nat) {news : List Int} (hr : RdS w B k A m news) (h63 : xs.length + m ≤ 1099511627776) (ty : TypeId) :
    ∃ v' w', (Builtin.append_ #[t, t] ty #[v, .slice A m c]).run Try.prog w = .ok v' w' ∧ Fr lo hi o0 own w0 w' ∧ RowN e k w0 own w' v' (xs ++ news) := by
  obtain ⟨v', w', hrun, h2', h3, h5⟩ := run_append_raw w ht I hb8 hown.row c hr h63 ty
  have hO := F.fresh
  refine ⟨v', w', hrun, ⟨h3.os.trans F.os, h3.tape.trans F.tape, h3.output.trans F.output, Nat.le_trans F.size h3.size, fun b hb hor => ?_, F.own, fun b hb => hO b (Nat.le_trans h3.size hb)⟩, h2', fun g hg => ?_, fun g hg => ?_⟩
  · rw [h3.block b (Nat.lt_of_lt_of_le hb F.size) (fun e => by have := hown.new b e.symm; omega)]
    exact F.block b hb hor
  · rcases h5 with h5 | ⟨h5, hlt⟩
    · exact hown.own g (by rw [← h5]; exact hg)
    · rw [h5] at hg
      obtain rfl := Option.some.inj hg
      exact hO _ (Nat.le_refl _)
  · rcases h5 with h5 | ⟨h5, hlt⟩
    · exact hown.new g (by rw [← h5]; exact hg)
    · rw [h5] at hg
      obtain rfl := Option.some.inj hg
      exact F.size
/-- 'append' to a row that is new. -/
theorem wpList_append_N {ops : Array Oper} {rest : List Oper} {o : Oper} {a : Act} {Q : Exit → Act → World → Prop} (w : World) (hgd : o.guard = none) (s x : Operand) (t : TypeId) {e : TypeId} {k : IntKind} {bytes : Nat}
    (hop : o.op = .call { callee := .builtin .append, args := #[s, x], argTypes := #[t, t] }) (ht : Try.prog.underlying t = some (.slice e)) (I : ElT e k bytes) (hb8 : bytes ≤ 8) {w0 : World} {o0 own : Own} {lo hi : Nat} (F : Fr lo hi o0 own w0 w) {v : Value} {xs : List Int} (hs : a.eval s = v) (hown : RowN e k w0 own w v xs)
    {B : Nat} {A : Option Addr} {m c : Nat} {news : List Int} (hx : a.eval x = .slice A m c) (hr : RdS w B k A m news) (h63 : xs.length + m ≤ 1099511627776)
    (hK : ∀ v' w', Fr lo hi o0 own w0 w' → RowN e k w0 own w' v' (xs ++ news) → wpList Try.prog ops Q rest (a.put o.dst v') w') : wpList Try.prog ops Q (o :: rest) a w := by
  refine wpList_plain hgd fun K' hK' => ?_
  obtain ⟨v', w', hrun, h1, h2⟩ := run_append_N w ht I hb8 F hown c hr h63 o.type
  unfold Oper.wp execOp
  simp only [hop, resolve, invoke, builtin, Sem.run_bind, Sem.run_pure, Result.andThen_ok, List.map_toArray, List.map_cons, List.map_nil, hs, hx, hrun, Oper.upon_value]
  exact hK' _ _ (hK v' w' h1 h2)
/-- A row without elements that has room. -/
theorem RowN.room {e : TypeId} {k : IntKind} {o : Own} {w : World} (ho : Owned o w) (n G : Nat) (hG : n ≤ G) (hM : G ≤ maxLen) :
    RowN e k w o (w.drew.alloc (.cells ([].toArray ++ Builtin.zeroCells (Value.int k 0).cells n ++ Builtin.zeroCells (Value.int k 0).cells (G - n)) e)) (.slice (some ⟨w.heap.size, 0, none⟩) 0 G) [] := by
  refine ⟨⟨rfl, .inr ⟨w.heap.size, G, _, rfl, Nat.zero_le _, heap_alloc_new w.drew _, Nat.zero_le _, hM, ?_, rfl⟩⟩, fun g hg => ?_, fun g hg => ?_⟩
  · simp [Builtin.zeroCells, Value.cells]; omega
  · obtain rfl := Option.some.inj hg; exact ho _ (Nat.le_refl _)
  · obtain rfl := Option.some.inj hg; exact Nat.le_refl _
/-- The first i of them, one behind the other. -/
def catN (xs : Nat → List Int) : Nat → List Int
  | 0 => []
  | i + 1 => catN xs i ++ xs i
theorem catN_len (xs : Nat → List Int) (i : Nat) : (catN xs (i + 1)).length = (catN xs i).length + (xs i).length := by
  show (catN xs i ++ xs i).length = _
  rw [List.length_append]
theorem catN_mono (xs : Nat → List Int) {i m : Nat} (h : i ≤ m) : (catN xs i).length ≤ (catN xs m).length := by
  induction h with
  | refl => exact Nat.le_refl _
  | step _ ih => rw [catN_len]; omega
def CatPost (e : TypeId) (k : IntKind) (o : Own) (w : World) (l : List Int) (en : Ending) (w' : World) : Prop := ∃ v, en = .returned v ∧ Fr 0 0 o o w w' ∧ RowN e k w o w' v l
theorem grow_B {o : Own} (n : Nat) (w : World) (ho : Owned o w) (hn : n ≤ 1048576) :
    Calls Try.prog 60 #[.slice none 0 0, .int .i64 (n : Nat)] w (CatPost 5 .u8 o w []) := by
  rcases Nat.eq_zero_or_pos n with h | h
  · subst h
    exact (Any8.slices_Grow_room growB none 0 0 0 w (Nat.le_refl _) (by omega) (by omega) (by omega)).mono fun e w' hh => by
      obtain ⟨h1, rfl⟩ := hh
      exact ⟨_, h1, Fr.refl ho, RowN.nil _ _ _ _ _⟩
  · obtain ⟨i, hi, hz, hs, hb⟩ := elU8.info
    refine (Any8.slices_Grow_grow growB i (.int .u8 0) hi hz (by omega) none 0 0 n [] w (Nat.le_refl _) (by omega) (by rw [hb]; omega) (by omega) (by simp) (fun _ => rfl) (fun a h => by cases h)).mono fun e w' hh => ?_
    obtain ⟨h1, h2⟩ := hh
    rw [Nat.zero_add] at h1 h2
    refine ⟨_, h1, by rw [h2]; exact (Fr.refl ho).drew.alloc _, ?_⟩
    rw [h2]
    exact RowN.room ho n _ (grownCap_ge w _ _ _) (grownCap_le_maxLen w _ _ _ (by unfold maxLen; omega))
set_option maxRecDepth 100000 in
set_option maxHeartbeats 1000000 in
theorem concat_B {o : Own} (g m cap : Nat) (A : Nat → Option Addr) (N C : Nat → Nat) (xs : Nat → List Int) (w : World) (ho : Owned o w) (hm : m ≤ 1000) (hc : ∀ i, i < m → w.cell? ⟨g, i, none⟩ = some (.slice (A i) (N i) (C i)))
    (hr : ∀ i, i < m → RdS w w.heap.size .u8 (A i) (N i) (xs i)) (hb : (catN xs m).length ≤ 1048576) :
    Calls Try.prog 38 #[.slice (some ⟨g, 0, none⟩) m cap] w (CatPost 5 .u8 o w (catN xs m)) := by
  have HO := Lib.hid ho
  have HC := Lib.hid hc
  have HR := Lib.hid hr
  have HB := Lib.hid (fun (i : Nat) (h : i ≤ m) => show (catN xs i).length ≤ 1048576 from Nat.le_trans (catN_mono xs h) hb)
  have HG := Lib.hid (fun (w1 : World) (F : Fr 0 0 o o w w1) => grow_B (catN xs m).length w1 F.fresh hb)
  have hm0 : (m : Int) ≤ 1000 := by omega
  clear hc hr hb ho
  go_enter Try.func38, Try.ntmps38
  go_wp2_with fail
  go_loopw [3, 11] (fun nv iv wr => ∃ (i : Nat), i ≤ m ∧ iv = .int .i64 i ∧ nv = .int .i64 ((catN xs i).length : Nat) ∧ Fr 0 0 o o w wr) (fun _ iv _ => m - (intOf iv).toNat)
  case atStart => exact ⟨0, by omega, rfl, rfl, Fr.refl HO.out⟩
  case round =>
    obtain ⟨i, hi, rfl, rfl, Fi⟩ := hrel
    have HFi := Lib.hid Fi
    by_cases hin : i < m
    · have hin' : (i : Int) < (m : Int) := by omega
      have hci := Fi.cell0 (HC.out i hin)
      have hlen := (HR.out i hin).len
      have hS := catN_len xs i
      have hb1 := HB.out (i + 1) hin
      rw [hS, hlen] at hb1
      rw [hlen] at hS
      have HS := Lib.hid hS
      clear hS hlen Fi hi
      generalize N i = ni at *
      generalize C i = ci at *
      generalize A i = ai at *
      have hX : ((catN xs i).length : Int) + (ni : Int) ≤ 1048576 := by omega
      have hY : ¬ ((catN xs i).length : Int) + (ni : Int) < 0 := by omega
      have HL := Lib.hid hb1
      clear hb1
      go_wp2_with fail
      exact ⟨⟨i + 1, by omega, by go_num, by rw [HS.out]; first | rfl | go_num, HFi.out⟩, by simp [intOf]; omega⟩
    · have hin' : ¬ (i : Int) < (m : Int) := by omega
      obtain rfl : i = m := by omega
      clear hin hi Fi
      go_wp2_with fail
      go_at_call 60
      refine (HG.out _ HFi.out).mono ?_
      rintro e w1 ⟨v1, rfl, F1, R1⟩
      have HF1 := Lib.hid (HFi.out.trans F1)
      have HR1 := Lib.hid (show RowN 5 .u8 w o w1 v1 [] from ⟨R1.row, R1.own, fun g hg => Nat.le_trans HFi.out.size (R1.new g hg)⟩)
      clear F1 R1 HFi
      go_wp2_with fail
      go_loopw [6, 27] (fun vv jv wz => ∃ (j : Nat), j ≤ i ∧ jv = .int .i64 j ∧ Fr 0 0 o o w wz ∧ RowN 5 .u8 w o wz vv (catN xs j)) (fun _ jv _ => i - (intOf jv).toNat)
      case atStart => exact ⟨0, by omega, rfl, HF1.out, HR1.out⟩
      case round =>
        obtain ⟨j, hj, rfl, Fj, Rj⟩ := hrel
        have HFj := Lib.hid Fj
        have HRj := Lib.hid Rj
        by_cases hji : j < i
        · have hji' : (j : Int) < (i : Int) := by omega
          have hcj := Fj.cell0 (HC.out j hji)
          have hrj := Lib.hid ((HR.out j hji).keep (w' := wr) (fun b hb => Fj.block b hb (.inr (Nat.zero_le _))))
          have hb1 := HB.out j (by omega)
          have hb2 := HB.out (j + 1) (by omega)
          have hS := catN_len xs j
          rw [hS, (HR.out j hji).len] at hb2
          have HL := Lib.hid hb2
          clear Fj Rj hj hS hb1 hb2
          generalize N j = nj at *
          generalize C j = cj at *
          generalize A j = aj at *
          go_wp2_with (at_builtin; refine wpList_append_N _ rfl _ _ _ rfl Try.underlying36 elU8 (by omega) (w0 := w) (o0 := o) (own := o) (lo := 0) (hi := 0) HFj.out rfl HRj.out rfl hrj.out (by have := HL.out; omega) ?_; intro v3 w3 F3 R3; have HF3 := Lib.hid F3; have HR3 := Lib.hid R3; clear F3 R3)
          exact ⟨⟨j + 1, by omega, by go_num, HF3.out, HR3.out⟩, by simp [intOf]; omega⟩
        · have hji' : ¬ (j : Int) < (i : Int) := by omega
          obtain rfl : j = i := by omega
          clear hji hj Fj Rj
          go_wp2_with fail
          go_ret
          exact ⟨_, rfl, HFj.out, HRj.out⟩
end Go.Proofs.Ytlpklloagaccoaa
