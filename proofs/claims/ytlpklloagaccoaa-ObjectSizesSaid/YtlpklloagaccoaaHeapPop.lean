/- container/heap over the rows of least: Pop: what it hands back, and leaves. Conditions: the row is not empty, and not of more than 2^40 numbers. -/
import Derived.Test.YtlpklloagaccoaaHeapDown
namespace Go.Proofs.Ytlpklloagaccoaa
open Go.RowKit
set_option linter.unusedVariables false

/-- Behind a row's own Pop. -/
def RowPopPost (w : World) (p off : Nat) (cs : Array Value) (T : TypeId) (g cap : Nat) (xs : List Int) (e : Ending) (w' : World) : Prop :=
  e = .returned (.iface 3 (.int .i64 (xs.getD (xs.length - 1) 0))) ∧ w'.heap[p]? = some (.cells (cs.setIfInBounds off (.slice (some ⟨g, 0, none⟩) (xs.length - 1) cap)) T (0, 0)) ∧ OnlyBlk w w' p

set_option maxHeartbeats 1000000 in
theorem row_pop {p off g cap : Nat} {cs : Array Value} {T : TypeId} {xs : List Int} (w : World) (hp : w.heap[p]? = some (.cells cs T (0, 0))) (hc : cs[off]? = some (.slice (some ⟨g, 0, none⟩) xs.length cap)) (R : RowB w g cap xs) (hl : 0 < xs.length) (hl2 : xs.length < 1099511627776) :
    Calls Try.prog 119 #[.pointer (some ⟨p, off, none⟩)] w (RowPopPost w p off cs T g cap xs) := by
  have c0 : w.cell? ⟨p, off, none⟩ = some (.slice (some ⟨g, 0, none⟩) xs.length cap) := by simp [World.cell?, hp, hc]
  have f0 : w.frozen? ⟨p, off, none⟩ = false := by simp [World.frozen?, hp]
  have c1 := R.cell (i := xs.length - 1) (by omega)
  have hcap : xs.length ≤ cap := R.choose_spec.2.2.1
  have HP := Lib.hid hp
  have hl' : (0 : Int) < (xs.length : Int) := by omega
  have hn : ((xs.length : Int) - 1).toNat = xs.length - 1 := by omega
  clear hp hc R
  go_enter Try.func119, Try.ntmps119
  go_wp2
  go_ret
  exact ⟨by simp, by simpa [hn] using heap_set HP.out off _, OnlyBlk.set _ _ _ _⟩

theorem set_same (xs : List Int) (i : Nat) (hi : i < xs.length) : xs.set i (xs.getD i 0) = xs := by
  apply List.ext_getElem?
  intro j
  rw [List.getElem?_set]
  split
  · rename_i h; subst h; simp [hi]
  · rfl
set_option maxHeartbeats 400000 in
theorem row_swap_same {g cap : Nat} {xs : List Int} (w : World) (R : RowB w g cap xs) (hl : 0 < xs.length) :
    Calls Try.prog 117 #[.slice (some ⟨g, 0, none⟩) xs.length cap, .int .i64 0, .int .i64 0] w fun e w' => e = .returned (.tuple #[]) ∧ RowB w' g cap xs ∧ OnlyBlk w w' g := by
  have hx := R.cell (i := 0) hl
  have fi := R.free 0
  have HF : Hid (RowB ((w.setCell ⟨g, 0, none⟩ (.int .i64 (xs.getD 0 0))).setCell ⟨g, 0, none⟩ (.int .i64 (xs.getD 0 0))) g cap xs) := by
    have h1 := R.set hl (xs.getD 0 0)
    rw [set_same _ _ hl] at h1
    have h2 := h1.set hl (xs.getD 0 0)
    rw [set_same _ _ hl] at h2
    exact h2
  have hl' : (0 : Int) < (xs.length : Int) := by omega
  clear R
  generalize xs.getD 0 0 = x at *
  have hx2 : (w.setCell ⟨g, 0, none⟩ (.int .i64 x)).cell? ⟨g, 0, none⟩ = some (.int .i64 x) := World.cell?_setCell_same _ _ _ hx
  go_enter Try.func117, Try.ntmps117
  go_wp2
  go_region
  all_goals
    go_end0
    exact ⟨rfl, HF.out.of_eq rfl, ⟨rfl, rfl, rfl, by simp, fun b hb => (Below.heap_setCell _ _ _ _ hb).trans (Below.heap_setCell _ _ _ _ hb)⟩⟩
theorem swapL_getD_other (xs : List Int) {i j m : Nat} (h1 : m ≠ i) (h2 : m ≠ j) : (swapL xs i j).getD m 0 = xs.getD m 0 := by
  simp [swapL, List.getD, List.getElem?_set_ne (Ne.symm h1), List.getElem?_set_ne (Ne.symm h2)]
theorem downL_getD : ∀ (f : Nat) (xs : List Int) (i n m : Nat), n ≤ m → (downL f xs i n).getD m 0 = xs.getD m 0
  | 0, _, _, _, _, _ => rfl
  | f + 1, xs, i, n, m, h => by
    rw [downL_succ]
    split
    · rfl
    · rename_i h1
      have hp : pickJ xs i n < n := by unfold pickJ; split <;> omega
      split
      · rw [downL_getD f _ _ n m h, swapL_getD_other _ (by omega) (by omega)]
      · rfl
theorem RowB.take {w : World} {g cap : Nat} {xs : List Int} (h : RowB w g cap xs) {n : Nat} (hn : n ≤ xs.length) : RowB w g cap (xs.take n) := by
  obtain ⟨cur, hb, hs, hl, hm, ht⟩ := h
  refine ⟨cur, hb, hs, by simp; omega, hm, ?_⟩
  have : (xs.take n).length = n := by simp [hn]
  rw [this, List.map_take, ← ht, List.take_take, Nat.min_eq_left hn]
/-- What is left behind heap.Pop. -/
def popL (xs : List Int) : List Int := (downL (xs.length - 1) (swapL xs 0 (xs.length - 1)) 0 (xs.length - 1)).take (xs.length - 1)
theorem popL_length (xs : List Int) : (popL xs).length = xs.length - 1 := by
  unfold popL; rw [List.length_take, downL_length, swapL_length]; omega
/-- Behind heap.Pop. -/
def HeapPopPost (w : World) (p off : Nat) (cs : Array Value) (T : TypeId) (g cap : Nat) (xs : List Int) (e : Ending) (w' : World) : Prop :=
  e = .returned (.iface 3 (.int .i64 (xs.getD 0 0))) ∧ w'.heap[p]? = some (.cells (cs.setIfInBounds off (.slice (some ⟨g, 0, none⟩) (xs.length - 1) cap)) T (0, 0)) ∧ RowB w' g cap (popL xs) ∧ RowFr w w' p (some g)

set_option maxRecDepth 100000 in
set_option maxHeartbeats 1000000 in
theorem heap_pop {p off g cap : Nat} {cs : Array Value} {T : TypeId} {xs : List Int} (w : World) (hp : w.heap[p]? = some (.cells cs T (0, 0))) (hc : cs[off]? = some (.slice (some ⟨g, 0, none⟩) xs.length cap)) (hpg : ¬ p = g) (R : RowB w g cap xs) (hl : 0 < xs.length) (hl2 : xs.length < 1099511627776) :
    Calls Try.prog 76 #[.iface 133 (.pointer (some ⟨p, off, none⟩))] w (HeapPopPost w p off cs T g cap xs) := by
  have c0 : w.cell? ⟨p, off, none⟩ = some (.slice (some ⟨g, 0, none⟩) xs.length cap) := by simp [World.cell?, hp, hc]
  have hlen0 := call_len c0
  have hswap0 := call_swap c0
  have hpop := fun w => call_pop ⟨p, off, none⟩ w
  have HP := Lib.hid hp
  have HC := Lib.hid hc
  clear hp hc
  obtain ⟨n, hn⟩ : ∃ n, xs.length = n + 1 := ⟨xs.length - 1, by omega⟩
  have HN := Lib.hid hn
  have hswap : ∃ ys, ys = swapL xs 0 n ∧ Calls Try.prog 117 #[.slice (some ⟨g, 0, none⟩) xs.length cap, .int .i64 0, .int .i64 ((xs.length : Int) - 1)] w fun e w' => e = .returned (.tuple #[]) ∧ RowB w' g cap ys ∧ OnlyBlk w w' g := by
    refine ⟨_, rfl, ?_⟩
    by_cases h0 : n = 0
    · subst h0
      have e1 : ((xs.length : Int) - 1) = 0 := by omega
      have e2 : swapL xs 0 0 = xs := by unfold swapL; rw [set_same _ _ (by omega), set_same _ _ (by omega)]
      rw [e1, e2]
      exact row_swap_same w R hl
    · exact row_swap_n _ _ 0 n w R rfl (by omega) (by omega) (by omega) (by omega)
  obtain ⟨ys, hys, hcs⟩ := hswap
  have hylen : ys.length = xs.length := by rw [hys, swapL_length]
  have HY := Lib.hid hys
  have HYL := Lib.hid hylen
  have HCS := Lib.hid hcs
  clear hys hylen hcs hn
  have hln : (0 : Int) ≤ (xs.length : Int) - 1 := by omega
  go_enter Try.func76, Try.ntmps76
  go_wp2_with (first
    | (go_at_call 111; refine (row_len .nilIface _ _ _ _).mono ?_; rintro e w2 ⟨rfl, rfl⟩)
    | (go_at_call 117; refine HCS.out.mono ?_; rintro e w1 ⟨rfl, R1, ho1⟩))
  have e1 : ((xs.length : Int) - 1) = (n : Int) := by have := HN.out; omega
  rw [e1]
  have c1 : w1.cell? ⟨p, off, none⟩ = some (.slice (some ⟨g, 0, none⟩) ys.length cap) := by rw [ho1.cell hpg, HYL.out]; exact c0
  refine (heap_down n w1 c1 hpg R1 (by rw [HYL.out, HN.out]; omega) (by rw [HYL.out]; exact hl2)).mono ?_
  rintro e w2 ⟨⟨b, rfl⟩, ho2, R2⟩
  have hp2 : w2.heap[p]? = some (.cells cs T (0, 0)) := (ho2.block p hpg).trans ((ho1.block p hpg).trans HP.out)
  have hzl : (downL n ys 0 n).length = xs.length := (downL_length _ _ _ _).trans HYL.out
  have H3 := Lib.hid (row_pop (off := off) w2 hp2 (by rw [hzl]; exact HC.out) R2 (by rw [hzl]; exact hl) (by rw [hzl]; exact hl2))
  clear hp2 hzl e1
  go_wp2_with (go_at_call 119; refine H3.out.mono ?_; rintro e w3 ⟨rfl, hp3, ho3⟩)
  go_ret
  have hn := HN.out
  have hzl : (downL n ys 0 n).length = xs.length := (downL_length _ _ _ _).trans HYL.out
  have hgp : g ≠ p := fun e => hpg e.symm
  refine ⟨?_, by rw [hzl] at hp3; exact hp3, ?_, ⟨ho3.os.trans (ho2.os.trans ho1.os), ho3.tape.trans (ho2.tape.trans ho1.tape), ho3.output.trans (ho2.output.trans ho1.output), by rw [ho3.size, ho2.size, ho1.size]; exact Nat.le_refl _, fun b hb h1 h2 => ?_⟩⟩
  · have e2 : (downL n ys 0 n).getD ((downL n ys 0 n).length - 1) 0 = xs.getD 0 0 := by
      rw [hzl, hn, Nat.add_sub_cancel, downL_getD _ _ _ _ _ (Nat.le_refl _), HY.out]
      unfold swapL
      rw [List.getD, List.getElem?_set_self (by simp; omega)]
      rfl
    simpa using congrArg (fun x => Ending.returned (Value.iface 3 (.int .i64 x))) e2
  · have e3 : popL xs = (downL n ys 0 n).take n := by unfold popL; rw [HY.out, hn, Nat.add_sub_cancel]
    rw [e3]
    exact (R2.of_eq (ho3.block g hgp)).take (by rw [hzl]; omega)
  · have hbg : b ≠ g := fun e => h2 (by rw [e])
    exact (ho3.block b h1).trans ((ho2.block b hbg).trans (ho1.block b hbg))
end Go.Proofs.Ytlpklloagaccoaa
