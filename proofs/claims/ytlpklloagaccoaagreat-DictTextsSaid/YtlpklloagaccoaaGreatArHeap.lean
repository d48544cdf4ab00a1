/- container/heap over the rows of arena: Push, Pop. Conditions: as over the rows of least. -/
import Derived.Test.YtlpklloagaccoaaGreatHeapPop
namespace Go.Proofs.YtlpklloagaccoaaGreat.Ar
open Go.RowKit
set_option linter.unusedVariables false

theorem call_push (a : Addr) (w : World) : (method 355 218 (.pointer (some a)) "Push").run Tryz.prog w = .ok (264, .pointer (some a)) w := by kernel_rfl

theorem call_pop (a : Addr) (w : World) : (method 355 218 (.pointer (some a)) "Pop").run Tryz.prog w = .ok (263, .pointer (some a)) w := by kernel_rfl

theorem call_len0 (a : Addr) (w : World) : (method 355 218 (.pointer (some a)) "Len").run Tryz.prog w = (load a .plain >>= fun v => pure (210, v)).run Tryz.prog w := by kernel_rfl

theorem call_less0 (a : Addr) (w : World) : (method 355 218 (.pointer (some a)) "Less").run Tryz.prog w = (load a .plain >>= fun v => pure (256, v)).run Tryz.prog w := by kernel_rfl

theorem call_swap0 (a : Addr) (w : World) : (method 355 218 (.pointer (some a)) "Swap").run Tryz.prog w = (load a .plain >>= fun v => pure (257, v)).run Tryz.prog w := by kernel_rfl

theorem call_len {a : Addr} {v : Value} {w : World} (h : w.cell? a = some v) : (method 355 218 (.pointer (some a)) "Len").run Tryz.prog w = .ok (210, v) w := by
  rw [call_len0]; simp [h]

theorem call_less {a : Addr} {v : Value} {w : World} (h : w.cell? a = some v) : (method 355 218 (.pointer (some a)) "Less").run Tryz.prog w = .ok (256, v) w := by
  rw [call_less0]; simp [h]

theorem call_swap {a : Addr} {v : Value} {w : World} (h : w.cell? a = some v) : (method 355 218 (.pointer (some a)) "Swap").run Tryz.prog w = .ok (257, v) w := by
  rw [call_swap0]; simp [h]

theorem row_len (v : Value) (a : Option Addr) (n cap : Nat) (w : World) : Calls Tryz.prog 210 #[.slice a n cap] w fun e w' => e = .returned (.int .i64 n) ∧ w = w' := by
  go_enter Tryz.func210, Tryz.ntmps210
  go_wp2
  go_ret
  exact ⟨rfl, rfl⟩

set_option maxHeartbeats 400000 in
theorem row_less {g cap : Nat} {xs : List Int} (i j : Int) (w : World) (R : RowB w g cap xs) (hi0 : 0 ≤ i) (hi : i < (xs.length : Int)) (hj0 : 0 ≤ j) (hj : j < (xs.length : Int)) :
    Calls Tryz.prog 256 #[.slice (some ⟨g, 0, none⟩) xs.length cap, .int .i64 i, .int .i64 j] w fun e w' => e = .returned (.bool (decide (xs.getD i.toNat 0 < xs.getD j.toNat 0))) ∧ ∃ m, w' = w.drewN m := by
  have hx := R.cell (i := i.toNat) (by omega)
  have hy := R.cell (i := j.toNat) (by omega)
  clear R
  generalize xs.getD i.toNat 0 = x at *
  generalize xs.getD j.toNat 0 = y at *
  go_enter Tryz.func256, Tryz.ntmps256
  go_wp2
  go_quiet (fail)
  go_wp2
  go_ret
  exact ⟨rfl, nq, rfl⟩

set_option maxHeartbeats 400000 in
theorem row_swap {g cap : Nat} {xs : List Int} (i j : Int) (w : World) (R : RowB w g cap xs) (hi0 : 0 ≤ i) (hi : i < (xs.length : Int)) (hj0 : 0 ≤ j) (hj : j < (xs.length : Int)) (hne : ¬ i = j) :
    Calls Tryz.prog 257 #[.slice (some ⟨g, 0, none⟩) xs.length cap, .int .i64 i, .int .i64 j] w fun e w' => e = .returned (.tuple #[]) ∧ RowB w' g cap (swapL xs i.toNat j.toNat) ∧ OnlyBlk w w' g := by
  have hx := R.cell (i := i.toNat) (by omega)
  have hy := R.cell (i := j.toNat) (by omega)
  have fi := R.free i.toNat
  have fj := R.free j.toNat
  have hne' : ¬ i.toNat = j.toNat := by omega
  have HF : Hid (RowB ((w.setCell ⟨g, i.toNat, none⟩ (.int .i64 (xs.getD j.toNat 0))).setCell ⟨g, j.toNat, none⟩ (.int .i64 (xs.getD i.toNat 0))) g cap (swapL xs i.toNat j.toNat)) :=
    (R.set (by omega) _).set (by simp; omega) _
  clear R
  unfold swapL at HF ⊢
  generalize xs.getD i.toNat 0 = x at *
  generalize xs.getD j.toNat 0 = y at *
  go_enter Tryz.func257, Tryz.ntmps257
  go_wp2
  go_region
  all_goals
    go_end0
    exact ⟨rfl, HF.out.of_eq rfl, ⟨rfl, rfl, rfl, by simp, fun b hb => (Below.heap_setCell _ _ _ _ hb).trans (Below.heap_setCell _ _ _ _ hb)⟩⟩

set_option maxHeartbeats 1000000 in
theorem row_push {p off : Nat} {cs : Array Value} {T : TypeId} {v : Value} {xs : List Int} (x : Int) (w : World) (hp : w.heap[p]? = some (.cells cs T (0, 0))) (hc : cs[off]? = some v) (R : Row w v xs) (hne : v.ownBlock ≠ some p) (hl : xs.length < 1099511627776) :
    Calls Tryz.prog 264 #[.pointer (some ⟨p, off, none⟩), .iface 3 (.int .i64 x)] w (PushPost w p off cs T v (xs ++ [x])) := by
  have hplt := lt_of_block hp
  have c0 : w.cell? ⟨p, off, none⟩ = some v := by simp [World.cell?, hp, hc]
  have f0 : w.frozen? ⟨p, off, none⟩ = false := by simp [World.frozen?, hp]
  obtain ⟨i0, hi, hz0, hz1, hz2⟩ := info_parts infoInt
  have hown : ∀ o, (w.alloc o).drew.ownsRow 0 3 1 v xs.length (xs.map (Value.int .i64)) := fun o => R.alloc o
  have hta : ∀ w : World, (Instr.typeAssert (.iface 3 (.int .i64 x)) 20 3 false).run Tryz.prog w = .ok (.int .i64 x) w := fun _ => by kernel_rfl
  go_enter Tryz.func264, Tryz.ntmps264
  go_wp2
  have hb1 : ((w.alloc (.cells #[.int .i64 x] 3)).drew).heap[w.heap.size]? = some (.cells #[.int .i64 x] 3 (0, 0)) := heap_alloc_new w _
  have hn1 : ∀ (j : Nat) (u : Value), [Value.int .i64 x][j]? = some u → ((w.alloc (.cells #[.int .i64 x] 3)).drew).cell? ((⟨w.heap.size, 0, none⟩ : Addr).add j) = some u := World.news_of_block hb1
  have h11 : ∀ u ∈ [Value.int .i64 x], u.oneCell' = true := by simp [Value.oneCell']
  have hm63 : xs.length + 1 ≤ maxLen := by unfold maxLen; omega
  have hby : (xs.length + 1) * 8 ≤ 140737488355328 := by omega
  have HN := Lib.hid hn1
  clear hn1 hb1
  go_region_law ((refine step_append_lies _ rfl _ _ 118 rfl 0 3 i0 (.int .i64 0) 1 8 Tryz.underlying118 hi hz0 hz1 hz2 rfl (by decide) v xs.length _ rfl (hown _) ⟨w.heap.size, 0, none⟩ 1 1 [.int .i64 x] rfl rfl HN.out h11 (by decide) hm63 hby (Nat.zero_le _) (w.heap.size + 1) (by simp) ?_; intro g cap w1 hown1 hgrow hat hlt; (have c1 : w1.cell? ⟨p, off, none⟩ = some v := ((hgrow.cell_far ⟨p, off, none⟩ (by simp; omega) (fun e => hne e.symm)).trans (by simp [World.cell?_alloc_past, hplt, c0]))); (have f1 : w1.frozen? ⟨p, off, none⟩ = false := ((hgrow.frozen_far ⟨p, off, none⟩ (by simp; omega) (fun e => hne e.symm)).trans (by simp [World.frozen?_alloc_past, hplt, f0])))))
  all_goals
    go_end0
    exact ⟨rfl, push_close hp hne hown1 hgrow hat⟩

set_option maxRecDepth 100000 in
set_option maxHeartbeats 1000000 in
theorem heap_up {p off g cap : Nat} {xs : List Int} (j : Nat) (w : World) (hc : w.cell? ⟨p, off, none⟩ = some (.slice (some ⟨g, 0, none⟩) xs.length cap)) (hpg : ¬ p = g) (R : RowB w g cap xs) (hj : j < xs.length) (hl : xs.length < 1099511627776) :
    Calls Tryz.prog 201 #[.iface 218 (.pointer (some ⟨p, off, none⟩)), .int .i64 j] w (UpPost w g cap xs j) := by
  go_enter Tryz.func201, Tryz.ntmps201
  go_wp2
  go_loopw [1] (fun jv wr => ∃ (k : Nat) (ys : List Int), jv = .int .i64 k ∧ k < xs.length ∧ ys.Perm xs ∧ RowB wr g cap ys ∧ OnlyBlk w wr g ∧ (NoUp xs j → k = j ∧ ys = xs)) (fun jv _ => (intOf jv).toNat)
  case atStart => exact ⟨j, xs, rfl, hj, List.Perm.refl _, R, OnlyBlk.refl _ _, fun _ => ⟨rfl, rfl⟩⟩
  case round =>
    obtain ⟨k, ys, rfl, hk, hyp, Ry, ho, hno⟩ := hrel
    have HYP := Lib.hid hyp
    have hys := hyp.length_eq
    clear hyp
    have hcr : wr.cell? ⟨p, off, none⟩ = some (.slice (some ⟨g, 0, none⟩) ys.length cap) := by
      rw [ho.cell hpg, hys]; exact hc
    have hlen : k < ys.length := by omega
    have HY := Lib.hid hys
    clear hc hys
    have hless : ∀ m, (method 355 218 (.pointer (some ⟨p, off, none⟩)) "Less").run Tryz.prog (wr.drewN m) = .ok (256, .slice (some ⟨g, 0, none⟩) ys.length cap) (wr.drewN m) := fun m => call_less (w := wr.drewN m) hcr
    have hless0 := hless 0
    have hswap : ∀ m, (method 355 218 (.pointer (some ⟨p, off, none⟩)) "Swap").run Tryz.prog (wr.drewN m) = .ok (257, .slice (some ⟨g, 0, none⟩) ys.length cap) (wr.drewN m) := fun m => call_swap (w := wr.drewN m) hcr
    simp only [World.drewN_zero] at hless0
    rcases Nat.eq_zero_or_pos k with hk0 | hk0
    · subst hk0
      go_wp2
      go_end0
      exact ⟨rfl, ho, ys, HYP.out, Ry, fun h => (hno h).2⟩
    · have hq : ((k : Int) - 1).tdiv 2 = ((k - 1) / 2 : Nat) := by rw [Int.tdiv_eq_ediv_of_nonneg (by omega)]; omega
      have hlt : (((k - 1) / 2 : Nat) : Int) < (k : Int) := by omega
      have hb : (((k - 1) / 2 : Nat) == k) = false := by simp; omega
      have hb' : ((((k - 1) / 2 : Nat) : Int) == (k : Int)) = false := by simp; omega
      by_cases hx : ys.getD k 0 < ys.getD ((k - 1) / 2) 0
      · have hd : decide (ys.getD k 0 < ys.getD ((k - 1) / 2) 0) = true := by simpa using hx
        have hd' : decide (ys.getD (k : Int).toNat 0 < ys.getD (((k - 1 : Nat) : Int) / 2).toNat 0) = true := by
          rw [Int.toNat_natCast, show (((k - 1 : Nat) : Int) / 2).toNat = (k - 1) / 2 by omega]; exact hd
        go_wp2_with (first
          | (go_at_call 256; refine (row_less _ _ _ Ry (by omega) (by omega) (by omega) (by omega)).mono ?_; rintro e w1 ⟨rfl, m, rfl⟩; rw [hd'])
          | (go_at_call 257; refine (row_swap _ _ (wr.drewN m) (Ry.of_eq rfl) (by omega) (by omega) (by omega) (by omega) (by omega)).mono ?_; rintro e w2 ⟨rfl, hR2, ho2⟩))
        go_roundw
        case rel => exact ⟨(k - 1) / 2, _, by go_num, by omega, (swapL_perm (by omega) (by omega)).trans HYP.out, hR2, (ho.trans (OnlyBlk.drewN _ _ _)).trans ho2, fun h => by
          obtain ⟨rfl, rfl⟩ := hno h
          rcases h with h | h
          · omega
          · exact absurd hx h⟩
        case measure => simp [intOf]; omega
      · have hd' : decide (ys.getD (k : Int).toNat 0 < ys.getD (((k - 1 : Nat) : Int) / 2).toNat 0) = false := by
          rw [Int.toNat_natCast, show (((k - 1 : Nat) : Int) / 2).toNat = (k - 1) / 2 by omega]; simpa using hx
        go_wp2_with (go_at_call 256; refine (row_less _ _ _ Ry (by omega) (by omega) (by omega) (by omega)).mono ?_; rintro e w1 ⟨rfl, m, rfl⟩; rw [hd'])
        go_end0
        exact ⟨rfl, ho.trans (OnlyBlk.drewN _ _ _), ys, HYP.out, Ry.of_eq rfl, fun h => (hno h).2⟩

set_option maxRecDepth 100000 in
set_option maxHeartbeats 1000000 in
theorem heap_push {p off : Nat} {cs : Array Value} {T : TypeId} {v : Value} {xs : List Int} (x : Int) (w : World) (hp : w.heap[p]? = some (.cells cs T (0, 0))) (hc : cs[off]? = some v) (R : Row w v xs) (hne : v.ownBlock ≠ some p) (hl : xs.length < 1099511627775) :
    Calls Tryz.prog 173 #[.iface 218 (.pointer (some ⟨p, off, none⟩)), .iface 3 (.int .i64 x)] w (HeapPushPost w p off cs T v xs x) := by
  have hpush := fun w => call_push ⟨p, off, none⟩ w
  have hoff : off < cs.size := (Array.getElem?_eq_some_iff.1 hc).1
  have H1 := Lib.hid (row_push (T := T) x w hp hc R hne (by omega))
  clear hp hc R hne
  go_enter Tryz.func173, Tryz.ntmps173
  go_wp2_with (go_at_call 264; refine H1.out.mono ?_)
  rintro e w1 ⟨rfl, g, cap, hp1, R1, hat, hgp, hf⟩
  have hlen : (xs ++ [x]).length = xs.length + 1 := by simp
  have hc1 : w1.cell? ⟨p, off, none⟩ = some (.slice (some ⟨g, 0, none⟩) (xs.length + 1) cap) := by simp [World.cell?, hp1, hoff]
  have hlen1 := call_len hc1
  have HL := Lib.hid hlen
  clear hlen
  have H2 := Lib.hid (heap_up (p := p) (off := off) xs.length w1 (by rw [HL.out]; exact hc1) (fun e => hgp e.symm) R1 (by rw [HL.out]; omega) (by rw [HL.out]; omega))
  go_wp2_with (first
    | (go_at_call 210; refine (row_len .nilIface _ _ _ _).mono ?_; rintro e w2 ⟨rfl, rfl⟩)
    | (go_at_call 201; refine H2.out.mono ?_; rintro e w3 ⟨rfl, ho, ys, hy1, hy2, hy3⟩))
  go_end0
  exact ⟨rfl, ys, hy1, hy3, ho.rowPost hp1 hat hgp hf hy1.length_eq hy2⟩

theorem row_less_n {g cap : Nat} {xs : List Int} (i j : Int) (i' j' : Nat) (w : World) (R : RowB w g cap xs) (hi : i = i') (hj : j = j') (hi' : i' < xs.length) (hj' : j' < xs.length) (b : Bool) (hb : decide (xs.getD i' 0 < xs.getD j' 0) = b) :
    Calls Tryz.prog 256 #[.slice (some ⟨g, 0, none⟩) xs.length cap, .int .i64 i, .int .i64 j] w fun e w' => e = .returned (.bool b) ∧ ∃ m, w' = w.drewN m := by
  subst hi hj hb
  exact row_less (i' : Int) (j' : Int) w R (by omega) (by omega) (by omega) (by omega)

theorem row_swap_n {g cap : Nat} {xs : List Int} (i j : Int) (i' j' : Nat) (w : World) (R : RowB w g cap xs) (hi : i = i') (hj : j = j') (hi' : i' < xs.length) (hj' : j' < xs.length) (hne : ¬ i' = j') :
    Calls Tryz.prog 257 #[.slice (some ⟨g, 0, none⟩) xs.length cap, .int .i64 i, .int .i64 j] w fun e w' => e = .returned (.tuple #[]) ∧ RowB w' g cap (swapL xs i' j') ∧ OnlyBlk w w' g := by
  subst hi hj
  exact row_swap (i' : Int) (j' : Int) w R (by omega) (by omega) (by omega) (by omega) (by omega)

set_option maxRecDepth 100000 in
set_option maxHeartbeats 2000000 in
theorem heap_down {p off g cap : Nat} {xs : List Int} (n : Nat) (w : World) (hc : w.cell? ⟨p, off, none⟩ = some (.slice (some ⟨g, 0, none⟩) xs.length cap)) (hpg : ¬ p = g) (R : RowB w g cap xs) (hn : n < xs.length) (hl : xs.length < 1099511627776) :
    Calls Tryz.prog 205 #[.iface 218 (.pointer (some ⟨p, off, none⟩)), .int .i64 0, .int .i64 n] w (DownPost w g cap (downL n xs 0 n)) := by
  obtain ⟨D, HD0⟩ : ∃ D, D = downL n xs 0 n := ⟨_, rfl⟩
  rw [← HD0]
  have HD := Lib.hid HD0
  clear HD0
  go_enter Tryz.func205, Tryz.ntmps205
  go_wp2
  go_loopw [7] (fun iv wr => ∃ (k f : Nat) (ys : List Int), iv = .int .i64 k ∧ k ≤ n ∧ ys.length = xs.length ∧ RowB wr g cap ys ∧ OnlyBlk w wr g ∧ n ≤ f + k ∧ D = downL f ys k n) (fun iv _ => n - (intOf iv).toNat)
  case atStart => exact ⟨0, n, xs, rfl, Nat.zero_le _, rfl, R, OnlyBlk.refl _ _, by omega, HD.out⟩
  case round =>
    obtain ⟨k, f, ys, rfl, hk, hys, Ry, ho, hf, hD⟩ := hrel
    have hcr : wr.cell? ⟨p, off, none⟩ = some (.slice (some ⟨g, 0, none⟩) ys.length cap) := by
      rw [ho.cell hpg, hys]; exact hc
    have hlen : n < ys.length := by omega
    have HY := Lib.hid hys
    have HDD := Lib.hid hD
    clear hc hys hD HD
    have hless : ∀ m, (method 355 218 (.pointer (some ⟨p, off, none⟩)) "Less").run Tryz.prog (wr.drewN m) = .ok (256, .slice (some ⟨g, 0, none⟩) ys.length cap) (wr.drewN m) := fun m => call_less (w := wr.drewN m) hcr
    have hless0 := hless 0
    have hswap : ∀ m, (method 355 218 (.pointer (some ⟨p, off, none⟩)) "Swap").run Tryz.prog (wr.drewN m) = .ok (257, .slice (some ⟨g, 0, none⟩) ys.length cap) (wr.drewN m) := fun m => call_swap (w := wr.drewN m) hcr
    simp only [World.drewN_zero] at hless0
    by_cases h1 : n ≤ 2 * k + 1
    · have h1' : (n : Int) ≤ 2 * (k : Int) + 1 := by omega
      go_wp2
      all_goals
        go_ret
        exact ⟨⟨_, rfl⟩, ho, by rw [HDD.out, downL_end h1]; exact Ry⟩
    · have h1' : ¬ (n : Int) ≤ 2 * (k : Int) + 1 := by omega
      obtain ⟨f, rfl⟩ : ∃ f', f = f' + 1 := ⟨f - 1, by omega⟩
      by_cases h2 : 2 * k + 2 < n
      case neg =>
        have h2' : ¬ 2 * (k : Int) + 1 + 1 < (n : Int) := by omega
        have HJ : (2 * k + 1 = 2 * k + 2 ∧ 2 * k + 2 < n ∧ ys.getD (2 * k + 2) 0 < ys.getD (2 * k + 1) 0) ∨ (2 * k + 1 = 2 * k + 1 ∧ ¬ (2 * k + 2 < n ∧ ys.getD (2 * k + 2) 0 < ys.getD (2 * k + 1) 0)) := .inr ⟨rfl, fun h => h2 h.1⟩
        have HJ := Lib.hid HJ
        have hstep := Lib.hid (downL_step (f := f) (j := 2 * k + 1) (ys := ys) (n := n) (k := k) (by omega) HJ.out)
        by_cases h4 : ys.getD (2 * k + 1) 0 < ys.getD k 0
        · have B2 := Lib.hid (show decide (ys.getD (2 * k + 1) 0 < ys.getD k 0) = true by simpa using h4)
          have H4 := Lib.hid h4
          clear h4
          go_wp2_with fail
          refine (row_less_n _ _ (2 * k + 1) k wr Ry (by omega) (by omega) (by omega) (by omega) _ B2.out).mono ?_
          rintro e w2 ⟨rfl, m2, rfl⟩
          go_wp2_with fail
          refine (row_swap_n _ _ k (2 * k + 1) (wr.drewN m2) (RowB.of_eq (w := wr) Ry rfl) (by omega) (by omega) (by omega) (by omega) (by omega)).mono ?_
          rintro e w3 ⟨rfl, hR2, ho2⟩
          go_wp2
          go_roundw
          case rel => exact ⟨2 * k + 1, f, _, by go_num, by omega, (swapL_length _ _ _).trans HY.out, hR2, (ho.trans (OnlyBlk.drewN _ _ _)).trans ho2, by omega, by rw [HDD.out, hstep.out, if_pos H4.out]⟩
          case measure => simp [intOf]; omega
        · have B2 := Lib.hid (show decide (ys.getD (2 * k + 1) 0 < ys.getD k 0) = false by simpa using h4)
          have H4 := Lib.hid h4
          clear h4
          go_wp2_with fail
          refine (row_less_n _ _ (2 * k + 1) k wr Ry (by omega) (by omega) (by omega) (by omega) _ B2.out).mono ?_
          rintro e w2 ⟨rfl, m2, rfl⟩
          go_wp2
          all_goals
            go_ret
            exact ⟨⟨_, rfl⟩, ho.trans (OnlyBlk.drewN _ _ _), by rw [HDD.out, hstep.out, if_neg (by have := H4.out; omega)]; exact Ry.of_eq rfl⟩
      have h2' : 2 * (k : Int) + 1 + 1 < (n : Int) := by omega
      by_cases h3 : ys.getD (2 * k + 2) 0 < ys.getD (2 * k + 1) 0
      case neg =>
        have B1 := Lib.hid (show decide (ys.getD (2 * k + 2) 0 < ys.getD (2 * k + 1) 0) = false by simpa using h3)
        have HJ : (2 * k + 1 = 2 * k + 2 ∧ 2 * k + 2 < n ∧ ys.getD (2 * k + 2) 0 < ys.getD (2 * k + 1) 0) ∨ (2 * k + 1 = 2 * k + 1 ∧ ¬ (2 * k + 2 < n ∧ ys.getD (2 * k + 2) 0 < ys.getD (2 * k + 1) 0)) := .inr ⟨rfl, fun h => h3 h.2⟩
        have HJ := Lib.hid HJ
        have hstep := Lib.hid (downL_step (f := f) (j := 2 * k + 1) (ys := ys) (n := n) (k := k) (by omega) HJ.out)
        by_cases h4 : ys.getD (2 * k + 1) 0 < ys.getD k 0
        · have B2 := Lib.hid (show decide (ys.getD (2 * k + 1) 0 < ys.getD k 0) = true by simpa using h4)
          have H4 := Lib.hid h4
          clear h4
          go_wp2_with fail
          refine (row_less_n _ _ (2 * k + 2) (2 * k + 1) _ Ry (by omega) (by omega) (by omega) (by omega) _ B1.out).mono ?_
          rintro e w1 ⟨rfl, m1, rfl⟩
          go_wp2_with fail
          refine (row_less_n _ _ (2 * k + 1) k (wr.drewN m1) (Ry.of_eq rfl) (by omega) (by omega) (by omega) (by omega) _ B2.out).mono ?_
          rintro e w2 ⟨rfl, m2, rfl⟩
          go_wp2_with fail
          refine (row_swap_n _ _ k (2 * k + 1) (wr.drewN (m1 + m2)) (RowB.of_eq (w := wr) Ry rfl) (by omega) (by omega) (by omega) (by omega) (by omega)).mono ?_
          rintro e w3 ⟨rfl, hR2, ho2⟩
          go_wp2
          go_roundw
          case rel => exact ⟨2 * k + 1, f, _, by go_num, by omega, (swapL_length _ _ _).trans HY.out, hR2, (ho.trans (OnlyBlk.drewN _ _ _)).trans ho2, by omega, by rw [HDD.out, hstep.out, if_pos H4.out]⟩
          case measure => simp [intOf]; omega
        · have B2 := Lib.hid (show decide (ys.getD (2 * k + 1) 0 < ys.getD k 0) = false by simpa using h4)
          have H4 := Lib.hid h4
          clear h4
          go_wp2_with fail
          refine (row_less_n _ _ (2 * k + 2) (2 * k + 1) _ Ry (by omega) (by omega) (by omega) (by omega) _ B1.out).mono ?_
          rintro e w1 ⟨rfl, m1, rfl⟩
          go_wp2_with fail
          refine (row_less_n _ _ (2 * k + 1) k (wr.drewN m1) (Ry.of_eq rfl) (by omega) (by omega) (by omega) (by omega) _ B2.out).mono ?_
          rintro e w2 ⟨rfl, m2, rfl⟩
          go_wp2
          all_goals
            go_ret
            exact ⟨⟨_, rfl⟩, ho.trans (OnlyBlk.drewN _ _ _), by rw [HDD.out, hstep.out, if_neg (by have := H4.out; omega)]; exact Ry.of_eq rfl⟩
      have B1 := Lib.hid (show decide (ys.getD (2 * k + 2) 0 < ys.getD (2 * k + 1) 0) = true by simpa using h3)
      have HJ : (2 * k + 2 = 2 * k + 2 ∧ 2 * k + 2 < n ∧ ys.getD (2 * k + 2) 0 < ys.getD (2 * k + 1) 0) ∨ (2 * k + 2 = 2 * k + 1 ∧ ¬ (2 * k + 2 < n ∧ ys.getD (2 * k + 2) 0 < ys.getD (2 * k + 1) 0)) := .inl ⟨rfl, h2, h3⟩
      have HJ := Lib.hid HJ
      have hstep := Lib.hid (downL_step (f := f) (j := 2 * k + 2) (ys := ys) (n := n) (k := k) (by omega) HJ.out)
      by_cases h4 : ys.getD (2 * k + 2) 0 < ys.getD k 0
      · have B2 := Lib.hid (show decide (ys.getD (2 * k + 2) 0 < ys.getD k 0) = true by simpa using h4)
        have H4 := Lib.hid h4
        clear h4
        go_wp2_with fail
        refine (row_less_n _ _ (2 * k + 2) (2 * k + 1) _ Ry (by omega) (by omega) (by omega) (by omega) _ B1.out).mono ?_
        rintro e w1 ⟨rfl, m1, rfl⟩
        go_wp2_with fail
        refine (row_less_n _ _ (2 * k + 2) k (wr.drewN m1) (Ry.of_eq rfl) (by omega) (by omega) (by omega) (by omega) _ B2.out).mono ?_
        rintro e w2 ⟨rfl, m2, rfl⟩
        go_wp2_with fail
        refine (row_swap_n _ _ k (2 * k + 2) (wr.drewN (m1 + m2)) (RowB.of_eq (w := wr) Ry rfl) (by omega) (by omega) (by omega) (by omega) (by omega)).mono ?_
        rintro e w3 ⟨rfl, hR2, ho2⟩
        go_wp2
        go_roundw
        case rel => exact ⟨2 * k + 2, f, _, by go_num, by omega, (swapL_length _ _ _).trans HY.out, hR2, (ho.trans (OnlyBlk.drewN _ _ _)).trans ho2, by omega, by rw [HDD.out, hstep.out, if_pos H4.out]⟩
        case measure => simp [intOf]; omega
      · have B2 := Lib.hid (show decide (ys.getD (2 * k + 2) 0 < ys.getD k 0) = false by simpa using h4)
        have H4 := Lib.hid h4
        clear h4
        go_wp2_with fail
        refine (row_less_n _ _ (2 * k + 2) (2 * k + 1) _ Ry (by omega) (by omega) (by omega) (by omega) _ B1.out).mono ?_
        rintro e w1 ⟨rfl, m1, rfl⟩
        go_wp2_with fail
        refine (row_less_n _ _ (2 * k + 2) k (wr.drewN m1) (Ry.of_eq rfl) (by omega) (by omega) (by omega) (by omega) _ B2.out).mono ?_
        rintro e w2 ⟨rfl, m2, rfl⟩
        go_wp2
        all_goals
          go_ret
          exact ⟨⟨_, rfl⟩, ho.trans (OnlyBlk.drewN _ _ _), by rw [HDD.out, hstep.out, if_neg (by have := H4.out; omega)]; exact Ry.of_eq rfl⟩

set_option maxHeartbeats 1000000 in
theorem row_pop {p off g cap : Nat} {cs : Array Value} {T : TypeId} {xs : List Int} (w : World) (hp : w.heap[p]? = some (.cells cs T (0, 0))) (hc : cs[off]? = some (.slice (some ⟨g, 0, none⟩) xs.length cap)) (R : RowB w g cap xs) (hl : 0 < xs.length) (hl2 : xs.length < 1099511627776) :
    Calls Tryz.prog 263 #[.pointer (some ⟨p, off, none⟩)] w (RowPopPost w p off cs T g cap xs) := by
  have c0 : w.cell? ⟨p, off, none⟩ = some (.slice (some ⟨g, 0, none⟩) xs.length cap) := by simp [World.cell?, hp, hc]
  have f0 : w.frozen? ⟨p, off, none⟩ = false := by simp [World.frozen?, hp]
  have c1 := R.cell (i := xs.length - 1) (by omega)
  have hcap : xs.length ≤ cap := R.choose_spec.2.2.1
  have HP := Lib.hid hp
  have hl' : (0 : Int) < (xs.length : Int) := by omega
  have hn : ((xs.length : Int) - 1).toNat = xs.length - 1 := by omega
  clear hp hc R
  go_enter Tryz.func263, Tryz.ntmps263
  go_wp2
  go_ret
  exact ⟨by simp, by simpa [hn] using heap_set HP.out off _, OnlyBlk.set _ _ _ _⟩

set_option maxHeartbeats 400000 in
theorem row_swap_same {g cap : Nat} {xs : List Int} (w : World) (R : RowB w g cap xs) (hl : 0 < xs.length) :
    Calls Tryz.prog 257 #[.slice (some ⟨g, 0, none⟩) xs.length cap, .int .i64 0, .int .i64 0] w fun e w' => e = .returned (.tuple #[]) ∧ RowB w' g cap xs ∧ OnlyBlk w w' g := by
  have hx := R.cell (i := 0) hl
  have fi := R.free 0
  have HF : Hid (RowB ((w.setCell ⟨g, 0, none⟩ (.int .i64 (xs.getD 0 0))).setCell ⟨g, 0, none⟩ (.int .i64 (xs.getD 0 0))) g cap xs) := by
    have h1 := R.set hl (xs.getD 0 0)
    rw [set_same _ _ hl] at h1
    have h2 := h1.set hl (xs.getD 0 0)
    rw [set_same _ _ hl] at h2
    exact h2
  have hl' : (0 : Int) < (xs.length : Int) := by omega
  clear R
  generalize xs.getD 0 0 = x at *
  have hx2 : (w.setCell ⟨g, 0, none⟩ (.int .i64 x)).cell? ⟨g, 0, none⟩ = some (.int .i64 x) := World.cell?_setCell_same _ _ _ hx
  go_enter Tryz.func257, Tryz.ntmps257
  go_wp2
  go_region
  all_goals
    go_end0
    exact ⟨rfl, HF.out.of_eq rfl, ⟨rfl, rfl, rfl, by simp, fun b hb => (Below.heap_setCell _ _ _ _ hb).trans (Below.heap_setCell _ _ _ _ hb)⟩⟩

set_option maxRecDepth 100000 in
set_option maxHeartbeats 1000000 in
theorem heap_pop {p off g cap : Nat} {cs : Array Value} {T : TypeId} {xs : List Int} (w : World) (hp : w.heap[p]? = some (.cells cs T (0, 0))) (hc : cs[off]? = some (.slice (some ⟨g, 0, none⟩) xs.length cap)) (hpg : ¬ p = g) (R : RowB w g cap xs) (hl : 0 < xs.length) (hl2 : xs.length < 1099511627776) :
    Calls Tryz.prog 185 #[.iface 218 (.pointer (some ⟨p, off, none⟩))] w (HeapPopPost w p off cs T g cap xs) := by
  have c0 : w.cell? ⟨p, off, none⟩ = some (.slice (some ⟨g, 0, none⟩) xs.length cap) := by simp [World.cell?, hp, hc]
  have hlen0 := call_len c0
  have hswap0 := call_swap c0
  have hpop := fun w => call_pop ⟨p, off, none⟩ w
  have HP := Lib.hid hp
  have HC := Lib.hid hc
  clear hp hc
  obtain ⟨n, hn⟩ : ∃ n, xs.length = n + 1 := ⟨xs.length - 1, by omega⟩
  have HN := Lib.hid hn
  have hswap : ∃ ys, ys = swapL xs 0 n ∧ Calls Tryz.prog 257 #[.slice (some ⟨g, 0, none⟩) xs.length cap, .int .i64 0, .int .i64 ((xs.length : Int) - 1)] w fun e w' => e = .returned (.tuple #[]) ∧ RowB w' g cap ys ∧ OnlyBlk w w' g := by
    refine ⟨_, rfl, ?_⟩
    by_cases h0 : n = 0
    · subst h0
      have e1 : ((xs.length : Int) - 1) = 0 := by omega
      have e2 : swapL xs 0 0 = xs := by unfold swapL; rw [set_same _ _ (by omega), set_same _ _ (by omega)]
      rw [e1, e2]
      exact row_swap_same w R hl
    · exact row_swap_n _ _ 0 n w R rfl (by omega) (by omega) (by omega) (by omega)
  obtain ⟨ys, hys, hcs⟩ := hswap
  have hylen : ys.length = xs.length := by rw [hys, swapL_length]
  have HY := Lib.hid hys
  have HYL := Lib.hid hylen
  have HCS := Lib.hid hcs
  clear hys hylen hcs hn
  have hln : (0 : Int) ≤ (xs.length : Int) - 1 := by omega
  go_enter Tryz.func185, Tryz.ntmps185
  go_wp2_with (first
    | (go_at_call 210; refine (row_len .nilIface _ _ _ _).mono ?_; rintro e w2 ⟨rfl, rfl⟩)
    | (go_at_call 257; refine HCS.out.mono ?_; rintro e w1 ⟨rfl, R1, ho1⟩))
  have e1 : ((xs.length : Int) - 1) = (n : Int) := by have := HN.out; omega
  rw [e1]
  have c1 : w1.cell? ⟨p, off, none⟩ = some (.slice (some ⟨g, 0, none⟩) ys.length cap) := by rw [ho1.cell hpg, HYL.out]; exact c0
  refine (heap_down n w1 c1 hpg R1 (by rw [HYL.out, HN.out]; omega) (by rw [HYL.out]; exact hl2)).mono ?_
  rintro e w2 ⟨⟨b, rfl⟩, ho2, R2⟩
  have hp2 : w2.heap[p]? = some (.cells cs T (0, 0)) := (ho2.block p hpg).trans ((ho1.block p hpg).trans HP.out)
  have hzl : (downL n ys 0 n).length = xs.length := (downL_length _ _ _ _).trans HYL.out
  have H3 := Lib.hid (row_pop (off := off) w2 hp2 (by rw [hzl]; exact HC.out) R2 (by rw [hzl]; exact hl) (by rw [hzl]; exact hl2))
  clear hp2 hzl e1
  go_wp2_with (go_at_call 263; refine H3.out.mono ?_; rintro e w3 ⟨rfl, hp3, ho3⟩)
  go_ret
  have hn := HN.out
  have hzl : (downL n ys 0 n).length = xs.length := (downL_length _ _ _ _).trans HYL.out
  have hgp : g ≠ p := fun e => hpg e.symm
  refine ⟨?_, by rw [hzl] at hp3; exact hp3, ?_, ⟨ho3.os.trans (ho2.os.trans ho1.os), ho3.tape.trans (ho2.tape.trans ho1.tape), ho3.output.trans (ho2.output.trans ho1.output), by rw [ho3.size, ho2.size, ho1.size]; exact Nat.le_refl _, fun b hb h1 h2 => ?_⟩⟩
  · have e2 : (downL n ys 0 n).getD ((downL n ys 0 n).length - 1) 0 = xs.getD 0 0 := by
      rw [hzl, hn, Nat.add_sub_cancel, downL_getD _ _ _ _ _ (Nat.le_refl _), HY.out]
      unfold swapL
      rw [List.getD, List.getElem?_set_self (by simp; omega)]
      rfl
    simpa using congrArg (fun x => Ending.returned (Value.iface 3 (.int .i64 x))) e2
  · have e3 : popL xs = (downL n ys 0 n).take n := by unfold popL; rw [HY.out, hn, Nat.add_sub_cancel]
    rw [e3]
    exact (R2.of_eq (ho3.block g hgp)).take (by rw [hzl]; omega)
  · have hbg : b ≠ g := fun e => h2 (by rw [e])
    exact (ho3.block b h1).trans ((ho2.block b hbg).trans (ho1.block b hbg))

end Go.Proofs.YtlpklloagaccoaaGreat.Ar
