/- A block is given out (arena.Alloc), where there is one. Conditions: nothing was freed, nothing waits. -/
import Derived.Test.YtlpklloagaccoaaAlloc2
import Derived.Outline
namespace Go.Proofs.Ytlpklloagaccoaa
open Go.RowKit
set_option linter.unusedVariables false

/-- While the words behind are written. -/
def finI (m : Nat → Nat) (a n i : Nat) : Nat → Nat := fun j => if a ≤ j ∧ j < a + n then 0 else if a + n ≤ j ∧ j < i then canW j else m j
theorem finI_succ (m : Nat → Nat) {a n k : Nat} (h : a + n ≤ k) : updN (finI m a n k) k (canW k) = finI m a n (k + 1) := by
  funext j
  unfold updN finI
  by_cases h1 : j = k
  · subst h1; rw [if_pos rfl, if_neg (by omega), if_pos (by omega)]
  · rw [if_neg h1]
    by_cases h2 : a ≤ j ∧ j < a + n
    · rw [if_pos h2, if_pos h2]
    · rw [if_neg h2, if_neg h2]
      by_cases h3 : a + n ≤ j ∧ j < k
      · rw [if_pos h3, if_pos (by omega)]
      · rw [if_neg h3, if_neg (by omega)]
def AllocRel (o1 : Own) (w1 : World) (r p : Nat) (T : ArS) (a n s i : Nat) (ba : Nat) (g q l b : Nat) (v : Nat → Value) (f : Int → Option Nat) (wr : World) : Prop :=
  Fr r (r + 15) o1 o1 w1 wr ∧ Arena o1 wr r p { T with m := finI T.m a n i, bl := updI T.bl (a : Int) (some ⟨s, n, 1⟩) } g q l b v f
set_option maxRecDepth 100000 in
set_option maxHeartbeats 1000000 in
theorem alloc_yes {o : Own} {r p : Nat} {S T : ArS} (n a : Nat) (w : World) (ho : Owned o w) (A : ArenaRep o w r p S) (F : Fresh S) (h1 : 1 ≤ n) (hn : n ≤ 65536) (hT : tookS S n = some (T, a)) :
    Calls Try.prog 23 #[.pointer (some ⟨p, 0, none⟩), .int .i64 (n : Nat)] w (AllocPost o w r p S n) := by
  have K := tookS_spec F hT
  have HS := Lib.hid (sizes_any n w h1 (by omega))
  have HTk := Lib.hid (show Calls Try.prog 47 #[.pointer (some ⟨p, 0, none⟩), .int .i64 (classN n : Nat), .int .i64 (sizeN n : Nat)] w fun e w' => e = .returned (.tuple #[.int .i64 (a : Nat), .bool true]) ∧ ∃ o', Fr r (r + 15) o o' w w' ∧ ArenaRep o' w' r p T from (atake_any n w ho A F hn).mono fun e w' h => h.1 T a hT)
  have HN := Lib.hid (show allocS S n = some (finS T a n (sizeN n), a) by unfold allocS; rw [hT]; rfl)
  have n1 : (1 : Int) ≤ (n : Int) := by omega
  have n2 : (n : Int) ≤ 65536 := by omega
  have hnot : ∀ (x : Bool) (w : World), (Op.unary .not (.bool x)).run Try.prog w = .ok (.bool (!x)) w := fun _ _ => rfl
  have hsz := size_ge n
  obtain ⟨b', e1, e2, e3, e4, e5⟩ := K.fresh.ok.nat _ _ K.bl
  simp only at e3
  have hb : b' = a := by omega
  subst hb
  have hT4 := K.fresh.ok.tn
  have hbl := Lib.hid K.bl
  clear A F hT ho e1 e4 K
  generalize classN n = c at *
  generalize sizeN n = s at *
  go_enter Try.func23, Try.ntmps23
  go_wp2_with fail
  all_goals
    go_at_call 46
    refine HS.out.mono ?_
    rintro e w1 ⟨rfl, rfl⟩
    go_wp2_with fail
    go_at_call 47
    refine HTk.out.mono ?_
    rintro e w1 ⟨rfl, o1, F1, g, q, l, b, v, f, A1⟩
    have c3 := A1.c3
    have hl := A1.look (b' : Int) false
    obtain ⟨ba, hfa, hB⟩ := A1.f_of hbl.out
    rw [hfa] at hl
    simp only [Option.map_some, Option.getD_some, Bool.false_eq_true, if_false] at hl
    have d1 := hB.cell 1
    have d2 := hB.cell 2
    have f1 := hB.free 1
    have f2 := hB.free 2
    unfold blCells at d1 d2
    simp only [List.getElem?_toArray, List.getElem?_cons_zero, List.getElem?_cons_succ] at d1 d2
    have c0 := A1.c0
    have hpb : ¬ p = ba := fun e => by have h1 := A1.blk.1; have h2 := hB.1; rw [e] at h1; omega
    have hn4 := A1.n1
    have hN : (b' : Int) + (n : Int) ≤ ((T.n * 64 : Nat) : Int) := by omega
    have hN2 : (b' : Int) + (n : Int) ≤ 262144 := by omega
    have hN3 : (b' : Int) + (s : Int) ≤ 262144 := by omega
    have HA1 := Lib.hid A1
    have HF1 := Lib.hid F1
    have HB := Lib.hid hB
    have HFA := Lib.hid hfa
    clear A1 F1 hfa hB hn4
    generalize hNN : T.n * 64 = N at c0 hN
    have HNN := Lib.hid hNN
    clear hNN
    go_wp2_with fail
    obtain ⟨W2, hW2⟩ : ∃ W2, W2 = (w1.setCell ⟨ba, 2, none⟩ (.int .i64 1)).setCell ⟨ba, 1, none⟩ (.int .i64 (n : Nat)) := ⟨_, rfl⟩
    rw [← hW2]
    have hO2 : OnlyBlk w1 W2 ba := by rw [hW2]; exact (OnlyBlk.set w1 ba 2 _).trans (OnlyBlk.set _ ba 1 _)
    have hx2 : W2.heap[ba]? = some (.cells (blCells ⟨s, n, 1⟩) 63 (0, 0)) := by rw [hW2]; exact heap_set (heap_set HB.out.2 2 _) 1 _
    obtain ⟨F2, A2⟩ := HA1.out.reblk HF1.out.fresh HFA.out ⟨s, n, 1⟩ hO2 hx2
    have hcl : ∀ ty, (Builtin.clear_ #[87] ty #[.slice (some ⟨g, b', none⟩) n (N - b')]).run Try.prog W2 = .ok (.tuple #[]) (W2.setCells g b' (List.replicate n (.int .u64 0))) :=
      fun ty => Lib.run_clear_slice W2 87 57 ty (.int .u64 0) Try.underlying87 zero_u64 rfl rfl g b' n (N - b') (by omega) (fun j hj => by rw [A2.ws.cell (i := b' + j) (by show b' + j < T.n * 64; have := HNN.out; omega)]; rfl) (fun j hj => A2.ws.free (b' + j))
    have hsb := setCells_block g (List.replicate n (Value.int .u64 0)) b' W2
    obtain ⟨F3, A3⟩ := A2.rewords F2.fresh ⟨hsb.2.2.1, hsb.2.2.2.1, hsb.2.2.2.2, hsb.2.1, hsb.1⟩ (m := finI T.m b' n (b' + n)) ((A2.ws.setCells n b').congr fun i _ => by
      unfold finI
      split
      · rfl
      · rw [if_neg (by omega)]) (fun i => by
      unfold finI
      split
      · decide
      · rw [if_neg (by omega)]; exact A2.mlt i)
    have HR : Hid (AllocRel o1 w1 r p T b' n s (b' + n) ba g q l b v f (W2.setCells g b' (List.replicate n (.int .u64 0)))) := Lib.hid ⟨F2.trans F3, A3⟩
    clear A2 F2 A3 F3 hsb hO2 hx2 hW2
    go_wp2_with (simp only [hcl])
    generalize W2.setCells g b' (List.replicate n (Value.int .u64 0)) = W3 at *
    go_loopw [11] (fun iv wr => ∃ k : Nat, b' + n ≤ k ∧ k ≤ b' + s ∧ iv = .int .i64 k ∧ AllocRel o1 w1 r p T b' n s k ba g q l b v f wr) (fun iv _ => b' + s - (intOf iv).toNat)
    case atStart => exact ⟨b' + n, by omega, by omega, by go_num, HR.out⟩
    case round =>
      obtain ⟨k, hk1, hk2, rfl, F4, A4⟩ := hrel
      by_cases hk : k < b' + s
      · have hk' : (k : Int) < (b' : Int) + (s : Int) := by omega
        have hkN : k < N := by have := HNN.out; omega
        have hkN' : (k : Int) < (N : Int) := by omega
        have e0 := A4.c0
        have e1 : wr.cell? ⟨p, 0, none⟩ = some (.slice (some ⟨g, 0, none⟩) N N) := by rw [e0]; show some (Value.slice _ (T.n * 64) (T.n * 64)) = _; rw [HNN.out]
        have e2 := A4.cw (i := k) (by show k < T.n * 64; rw [HNN.out]; exact hkN)
        have e3 := A4.ws.free k
        have HW4 := Lib.hid (A4.write F4.fresh k (canW k) (canW_lt k))
        have HF4 := Lib.hid F4
        clear A4 F4 e0
        generalize ({ T with m := finI T.m b' n k, bl := updI T.bl (b' : Int) (some ⟨s, n, 1⟩) } : ArS).m k = y at e2
        go_wp2_with fail
        go_region_with (go_at_call 50; refine (canary_int _ k rfl _).mono ?_; rintro e w5 ⟨rfl, rfl⟩)
        all_goals
          have HREL : AllocRel o1 w1 r p T b' n s (k + 1) ba g q l b v f (wr.setCell ⟨g, k, none⟩ (.int .u64 (canW k : Nat))).drew := by
            refine ⟨(HF4.out.trans HW4.out.1).drew, ?_⟩
            have h := HW4.out.2.keep ((Fr.refl (lo := 0) (hi := 0) HW4.out.1.fresh).drew) (.inr (Nat.zero_le _))
            exact h.congr rfl (finI_succ _ hk1).symm rfl (fun _ _ => rfl) (fun _ _ => rfl) h.pages
          have HRH := Lib.hid HREL
          clear HREL
          go_wp2_with fail
          exact ⟨⟨k + 1, by omega, by omega, by go_num, HRH.out⟩, by simp [intOf]; omega⟩
      · have hk' : ¬ (k : Int) < (b' : Int) + (s : Int) := by omega
        obtain rfl : k = b' + s := by omega
        go_wp2_with fail
        go_ret2
        refine ⟨fun T' a' e => ?_, fun e => (by rw [HN.out] at e; cases e)⟩
        rw [HN.out] at e
        cases e
        refine ⟨rfl, o1, HF1.out.trans F4, g, q, l, b, v, f, ?_⟩
        exact A4
theorem alloc_any {o : Own} {r p : Nat} {S : ArS} (n : Nat) (w : World) (ho : Owned o w) (A : ArenaRep o w r p S) (F : Fresh S) (h1 : 1 ≤ n) (hn : n ≤ 65536) :
    Calls Try.prog 23 #[.pointer (some ⟨p, 0, none⟩), .int .i64 (n : Nat)] w (AllocPost o w r p S n) := by
  cases hT : tookS S n with
  | none => exact alloc_no n w ho A F h1 hn hT
  | some x => exact alloc_yes n x.2 w ho A F h1 hn (T := x.1) hT
end Go.Proofs.Ytlpklloagaccoaa
