/- A page of small blocks (arena.page). Conditions: nothing was freed. -/
import Derived.Test.YtlpklloagaccoaaTakeA
import Derived.Outline
namespace Go.Proofs.Ytlpklloagaccoaa
open Go.RowKit
set_option linter.unusedVariables false

/-- Behind page. -/
def PagePost (o : Own) (w : World) (r p : Nat) (S : ArS) (e : Ending) (w' : World) : Prop :=
  e = .returned (.bool true) ∧ ∃ o', Fr r (r + 15) o o' w w' ∧ ArenaRep o' w' r p S
/-- Between two rounds. -/
def PageRel (o : Own) (w : World) (r p : Nat) (S : ArS) (c i : Nat) (wr : World) : Prop :=
  ∃ o', Fr r (r + 15) o o' w wr ∧ ArenaRep o' wr r p (pageI S c i)
set_option maxRecDepth 100000 in
set_option maxHeartbeats 1000000 in
theorem page_yes {o : Own} {r p : Nat} {S : ArS} (c : Nat) (s : Int) (w : World) (ho : Owned o w) (A : ArenaRep o w r p S) (F : Fresh S) (hc : c < 5) (hj : (S.cur c).2 = perN c) (hs : s = (lenN c : Nat)) (hn : S.t + 1 ≤ S.n) :
    Calls Try.prog 66 #[.pointer (some ⟨p, 0, none⟩), .int .i64 (c : Nat), .int .i64 s] w (PagePost o w r p (pageS S c)) := by
  have hl := per_len hc
  have hrow : S.rows c = [] := by rw [F.rows c hc, hj]; exact rowAt_none c _
  obtain ⟨g, q, l, b, v, f, A⟩ := A
  have htake := Lib.hid (take_one_int (r := r + 9) ((c : Int) + 1) (c + 1) (by omega) w ho (by have := A.pages; rw [F.pg] at this; exact this))
  have hstart := Lib.hid (fun (w1 : World) (e : Ending) (hT : TakePost o w (r + 9) q S.n S.t 1 (c + 1) S.R e w1) => show e = .returned (.int .i64 (S.t : Nat)) ∧ PageRel o w r p S c 0 w1 by
    obtain ⟨rfl, h1, h2, _⟩ := hT
    obtain ⟨h3, h4⟩ := A.paged h1 (h2 hn) (S.t + 1) (updF S.cur c (S.t, 0))
    refine ⟨by unfold runN; rw [if_pos hn], o, h3, g, q, l, b, v, f, h4.congr rfl rfl (by show pageBl S.bl (S.t * 64) (lenN c) 0 = S.bl; exact pageBl_zero _ _ _) (fun d hd => ?_) (fun _ _ => rfl) h4.pages⟩
    show updF S.rows c _ d = S.rows d
    unfold updF
    split
    · rename_i e; subst e; rw [hrow]; rfl
    · rfl)
  have c1 := A.c1
  have hn4 := A.n1
  have t1 := F.t1
  subst hs
  have HR := Lib.hid hrow
  have HJ := Lib.hid hj
  have HF := Lib.hid F
  clear A F hrow hj
  go_enter Try.func66, Try.ntmps66
  go_wp2_with fail
  go_at_call 74
  refine htake.out.mono ?_
  intro e w1 hT
  obtain ⟨rfl, hR0⟩ := hstart.out _ _ hT
  have HR0 := Lib.hid hR0
  clear hT hR0
  go_wp2_with (go_at_call 78; refine (blocks_any hc _ rfl _).mono ?_; rintro e w2 ⟨rfl, rfl⟩)
  go_loopw [21] (fun iv wr => ∃ i : Nat, i ≤ perN c ∧ iv = .int .i64 i ∧ PageRel o w r p S c i wr) (fun iv _ => perN c - (intOf iv).toNat)
  case atStart => exact ⟨0, by omega, rfl, HR0.out⟩
  case round =>
    obtain ⟨i, hi, rfl, hrel⟩ := hrel
    obtain ⟨o1, F1, g1, q1, l1, b1, v1, f1, A1⟩ := hrel
    by_cases hip : i < perN c
    · have hip' : (i : Int) < (perN c : Nat) := by omega
      have hms := mul_step (s := lenN c) hip
      have e1 : ((i : Int) * (lenN c : Nat)) = ((i * lenN c : Nat) : Int) := by simp
      have k0 : 0 ≤ (S.t : Int) * 64 + (i : Int) * (lenN c : Nat) := by rw [e1]; omega
      have k1 : (S.t : Int) * 64 + (i : Int) * (lenN c : Nat) < KB := by rw [e1]; simp only [KB]; omega
      have HE := Lib.hid (show (S.t : Int) * 64 + (i : Int) * (lenN c : Nat) = ((S.t * 64 + i * lenN c : Nat) : Int) by rw [e1]; omega)
      have c3 := A1.c3
      have HA1 := Lib.hid A1
      have HF1 := Lib.hid F1
      have hmap := Lib.hid (fun x => A1.map.2.of_eq (Below.heap_alloc wr x _ A1.map.2.lt))
      clear A1 e1 F1
      go_wp2_with (at_mapUpdate; refine wpList_mapUpdate_is _ rfl _ _ _ 92 rfl 3 59 Try.underlying92 Try.underlying3 b1 _ (by exact hmap.out _) rfl ((S.t : Int) * 64 + (i : Int) * (lenN c : Nat)) rfl k0 k1 _ rfl ?_; intro w4 hm4 ht4)
      rw [HE.out] at hm4
      obtain ⟨F2, A2⟩ := HA1.out.add HF1.out.fresh _ ⟨lenN c, 0, 0⟩ hm4 ht4
      have hrows : (pageI S c i).rows c = seqL (S.t * 64) (lenN c) i := by show updF S.rows c _ c = _; unfold updF; rw [if_pos rfl]
      have hpush := A2.pushed F2.fresh hc ((S.t * 64 + i * lenN c : Nat) : Int) (by show ((pageI S c i).rows c).length < _; rw [hrows, seqL_length]; omega)
      rw [← HE.out] at hpush
      have HP := Lib.hid hpush
      have HR1 := Lib.hid hrows
      have HF2 := Lib.hid F2
      have d0 := A2.fp 0
      clear A2 F2 hrows hm4 ht4 hpush
      go_wp2_with fail
      go_at_call 70
      refine HP.out.mono ?_
      rintro e w5 ⟨rfl, ys, o5, v5, _, hys, F5, A5⟩
      have hys2 : ys = seqL (S.t * 64) (lenN c) (i + 1) := by
        have h1 : ({ pageI S c i with bl := updI (pageI S c i).bl ((S.t * 64 + i * lenN c : Nat) : Int) (some ⟨lenN c, 0, 0⟩) } : ArS).rows c = seqL (S.t * 64) (lenN c) i := HR1.out
        rw [h1, HE.out, seqL_length] at hys
        rw [seqL_succ]
        exact hys (seqL_noUp _ _ _ (by omega))
      have HREL : PageRel o w r p S c (i + 1) w5 := by
        refine ⟨o5, (HF1.out.trans HF2.out).trans F5, _, _, _, _, _, _, (A5 (updF S.cur c (S.t, 0))).congr rfl rfl ?_ (fun d hd => ?_) (fun _ _ => rfl) (A5 (updF S.cur c (S.t, 0))).pages⟩
        · show pageBl S.bl (S.t * 64) (lenN c) (i + 1) = _
          rw [pageBl_succ]; rfl
        · show updF S.rows c (seqL (S.t * 64) (lenN c) (i + 1)) d = updF (updF S.rows c (seqL (S.t * 64) (lenN c) i)) c ys d
          rw [updF_twice, hys2]
      have HRELH := Lib.hid HREL
      clear A5 F5 hys hys2 HREL
      go_wp2_with fail
      exact ⟨⟨i + 1, by omega, by go_num, HRELH.out⟩, by simp [intOf]; omega⟩
    · have hip' : ¬ (i : Int) < (perN c : Nat) := by omega
      go_wp2_with fail
      go_ret
      obtain rfl : i = perN c := by omega
      exact ⟨rfl, o1, F1, _, _, _, _, _, _, A1⟩
end Go.Proofs.Ytlpklloagaccoaa
