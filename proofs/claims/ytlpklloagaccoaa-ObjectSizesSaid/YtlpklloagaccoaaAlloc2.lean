/- A block is given out (arena.Alloc). Conditions: nothing was freed, nothing waits. -/
import Derived.Test.YtlpklloagaccoaaAlloc
import Derived.BigFrame
namespace Go.Proofs.Ytlpklloagaccoaa
open Go.RowKit
set_option linter.unusedVariables false

theorem lflush0 {o : Own} {r p : Nat} (w : World) (L : LineRep o w r p) : Calls Try.prog 49 #[.pointer (some ⟨p, 0, none⟩)] w fun e w' => e = .returned (.slice none 0 0) ∧ w = w' := by
  obtain ⟨v, L1, L2⟩ := L
  obtain ⟨a, c, hv⟩ : ∃ a c, v = .slice a 0 c := by
    rcases L2 with h | ⟨g, a, c, cs, h, _⟩
    · exact ⟨_, _, h⟩
    · exact ⟨_, _, h⟩
  have c2 := L1.cell 2
  simp only [List.getElem?_toArray, List.getElem?_cons_zero, List.getElem?_cons_succ, hv] at c2
  clear L1 L2 hv
  go_enter Try.func49, Try.ntmps49
  go_wp2_with fail
  refine wp_loop_rounds 1 ?_
  rw [rounds_succ]
  go_wp2_with fail
  go_ret
  exact ⟨rfl, rfl⟩
theorem opens_nil (a : Value) (w : World) : Calls Try.prog 48 #[a, .slice none 0 0] w fun e w' => e = .returned (.tuple #[]) ∧ w = w' := by
  go_enter Try.func48, Try.ntmps48
  go_wp2_with fail
  refine wp_loop_rounds 1 ?_
  rw [rounds_succ]
  go_wp2_with fail
  go_end0
  exact ⟨rfl, rfl⟩
theorem canary_int (i : Int) (k : Nat) (e : i = (k : Nat)) (w : World) : Calls Try.prog 50 #[.int .i64 i] w fun e w' => e = .returned (.int .u64 (canW k : Nat)) ∧ w = w' := by
  subst e; exact canary_any k w
theorem canW_lt (a : Int) : canW a < 2 ^ 64 := by have := xor_range (IntKind.u64.wrap a) 54324593428463829; unfold canW; omega
/-- Behind Alloc. -/
def AllocPost (o : Own) (w : World) (r p : Nat) (S : ArS) (n : Nat) (e : Ending) (w' : World) : Prop :=
  (∀ T a, allocS S n = some (T, a) → e = .returned (.tuple #[.int .i64 (a : Nat), .int .i64 0]) ∧ ∃ o', Fr r (r + 15) o o' w w' ∧ ArenaRep o' w' r p T) ∧
  (allocS S n = none → e = .returned (.tuple #[.int .i64 0, .int .i64 2]) ∧ ∃ o', Fr r (r + 15) o o' w w' ∧ ArenaRep o' w' r p S)
set_option maxRecDepth 100000 in
set_option maxHeartbeats 1000000 in
theorem alloc_no {o : Own} {r p : Nat} {S : ArS} (n : Nat) (w : World) (ho : Owned o w) (A : ArenaRep o w r p S) (F : Fresh S) (h1 : 1 ≤ n) (hn : n ≤ 65536) (hT : tookS S n = none) :
    Calls Try.prog 23 #[.pointer (some ⟨p, 0, none⟩), .int .i64 (n : Nat)] w (AllocPost o w r p S n) := by
  have HS := Lib.hid (sizes_any n w h1 (by omega))
  have HT1 := Lib.hid (fun (o1 : Own) (w1 : World) (ho1 : Owned o1 w1) (A1 : ArenaRep o1 w1 r p S) => show Calls Try.prog 47 #[.pointer (some ⟨p, 0, none⟩), .int .i64 (classN n : Nat), .int .i64 (sizeN n : Nat)] w1 fun e w' => e = .returned (.tuple #[.int .i64 0, .bool false]) ∧ ∃ o', Fr r (r + 15) o1 o' w1 w' ∧ ArenaRep o' w' r p S from (atake_any n w1 ho1 A1 F hn).mono fun e w' h => h.2 hT)
  have HN : Hid (allocS S n = none) := Lib.hid (by unfold allocS; rw [hT]; rfl)
  have HTk := Lib.hid (HT1.out o w ho A)
  have n1 : (1 : Int) ≤ (n : Int) := by omega
  have n2 : (n : Int) ≤ 65536 := by omega
  have hnot : ∀ (x : Bool) (w : World), (Op.unary .not (.bool x)).run Try.prog w = .ok (.bool (!x)) w := fun _ _ => rfl
  clear A F hT ho
  generalize classN n = c at *
  generalize sizeN n = s at *
  go_enter Try.func23, Try.ntmps23
  go_wp2_with fail
  all_goals
    go_at_call 46
    refine HS.out.mono ?_
    rintro e w1 ⟨rfl, rfl⟩
    go_wp2_with fail
    go_at_call 47
    refine HTk.out.mono ?_
    rintro e w1 ⟨rfl, o1, F1, g, q, l, b, v, f, A1⟩
    have HTk2 := Lib.hid (HT1.out o1 w1 F1.fresh ⟨g, q, l, b, v, f, A1⟩)
    have HL := Lib.hid (lflush0 w1 A1.line)
    have c2 := A1.c2
    have HF1 := Lib.hid F1
    clear A1 F1
    go_wp2_with (first
      | (go_at_call 49; refine HL.out.mono ?_; rintro e w2 ⟨rfl, rfl⟩)
      | (go_at_call 48; refine (opens_nil _ _).mono ?_; rintro e w2 ⟨rfl, rfl⟩)
      | (go_at_call 47; refine HTk2.out.mono ?_; rintro e w2 ⟨rfl, o2, F2, A2⟩; have HF2 := Lib.hid F2; clear F2; have HA2 := Lib.hid A2; clear A2))
    go_ret2
    exact ⟨fun T a e => (by rw [HN.out] at e; cases e), fun _ => ⟨rfl, o2, HF1.out.trans HF2.out, HA2.out⟩⟩
end Go.Proofs.Ytlpklloagaccoaa
