/- The laws of texts: what they have in common (num, alive). No condition. -/
import Derived.Test.YtlpklloagaccoaaTCat
import Derived.Lib.SlBytesConst
import Derived.Outline
namespace Go.Proofs.Ytlpklloagaccoaa
open Go.RowKit
set_option linter.unusedVariables false

theorem num16 (n : Int) (w : World) : Calls Try.prog 19 #[.int .i64 n] w fun e w' => e = .returned (.int .i64 n) ∧ w = w' := by
  go_enter Try.func19, Try.ntmps19
  go_wp2
  go_ret
  exact ⟨rfl, rfl⟩
theorem BytesB.bsl {o : Own} {w : World} {g n : Nat} {f : Nat → Nat} (h : BytesB w g n f) (hg : o g = 0) (hf : ∀ i, i < n → f i < 256) : BSl o w (.slice (some ⟨g, 0, none⟩) n n) n f :=
  ⟨_, _, rfl, Nat.le_refl _, hf, .inr ⟨g, 0, rfl, h.lt, .inl hg, fun i hi => by rw [Nat.zero_add]; exact h.cell hi⟩⟩
theorem BSl.one {o : Own} (w : World) (ho : Owned o w) (x : Nat) (hx : x < 256) (T : TypeId) (fz : Nat × Nat) {a : Nat} (ha : a = w.heap.size) : BSl o (w.alloc (.cells #[.int .u8 (x : Nat)] T fz)) (.slice (some ⟨a, 0, none⟩) 1 1) 1 (fun _ => x) := by
  subst ha
  have hb := heap_alloc_new w (.cells #[.int .u8 (x : Nat)] T fz)
  generalize w.alloc (.cells #[.int .u8 (x : Nat)] T fz) = w2 at *
  refine ⟨_, _, rfl, Nat.le_refl _, fun _ _ => hx, .inr ⟨w.heap.size, 0, rfl, lt_of_block hb, .inl (ho _ (Nat.le_refl _)), fun i hi => ?_⟩⟩
  obtain rfl : i = 0 := by omega
  simp [World.cell?, hb]
theorem strB_one : strB 1 (fun _ => 97) = ⟨#[97]⟩ := by decide
set_option maxRecDepth 100000 in
set_option maxHeartbeats 1000000 in
theorem alive16 (w : World) : Calls Try.prog 13 #[] w fun e w' => e = .returned (.bool true) ∧ Below w.heap.size w w' := by
  have HN := Lib.hid (show Calls Try.prog 14 #[.int .i64 4, .int .i64 0, .int .i64 10] w (EngNew (Own.base w) w 1 4 10) from eng_new 1 4 10 w (Own.base_owned w) (by omega) (by omega) (by omega) (by omega))
  go_enter Try.func13, Try.ntmps13
  go_wp2_with fail
  go_at_call 14
  refine HN.out.mono ?_
  rintro e w1 ⟨p, o1, rfl, F1, E1⟩
  have HF1 := Lib.hid ((LF.start w).fr F1 (by omega))
  have HX1 := Lib.hid (Tx.new E1)
  clear F1 E1
  have kc := fun (w : World) (C : Array Value) (n c : Nat) => Lib.run_convert_bytes_const (P := Try.prog) w 36 5 C n c Try.underlying36 Try.underlying5
  go_wp2_with fail
  go_at_call 15
  refine (tx_new _ 1 1 (fun _ => 97) w1 _ (d := 1) ((Fr.refl HF1.out.fresh).alloc _) HX1.out (by decide) (by omega) (by omega) (BSl.one w1 HF1.out.fresh 97 (by omega) _ _ rfl)).mono ?_
  rintro e w2 ⟨a, o2, rfl, F2, X2, _, _⟩
  have HF2 := Lib.hid (HF1.out.fr F2 (by omega))
  have HX2 := Lib.hid X2
  clear F2 X2
  go_wp2_with fail
  go_at_call 17
  refine (tx_bytes _ 1 (fun _ => 97) w2 _ (Fr.refl HF2.out.fresh) HX2.out (if_pos rfl)).mono ?_
  rintro e w3 ⟨g, rfl, F3, hg, B3⟩
  have HF3 := Lib.hid (HF2.out.fr F3 (by omega))
  have hcv := B3.conv 1
  rw [strB_one] at hcv
  clear F3 hg B3
  go_wp2_with (go_at_call 19; refine (num16 _ _).mono ?_; rintro e w' ⟨rfl, rfl⟩)
  go_ret
  exact ⟨rfl, HF3.out.tob⟩
end Go.Proofs.Ytlpklloagaccoaa
