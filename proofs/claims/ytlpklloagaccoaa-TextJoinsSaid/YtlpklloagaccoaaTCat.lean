/- text.Cat; texts in an engine, in plain words. Conditions: the engine is as one that was made. -/
import Derived.Test.YtlpklloagaccoaaCat
import Derived.Test.YtlpklloagaccoaaText2
import Derived.Test.YtlpklloagaccoaaStr
import Derived.Test.YtlpklloagaccoaaEngNew
import Derived.Outline
namespace Go.Proofs.Ytlpklloagaccoaa
open Go.RowKit
set_option linter.unusedVariables false

/-- One behind the other. -/
def joinF (n1 : Nat) (f1 f2 : Nat → Nat) (i : Nat) : Nat := if i < n1 then f1 i else f2 (i - n1)
def two (l1 l2 : List Int) (i : Nat) : List Int := if i = 0 then l1 else l2
theorem catN_two (n1 n2 : Nat) (f1 f2 : Nat → Nat) : catN (two (bytesL n1 f1) (bytesL n2 f2)) 2 = bytesL (n1 + n2) (joinF n1 f1 f2) := by
  show ([] ++ bytesL n1 f1) ++ bytesL n2 f2 = _
  rw [List.nil_append]
  refine List.ext_getElem (by simp [bytesL_length]) fun i h1 h2 => ?_
  rw [bytesL_length] at h2
  have e2 : (bytesL (n1 + n2) (joinF n1 f1 f2))[i]'(by rw [bytesL_length]; exact h2) = (joinF n1 f1 f2 i : Int) := by simp [bytesL]
  rw [e2]
  unfold joinF
  by_cases h : i < n1
  · rw [List.getElem_append_left (by rw [bytesL_length]; exact h), if_pos h]; simp [bytesL]
  · rw [List.getElem_append_right (by rw [bytesL_length]; omega), if_neg h]; simp [bytesL]
theorem BytesB.rd {w : World} {g n : Nat} {f : Nat → Nat} (h : BytesB w g n f) : RdS w w.heap.size .u8 (some ⟨g, 0, none⟩) n (bytesL n f) :=
  ⟨bytesL_length n f, fun _ => ⟨g, 0, rfl, h.lt, fun i hi => by rw [Nat.zero_add, h.cell hi, bytesL_getD n f hi]⟩⟩
theorem RowN.bsl {w0 : World} {o : Own} {w : World} {A : Option Addr} {n m cap : Nat} {f : Nat → Nat} (h : RowN 5 .u8 w0 o w (.slice A m cap) (bytesL n f)) (hf : ∀ i, i < n → f i < 256) : m = n ∧ BSl o w (.slice A n cap) n f := by
  obtain ⟨A', cap', e, hc, h4⟩ := h.form
  rw [bytesL_length] at e hc h4
  cases e
  refine ⟨rfl, _, _, rfl, hc, hf, ?_⟩
  rcases h4 with h4 | ⟨g, h5, h6, h7, _, h8⟩
  · exact .inl h4
  · exact .inr ⟨g, 0, h5, h6, .inl h7, fun i hi => by rw [Nat.zero_add, h8 i hi, bytesL_getD n f hi]⟩
/-- Behind both's two rows: Concat. -/
theorem concat_two {o : Own} {n1 n2 g1 g2 : Nat} {f1 f2 : Nat → Nat} {T : TypeId} (w : World) (ho : Owned o w) (B1 : BytesB w g1 n1 f1) (B2 : BytesB w g2 n2 f2) (h1 : n1 ≤ 4000) (h2 : n2 ≤ 4000) :
    Calls Try.prog 38 #[.slice (some ⟨w.heap.size, 0, none⟩) 2 2] (w.alloc (.cells #[.slice (some ⟨g1, 0, none⟩) n1 n1, .slice (some ⟨g2, 0, none⟩) n2 n2] T)) (CatPost 5 .u8 o (w.alloc (.cells #[.slice (some ⟨g1, 0, none⟩) n1 n1, .slice (some ⟨g2, 0, none⟩) n2 n2] T)) (bytesL (n1 + n2) (joinF n1 f1 f2))) := by
  have hA := (Fr.refl (lo := 0) (hi := 0) ho).alloc (.cells #[.slice (some ⟨g1, 0, none⟩) n1 n1, .slice (some ⟨g2, 0, none⟩) n2 n2] T)
  have hb := heap_alloc_new w (.cells #[.slice (some ⟨g1, 0, none⟩) n1 n1, .slice (some ⟨g2, 0, none⟩) n2 n2] T)
  have B1' := B1.of_eq (hA.block _ B1.lt (.inr (Nat.zero_le _)))
  have B2' := B2.of_eq (hA.block _ B2.lt (.inr (Nat.zero_le _)))
  generalize w.alloc (.cells #[.slice (some ⟨g1, 0, none⟩) n1 n1, .slice (some ⟨g2, 0, none⟩) n2 n2] T) = w2 at *
  rw [← catN_two]
  refine concat_B w.heap.size 2 2 (fun i => if i = 0 then some ⟨g1, 0, none⟩ else some ⟨g2, 0, none⟩) (fun i => if i = 0 then n1 else n2) (fun i => if i = 0 then n1 else n2) _ w2 hA.fresh (by omega) (fun i hi => ?_) (fun i hi => ?_) (by rw [catN_two, bytesL_length]; omega)
  · rcases (show i = 0 ∨ i = 1 by omega) with rfl | rfl
    · simp [World.cell?, hb]
    · simp [World.cell?, hb]
  · rcases (show i = 0 ∨ i = 1 by omega) with rfl | rfl
    · exact B1'.rd
    · exact B2'.rd
/-- Texts in an engine. -/
def Tx (o : Own) (w : World) (p N t : Nat) (ob : Int → Option Ob) : Prop := ∃ S, EngRep o w 1 p S ∧ S.L.ok = true ∧ S.L.n = N ∧ S.L.t ≤ t ∧ S.ob = ob
theorem Tx.keep {lo hi : Nat} {o o' : Own} {w w' : World} {p N t : Nat} {ob : Int → Option Ob} (h : Tx o w p N t ob) (k : Fr lo hi o o' w w') (hr : 30 ≤ lo ∨ hi ≤ 1) : Tx o' w' p N t ob :=
  let ⟨S, E, M⟩ := h; ⟨S, E.keep k (by omega), M⟩
theorem Tx.new {o : Own} {w : World} {p N : Nat} {lim : Int} (E : EngRep o w 1 p (newEng N lim)) : Tx o w p N 1 (fun _ => none) := ⟨_, E, rfl, rfl, Nat.le_refl _, rfl⟩
/-- Behind text.New and text.Cat. -/
def TxPost (o : Own) (w : World) (p N t d : Nat) (ob : Int → Option Ob) (n : Nat) (f : Nat → Nat) (e : Ending) (w' : World) : Prop :=
  ∃ (a : Nat) (o' : Own), e = .returned (.tuple #[.int .i64 (a : Nat), .int .i64 0]) ∧ Fr 1 30 o o' w w' ∧ Tx o' w' p N (t + d) (updI ob (a : Int) (some (textOb n f))) ∧ ob (a : Int) = none ∧ 64 ≤ a
section
variable {o : Own} {p N t d : Nat} {ob : Int → Option Ob}
theorem tx_new (A : Option Addr) (n cap : Nat) (f : Nat → Nat) (w0 w1 : World) (F : Fr 0 0 o o w0 w1) (X : Tx o w0 p N t ob) (hd : (8 + (n + 7) / 8 - 7) / 64 + 1 ≤ d) (ht : t + d ≤ N) (hn : n ≤ 4000) (B : BSl o w1 (.slice A n cap) n f) :
    Calls Try.prog 15 #[.pointer (some ⟨p, 0, none⟩), .slice A n cap] w1 (TxPost o w0 p N t d ob n f) := by
  obtain ⟨S, E, h1, h2, h3, h4⟩ := X
  have hw : wordsN 0 n = 1 + 2 * 0 + (n + 7) / 8 := rfl
  obtain ⟨L', a, hT, ht2, _⟩ := tookL_room S.L (wordsN 0 n) (by omega)
  refine (text_new A n cap f L' a w1 (by omega) (by omega) F.fresh (E.keep F (.inr (Nat.zero_le _))) h1 hn hT B).mono fun e w' hh => ?_
  obtain ⟨⟨k1, o', F', E'⟩, k2, k3, _, k5, k6⟩ := hh
  exact ⟨a, o', k1, (F.none 1 30).trans F', ⟨_, E', k5, k6.trans h2, by show L'.t ≤ _; omega, by rw [textA_ob, h4]⟩, by rw [← h4]; exact k2, k3⟩
theorem tx_bytes (h : Int) (n : Nat) (f : Nat → Nat) (w0 w1 : World) (F : Fr 0 0 o o w0 w1) (X : Tx o w0 p N t ob) (hx : ob h = some (textOb n f)) :
    Calls Try.prog 17 #[.pointer (some ⟨p, 0, none⟩), .int .i64 h] w1 (BytesPost o w1 n f) := by
  obtain ⟨S, E, h1, h2, h3, h4⟩ := X
  refine (text_bytes h (textOb n f) w1 F.fresh (E.keep F (.inr (Nat.zero_le _))) (by rw [h4]; exact hx) rfl).mono fun e w' hh => ?_
  obtain ⟨g, k1, k2, k3, k4⟩ := hh
  exact ⟨g, k1, k2, k3, k4.congr fun i hi => by show f i = if i < n then f i else _; exact (if_pos hi).symm⟩
theorem tx_both (h1 h2 : Int) (n1 n2 : Nat) (f1 f2 : Nat → Nat) (w0 w1 : World) (F : Fr 0 0 o o w0 w1) (X : Tx o w0 p N t ob) (hx1 : ob h1 = some (textOb n1 f1)) (hx2 : ob h2 = some (textOb n2 f2)) :
    Calls Try.prog 37 #[.pointer (some ⟨p, 0, none⟩), .int .i64 h1, .int .i64 h2] w1 (BothPost o w1 n1 f1 n2 f2) := by
  obtain ⟨S, E, _, _, _, h4⟩ := X
  refine (text_both h1 h2 (textOb n1 f1) (textOb n2 f2) w1 F.fresh (E.keep F (.inr (Nat.zero_le _))) (by rw [h4]; exact hx1) rfl (by rw [h4]; exact hx2) rfl).mono fun e w' hh => ?_
  obtain ⟨g1, g2, k1, k2, k3, k4, k5, k6⟩ := hh
  exact ⟨g1, g2, k1, k2, k3, k4, k5.congr fun i hi => by show f1 i = if i < n1 then f1 i else _; exact (if_pos hi).symm, k6.congr fun i hi => by show f2 i = if i < n2 then f2 i else _; exact (if_pos hi).symm⟩
set_option maxRecDepth 100000 in
theorem tx_cat (h1 h2 : Int) (n1 n2 : Nat) (f1 f2 : Nat → Nat) (w0 w1 : World) (F : Fr 0 0 o o w0 w1) (X : Tx o w0 p N t ob) (ht : t + 8 ≤ N) (hx1 : ob h1 = some (textOb n1 f1)) (hx2 : ob h2 = some (textOb n2 f2)) (hn : n1 + n2 ≤ 4000) (hf1 : ∀ i, i < n1 → f1 i < 256) (hf2 : ∀ i, i < n2 → f2 i < 256) :
    Calls Try.prog 16 #[.pointer (some ⟨p, 0, none⟩), .int .i64 h1, .int .i64 h2] w1 (TxPost o w0 p N t 8 ob (n1 + n2) (joinF n1 f1 f2)) := by
  have HB := Lib.hid (tx_both h1 h2 n1 n2 f1 f2 w0 w1 F X hx1 hx2)
  have HN := Lib.hid (fun (A : Option Addr) (cap : Nat) (w2 : World) (F2 : Fr 0 0 o o w0 w2) (B : BSl o w2 (.slice A (n1 + n2) cap) (n1 + n2) (joinF n1 f1 f2)) => tx_new A (n1 + n2) cap (joinF n1 f1 f2) w0 w2 F2 X (d := 8) (by omega) ht hn B)
  have HF := Lib.hid F
  have HJ := Lib.hid (fun (i : Nat) (hi : i < n1 + n2) => show joinF n1 f1 f2 i < 256 from by
    unfold joinF
    by_cases h : i < n1
    · rw [if_pos h]; exact hf1 i h
    · rw [if_neg h]; exact hf2 _ (by omega))
  have HL := Lib.hid hn
  clear X F hx1 hx2 hf1 hf2 hn ht
  go_enter Try.func16, Try.ntmps16
  go_wp2_with fail
  go_at_call 37
  refine HB.out.mono ?_
  rintro e w2 ⟨g1, g2, rfl, F2, l1, l2, B1, B2⟩
  have HF2 := Lib.hid (HF.out.trans F2)
  have HB1 := Lib.hid B1
  have HB2 := Lib.hid B2
  clear F2 B1 B2 l1 l2
  go_wp2_with fail
  go_at_call 38
  refine (concat_two w2 HF2.out.fresh HB1.out HB2.out (by have := HL.out; omega) (by have := HL.out; omega)).mono ?_
  rintro e w3 ⟨v3, rfl, F3, R3⟩
  have HF3 := Lib.hid ((HF2.out.alloc _).trans F3)
  obtain ⟨A3, cap3, rfl, _, _⟩ := R3.form
  have HS3 := Lib.hid (R3.bsl HJ.out).2
  rw [bytesL_length]
  clear F3 R3
  go_wp2_with fail
  go_at_call 15
  refine (HN.out A3 cap3 w3 HF3.out HS3.out).mono ?_
  rintro e w4 ⟨a, o4, rfl, F4, X4, hno, h64⟩
  have HX := Lib.hid (And.intro F4 (And.intro X4 (And.intro hno h64)))
  clear F4 X4 hno h64
  go_wp2_with fail
  go_ret2
  exact ⟨a, o4, rfl, HX.out⟩
set_option maxRecDepth 100000 in
theorem tx_catlong (h1 h2 : Int) (n1 n2 : Nat) (f1 f2 : Nat → Nat) (w0 w1 : World) (F : Fr 0 0 o o w0 w1) (X : Tx o w0 p N t ob) (hx1 : ob h1 = some (textOb n1 f1)) (hx2 : ob h2 = some (textOb n2 f2)) (hn : 4000 < n1 + n2) (l1 : n1 ≤ 4000) (l2 : n2 ≤ 4000) :
    Calls Try.prog 16 #[.pointer (some ⟨p, 0, none⟩), .int .i64 h1, .int .i64 h2] w1 fun e w' => e = .returned (.tuple #[.int .i64 0, .int .i64 9]) ∧ Fr 0 0 o o w0 w' := by
  have HB := Lib.hid (tx_both h1 h2 n1 n2 f1 f2 w0 w1 F X hx1 hx2)
  have HF := Lib.hid F
  have HL := Lib.hid (And.intro hn (And.intro l1 l2))
  clear X F hx1 hx2 hn l1 l2
  go_enter Try.func16, Try.ntmps16
  go_wp2_with fail
  go_at_call 37
  refine HB.out.mono ?_
  rintro e w2 ⟨g1, g2, rfl, F2, l1, l2, B1, B2⟩
  have HF2 := Lib.hid (HF.out.trans F2)
  have HB1 := Lib.hid B1
  have HB2 := Lib.hid B2
  clear F2 B1 B2 l1 l2
  go_wp2_with fail
  go_at_call 38
  refine (concat_two w2 HF2.out.fresh HB1.out HB2.out HL.out.2.1 HL.out.2.2).mono ?_
  rintro e w3 ⟨v3, rfl, F3, R3⟩
  have HF3 := Lib.hid ((HF2.out.alloc _).trans F3)
  obtain ⟨A3, cap3, rfl, _, _⟩ := R3.form
  rw [bytesL_length]
  clear F3 R3
  go_wp2_with fail
  go_at_call 15
  refine (text_long A3 (n1 + n2) cap3 w3 HL.out.1 (by have := HL.out; unfold maxLen; omega)).mono ?_
  rintro e w4 ⟨rfl, rfl⟩
  go_wp2_with fail
  go_ret2
  exact ⟨rfl, HF3.out⟩
end
end Go.Proofs.Ytlpklloagaccoaa
