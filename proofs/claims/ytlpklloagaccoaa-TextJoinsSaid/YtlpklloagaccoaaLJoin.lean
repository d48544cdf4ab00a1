/- The walk of TextJoins. No condition. -/
import Derived.Test.YtlpklloagaccoaaLaw16
namespace Go.Proofs.Ytlpklloagaccoaa
open Go.RowKit
set_option linter.unusedVariables false

theorem bytesL_join (n1 n2 : Nat) (f1 f2 : Nat → Nat) : bytesL n1 f1 ++ bytesL n2 f2 = bytesL (n1 + n2) (joinF n1 f1 f2) := by
  rw [← catN_two]
  show _ = ([] ++ bytesL n1 f1) ++ bytesL n2 f2
  rw [List.nil_append]
theorem strB_join (n1 n2 : Nat) (f1 f2 : Nat → Nat) : strB (n1 + n2) (joinF n1 f1 f2) = strB n1 f1 ++ strB n2 f2 := by
  unfold strB
  rw [← bytesL_join]
  apply ByteArray.ext
  rw [ByteArray.data_append]
  unfold strOfNums
  simp
theorem strB_size (n : Nat) (f : Nat → Nat) : (strB n f).size = n := by
  unfold strB
  rw [strOfNums_size, bytesL_length]
theorem sameS_self (a : ByteArray) : sameS a a = true := by
  unfold sameS
  exact beq_self_eq_true _
theorem conv_rd {w : World} {B : Nat} {A : Option Addr} {n : Nat} {f : Nat → Nat} (R : RdS w B .u8 A n (bytesL n f)) (cap : Nat) : (convert 36 9 (.slice A n cap)).run Try.prog w = .ok (.string (strB n f)) w := by
  by_cases h : 0 < n
  · obtain ⟨b, off, rfl, _, hc⟩ := R.2 h
    exact run_convert_bytes_arg w 36 5 Try.underlying36 Try.underlying5 b off n cap (bytesL n f) (bytesL_length n f) hc 9 Try.underlying9
  · obtain rfl : n = 0 := by omega
    cases A with
    | none => exact run_convert_bytes_nil w 36 5 Try.underlying36 Try.underlying5 0 cap 9 Try.underlying9
    | some x =>
      have hl : (loadCells x 0).run Try.prog w = .ok (([] : List Int).map (Value.int .u8)).toArray w := by
        simpa using run_loadCells_list (P := Try.prog) w x [] (fun j v hj => by simp at hj)
      rw [run_convert_bytes_string w 36 9 5 (some x) 0 cap Try.underlying36 Try.underlying5 Try.underlying9, run_bytesToString w _ 0 cap [] hl]
      rfl
/-- A slice of bytes that came in. -/
def inF (zs : List Int) (i : Nat) : Nat := (zs.getD i 0).toNat
theorem InSl.bytes {w : World} {a : Option Addr} {n cap : Nat} {zs : List Int} (h : InSl .u8 w a n cap zs) : RdS w w.heap.size .u8 a n (bytesL n (inF (zs.take n))) ∧ (∀ i, i < n → inF (zs.take n) i < 256) ∧ n ≤ cap := by
  obtain ⟨R, hw⟩ := h.rd
  have hb : ∀ i, i < n → 0 ≤ (zs.take n).getD i 0 ∧ (zs.take n).getD i 0 < 256 := fun i hi => wf_u8 (hw i hi)
  refine ⟨⟨bytesL_length _ _, fun h0 => ?_⟩, fun i hi => ?_, ?_⟩
  · obtain ⟨b, off, h1, h2, h3⟩ := R.2 h0
    refine ⟨b, off, h1, h2, fun i hi => ?_⟩
    rw [bytesL_getD _ _ hi, h3 i hi]
    unfold inF
    rw [Int.toNat_of_nonneg (hb i hi).1]
  · have := hb i hi
    unfold inF
    omega
  · rcases h with ⟨_, rfl, _, _⟩ | ⟨_, _, h1, _⟩
    · exact Nat.zero_le _
    · exact h1
theorem BSl.came {w w' : World} {o : Own} {a : Option Addr} {n cap : Nat} {f : Nat → Nat} (R : RdS w w.heap.size .u8 a n (bytesL n f)) (hf : ∀ i, i < n → f i < 256) (hc : n ≤ cap) (F : LF w o w') : BSl o w' (.slice a n cap) n f := by
  refine ⟨a, cap, rfl, hc, hf, ?_⟩
  by_cases h : 0 < n
  · obtain ⟨b, off, h1, h2, h3⟩ := (R.lf F).2 h
    refine .inr ⟨b, off, h1, Nat.lt_of_lt_of_le h2 F.size, .inr ?_, fun i hi => by rw [h3 i hi, bytesL_getD _ _ hi]⟩
    rw [F.own b h2]
    exact if_pos h2
  · exact .inl (by omega)
theorem tx_same {o : Own} {p N t : Nat} {ob : Int → Option Ob} (h1 h2 : Int) (n1 n2 : Nat) (f1 f2 : Nat → Nat) (w0 w1 : World) (F : Fr 0 0 o o w0 w1) (X : Tx o w0 p N t ob) (hx1 : ob h1 = some (textOb n1 f1)) (hx2 : ob h2 = some (textOb n2 f2)) :
    Calls Try.prog 18 #[.pointer (some ⟨p, 0, none⟩), .int .i64 h1, .int .i64 h2] w1 fun e w' => e = .returned (.tuple #[.bool (sameS (strB n1 f1) (strB n2 f2)), .int .i64 0]) ∧ Fr 0 0 o o w0 w' := by
  obtain ⟨S, E, _, _, _, h4⟩ := X
  refine (text_same h1 h2 (textOb n1 f1) (textOb n2 f2) w1 F.fresh (E.keep F (.inr (Nat.zero_le _))) (by rw [h4]; exact hx1) rfl (by rw [h4]; exact hx2) rfl).mono fun e w' hh => ⟨?_, F.trans hh.2⟩
  have e1 : strB (textOb n1 f1).raw (textOb n1 f1).byte = strB n1 f1 := strB_congr fun i hi => if_pos hi
  have e2 : strB (textOb n2 f2).raw (textOb n2 f2).byte = strB n2 f2 := strB_congr fun i hi => if_pos hi
  rw [hh.1, e1, e2]
theorem BytesB.fr {lo hi : Nat} {o o' : Own} {w w' : World} {g n : Nat} {f : Nat → Nat} (B : BytesB w g n f) (hg : o g = 0) (F : Fr lo hi o o' w w') (h : 0 < lo ∨ hi = 0) : BytesB w' g n f :=
  B.of_eq (F.block g B.lt (by rw [hg]; omega))
set_option maxRecDepth 100000 in
theorem joins_out (a0 a1 : Option Addr) (n1 c1 n2 c2 : Nat) (w : World) (h : 2000 < (n1 : Int) ∨ 2000 < (n2 : Int)) :
    Calls Try.prog 4 #[.slice a0 n1 c1, .slice a1 n2 c2] w fun e w' => e = .returned (.bool true) ∧ Below w.heap.size w w' := by
  have HA := Lib.hid (alive16 w)
  have hn : 2000 < (n1 : Int) ∨ (¬ 2000 < (n1 : Int) ∧ 2000 < (n2 : Int)) := by omega
  clear h
  rcases hn with h0 | ⟨h0, h3⟩
  all_goals
    go_enter Try.func4, Try.ntmps4
    go_wp2_with fail
    go_at_call 13
    refine HA.out.mono ?_
    rintro e w1 ⟨rfl, hb⟩
    have HB := Lib.hid hb
    clear hb
    go_wp2_with fail
    go_ret
    exact ⟨rfl, HB.out⟩
set_option maxRecDepth 100000 in
set_option maxHeartbeats 4000000 in
theorem joins_in (a0 a1 : Option Addr) (n1 c1 n2 c2 : Nat) (f1 f2 : Nat → Nat) (w : World) (hn1 : n1 ≤ 2000) (hn2 : n2 ≤ 2000) (R1 : RdS w w.heap.size .u8 a0 n1 (bytesL n1 f1)) (hf1 : ∀ i, i < n1 → f1 i < 256) (hc1 : n1 ≤ c1) (R2 : RdS w w.heap.size .u8 a1 n2 (bytesL n2 f2)) (hf2 : ∀ i, i < n2 → f2 i < 256) (hc2 : n2 ≤ c2) :
    Calls Try.prog 4 #[.slice a0 n1 c1, .slice a1 n2 c2] w fun e w' => e = .returned (.bool true) ∧ Below w.heap.size w w' := by
  have HA := Lib.hid (alive16 w)
  have HN := Lib.hid (fun (o : Own) (w1 : World) (ho : Owned o w1) => show Calls Try.prog 14 #[.int .i64 60, .int .i64 0, .int .i64 100] w1 (EngNew o w1 1 60 100) from eng_new 1 60 100 w1 ho (by omega) (by omega) (by omega) (by omega))
  have h0 : ¬ 2000 < (n1 : Int) := by omega
  have h1 : ¬ 2000 < (n2 : Int) := by omega
  have HL := Lib.hid (And.intro hn1 hn2)
  have HR1 := Lib.hid R1
  have HR2 := Lib.hid R2
  have HS1 := Lib.hid (fun (o : Own) (w' : World) (F : LF w o w') => BSl.came R1 hf1 hc1 F)
  have HS2 := Lib.hid (fun (o : Own) (w' : World) (F : LF w o w') => BSl.came R2 hf2 hc2 F)
  have HV1 := Lib.hid (fun (o : Own) (w' : World) (F : LF w o w') => conv_rd (R1.lf F) c1)
  have HV2 := Lib.hid (fun (o : Own) (w' : World) (F : LF w o w') => conv_rd (R2.lf F) c2)
  have HB := Lib.hid (And.intro hf1 hf2)
  have HJ := Lib.hid (fun (i : Nat) (hi : i < n1 + n2) => show joinF n1 f1 f2 i < 256 from by
    unfold joinF
    by_cases h : i < n1
    · rw [if_pos h]; exact hf1 i h
    · rw [if_neg h]; exact hf2 _ (by omega))
  clear R1 R2 hf1 hf2 hc1 hc2 hn1 hn2
  go_enter Try.func4, Try.ntmps4
  go_wp2_with fail
  go_at_call 13
  refine HA.out.mono ?_
  rintro e w1 ⟨rfl, hb⟩
  have HF1 := Lib.hid (LF.of_below hb)
  clear hb
  go_wp2_with fail
  go_at_call 14
  refine (HN.out _ _ HF1.out.fresh).mono ?_
  rintro e w2 ⟨p, o2, rfl, F2, E2⟩
  have HF2 := Lib.hid (HF1.out.fr F2 (by omega))
  have HX2 := Lib.hid (Tx.new E2)
  clear F2 E2
  go_wp2_with fail
  go_at_call 15
  refine (tx_new a0 n1 c1 f1 w2 _ (d := 8) (Fr.refl HF2.out.fresh) HX2.out (by have := HL.out; omega) (by omega) (by have := HL.out; omega) (HS1.out _ _ HF2.out)).mono ?_
  rintro e w3 ⟨x, o3, rfl, F3, X3, _, _⟩
  have HF3 := Lib.hid (HF2.out.fr F3 (by omega))
  have HX3 := Lib.hid X3
  clear F3 X3
  go_wp2_with fail
  go_at_call 15
  refine (tx_new a1 n2 c2 f2 w3 _ (d := 8) (Fr.refl HF3.out.fresh) HX3.out (by have := HL.out; omega) (by omega) (by have := HL.out; omega) (HS2.out _ _ HF3.out)).mono ?_
  rintro e w4 ⟨y, o4, rfl, F4, X4, hy, _⟩
  have HF4 := Lib.hid (HF3.out.fr F4 (by omega))
  have hxy : (x : Int) ≠ (y : Int) := fun e => by
    rw [← e] at hy
    unfold updI at hy
    rw [if_pos rfl] at hy
    cases hy
  generalize hob : updI (updI (fun _ => none) (x : Int) (some (textOb n1 f1))) (y : Int) (some (textOb n2 f2)) = ob at X4
  have hox : ob (x : Int) = some (textOb n1 f1) := by
    rw [← hob]
    unfold updI
    rw [if_neg hxy, if_pos rfl]
  have hoy : ob (y : Int) = some (textOb n2 f2) := by
    rw [← hob]
    exact if_pos rfl
  have HX4 := Lib.hid X4
  have HO := Lib.hid (And.intro hox hoy)
  clear F4 X4 hy hxy hob hox hoy
  go_wp2_with fail
  go_at_call 16
  refine (tx_cat (x : Int) (y : Int) n1 n2 f1 f2 w4 _ (Fr.refl HF4.out.fresh) HX4.out (by omega) HO.out.1 HO.out.2 (by have := HL.out; omega) HB.out.1 HB.out.2).mono ?_
  rintro e w5 ⟨z, o5, rfl, F5, X5, hz, _⟩
  have HF5 := Lib.hid (HF4.out.fr F5 (by omega))
  have hxz : (x : Int) ≠ (z : Int) := fun e => by rw [← e, HO.out.1] at hz; cases hz
  have hyz : (y : Int) ≠ (z : Int) := fun e => by rw [← e, HO.out.2] at hz; cases hz
  generalize hob2 : updI ob (z : Int) (some (textOb (n1 + n2) (joinF n1 f1 f2))) = ob2 at X5
  have hox : ob2 (x : Int) = some (textOb n1 f1) := by rw [← hob2]; exact (if_neg hxz).trans HO.out.1
  have hoy : ob2 (y : Int) = some (textOb n2 f2) := by rw [← hob2]; exact (if_neg hyz).trans HO.out.2
  have hoz : ob2 (z : Int) = some (textOb (n1 + n2) (joinF n1 f1 f2)) := by rw [← hob2]; exact if_pos rfl
  have HX5 := Lib.hid X5
  have HO2 := Lib.hid (And.intro hox (And.intro hoy hoz))
  clear F5 X5 hz hxz hyz hob2 hox hoy hoz
  go_wp2_with fail
  go_at_call 17
  refine (tx_bytes (z : Int) (n1 + n2) (joinF n1 f1 f2) w5 _ (Fr.refl HF5.out.fresh) HX5.out HO2.out.2.2).mono ?_
  rintro e w6 ⟨g, rfl, F6, hg, B6⟩
  have HF6 := Lib.hid (HF5.out.fr F6 (by omega))
  have HX6 := Lib.hid (HX5.out.keep F6 (.inr (by omega)))
  have HB6 := Lib.hid B6
  have HG := Lib.hid (HF5.out.fresh g hg)
  clear F6 B6 hg
  go_wp2_with (first
    | (at_builtin; refine wpList_append_N _ rfl _ _ _ rfl Try.underlying36 elU8 (by omega) (w0 := w6) (o0 := o5) (own := o5) (lo := 0) (hi := 0) (Fr.refl HF6.out.fresh) rfl (RowN.nil _ _ w6 o5 w6) rfl (HR1.out.lf HF6.out) (by have := HL.out; simp; omega) ?_; intro v7 w7 F7 R7; have HF7 := Lib.hid F7; have HR7 := Lib.hid R7; clear F7 R7)
    | (at_builtin; refine wpList_append_N _ rfl _ _ _ rfl Try.underlying36 elU8 (by omega) (w0 := w6) (o0 := o5) (own := o5) (lo := 0) (hi := 0) HF7.out rfl HR7.out rfl (HR2.out.lf (HF6.out.fr HF7.out (by omega))) (by have := HL.out; rw [List.nil_append, bytesL_length]; omega) ?_; intro v8 w8 F8 R8; rw [List.nil_append, bytesL_join] at R8; obtain ⟨A8, cap8, e8, _, _⟩ := R8.form; subst e8; have HF8 := Lib.hid F8; have HS8 := Lib.hid (R8.bsl HJ.out).2; rw [bytesL_length] at *; clear F8 R8))
  go_wp2_with fail
  go_at_call 15
  refine (tx_new A8 (n1 + n2) cap8 (joinF n1 f1 f2) w6 _ (d := 8) HF8.out HX6.out (by have := HL.out; omega) (by omega) (by have := HL.out; omega) HS8.out).mono ?_
  rintro e w9 ⟨v, o9, rfl, F9, X9, hv, _⟩
  have HF9 := Lib.hid (HF6.out.fr F9 (by omega))
  have HB9 := Lib.hid (HB6.out.fr HG.out F9 (.inl (by omega)))
  have hxv : (x : Int) ≠ (v : Int) := fun e => by rw [← e, HO2.out.1] at hv; cases hv
  have hyv : (y : Int) ≠ (v : Int) := fun e => by rw [← e, HO2.out.2.1] at hv; cases hv
  have hzv : (z : Int) ≠ (v : Int) := fun e => by rw [← e, HO2.out.2.2] at hv; cases hv
  generalize hob3 : updI ob2 (v : Int) (some (textOb (n1 + n2) (joinF n1 f1 f2))) = ob3 at X9
  have hox : ob3 (x : Int) = some (textOb n1 f1) := by rw [← hob3]; exact (if_neg hxv).trans HO2.out.1
  have hoy : ob3 (y : Int) = some (textOb n2 f2) := by rw [← hob3]; exact (if_neg hyv).trans HO2.out.2.1
  have hoz : ob3 (z : Int) = some (textOb (n1 + n2) (joinF n1 f1 f2)) := by rw [← hob3]; exact (if_neg hzv).trans HO2.out.2.2
  have hov : ob3 (v : Int) = some (textOb (n1 + n2) (joinF n1 f1 f2)) := by rw [← hob3]; exact if_pos rfl
  have HX9 := Lib.hid X9
  have HO3 := Lib.hid (And.intro hox (And.intro hoy (And.intro hoz hov)))
  have HG9 := Lib.hid (show o9 g = 0 by rw [F9.own g HB6.out.lt]; exact HG.out)
  have HZV := Lib.hid hzv
  clear F9 X9 hv hxv hyv hzv hob3 hox hoy hoz hov
  go_wp2_with fail
  go_at_call 18
  refine (tx_same (z : Int) (v : Int) _ _ _ _ w9 _ (Fr.refl HF9.out.fresh) HX9.out HO3.out.2.2.1 HO3.out.2.2.2).mono ?_
  rw [sameS_self]
  rintro e w10 ⟨rfl, F10⟩
  have HF10 := Lib.hid F10
  clear F10
  go_wp2_with fail
  go_at_call 18
  refine (tx_same (x : Int) (y : Int) _ _ _ _ w9 _ HF10.out HX9.out HO3.out.1 HO3.out.2.1).mono ?_
  rintro e w11 ⟨rfl, F11⟩
  have HF11 := Lib.hid (HF9.out.fr F11 (by omega))
  have ka := HV1.out _ _ HF11.out
  have kb := HV2.out _ _ HF11.out
  have kz := (HB9.out.fr HG9.out F11 (.inr rfl)).conv (n1 + n2)
  rw [strB_join] at kz
  have hne : ((z : Int) != (v : Int)) = true := by simpa using HZV.out
  have hsz : ¬ 9223372036854775807 < (strB n1 f1).size + (strB n2 f2).size := by
    rw [strB_size, strB_size]
    have := HL.out
    omega
  clear F11
  generalize strB n1 f1 = s1 at *
  generalize strB n2 f2 = s2 at *
  have hss : sameS s1 s2 = (s1.toList == s2.toList) := rfl
  generalize sameS s1 s2 = bb at *
  go_wp2_with (go_at_call 19; refine (num16 _ _).mono ?_; rintro e w' ⟨rfl, rfl⟩)
  go_ret
  exact ⟨rfl, HF11.out.tob⟩
theorem joins_walk (a0 : Option Addr) (len0 cap0 : Nat) (z0 : List Int) (a1 : Option Addr) (len1 cap1 : Nat) (z1 : List Int) (w : World) (w0 : InSl .u8 w a0 len0 cap0 z0) (w1 : InSl .u8 w a1 len1 cap1 z1) :
    Calls Try.prog 4 #[.slice a0 len0 cap0, .slice a1 len1 cap1] w fun e w' => e = .returned (.bool true) ∧ Below w.heap.size w w' := by
  by_cases h : 2000 < (len0 : Int) ∨ 2000 < (len1 : Int)
  · exact joins_out a0 a1 len0 cap0 len1 cap1 w h
  · obtain ⟨r1, r2, r3⟩ := w0.bytes
    obtain ⟨s1, s2, s3⟩ := w1.bytes
    exact joins_in a0 a1 len0 cap0 len1 cap1 _ _ w (by omega) (by omega) r1 r2 r3 s1 s2 s3
end Go.Proofs.Ytlpklloagaccoaa
