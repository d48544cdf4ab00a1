/- The walk of DictTexts. No condition. -/
import Derived.Test.YtlpklloagaccoaaGreatLDText
namespace Go.Proofs.YtlpklloagaccoaaGreat
open Go.RowKit
set_option linter.unusedVariables false

set_option maxRecDepth 100000 in
theorem dtexts_out (a : Option Addr) (len cap : Nat) (w : World) (h : 30 < (len : Int)) :
    Calls Tryz.prog 9 #[.slice a len cap] w fun e w' => e = .returned (.bool true) ∧ Below w.heap.size w w' := by
  have HA := Lib.hid (alive18 w)
  go_enter Tryz.func9, Tryz.ntmps9
  go_wp2_with fail
  go_at_call 40
  refine HA.out.mono ?_
  rintro e w1 ⟨rfl, hb⟩
  have HB := Lib.hid hb
  clear hb
  go_wp2_with fail
  go_ret
  exact ⟨rfl, HB.out⟩
set_option maxRecDepth 100000 in
set_option maxHeartbeats 8000000 in
theorem dtexts_in (a : Option Addr) (len cap : Nat) (A : Nat → Option Addr) (L C : Nat → Nat) (Z : Nat → List Int) (w : World) (hlen : len ≤ 30) (H : InRs w a len A L C Z) :
    Calls Tryz.prog 9 #[.slice a len cap] w fun e w' => e = .returned (.bool true) ∧ Below w.heap.size w w' := by
  have HA := Lib.hid (alive18 w)
  have HN := Lib.hid (fun (o : Own) (w1 : World) (ho : Owned o w1) => show Calls Tryz.prog 27 #[.int .i64 100, .int .i64 0, .int .i64 1000] w1 (EngNew o w1 1 100 1000) from eng_new 1 100 1000 w1 ho (by omega) (by omega) (by omega) (by omega))
  have h1 : ¬ 30 < (len : Int) := by omega
  have HL0 := Lib.hid hlen
  have HI := Lib.hid H
  clear hlen H
  go_enter Tryz.func9, Tryz.ntmps9
  go_wp2_with fail
  go_at_call 40
  refine HA.out.mono ?_
  rintro e w1 ⟨rfl, hb⟩
  have HF1 := Lib.hid (LF.of_below hb)
  clear hb
  go_wp2_with fail
  go_at_call 27
  refine (HN.out _ _ HF1.out.fresh).mono ?_
  rintro e w2 ⟨p, o2, rfl, F2, E2⟩
  have HF2 := Lib.hid (HF1.out.fr F2 (by omega))
  have HE2 := Lib.hid E2
  clear F2 E2
  go_wp2_with fail
  go_at_call 41
  refine (dt_new HF2.out.fresh HE2.out).mono ?_
  rintro e w3 ⟨d, o3, rfl, F3, D3⟩
  have HF3 := Lib.hid (HF2.out.fr F3 (by omega))
  have HD3 := Lib.hid D3
  clear F3 D3
  go_wp2_with (go_at_call 43; refine (num18 _ _).mono ?_; rintro e w' ⟨rfl, rfl⟩)
  go_loopw [7, 8] (fun kv iv wr => ∃ (i : Nat) (ss : List ByteArray) (vs : Nat → Nat × Int) (o' : Own), i ≤ len ∧ iv = .int .i64 i ∧ LF w o' wr ∧ DT o' wr p (d : Int) ss vs (2 * i) ∧ RowS 9 1 w o' wr kv ss.length (ss.map .string) ∧ ss.length ≤ i) (fun _ iv _ => len - (intOf iv).toNat)
  case atStart => exact ⟨0, [], _, o3, by omega, rfl, HF3.out, HD3.out, RowS.nil _ _ _ _ _, Nat.le_refl _⟩
  case round =>
    obtain ⟨i, ss, vs, oi, hi, rfl, Fi, Di, Ri, hsl⟩ := hrel
    have HFi := Lib.hid Fi
    have HDi := Lib.hid Di
    have HRi := Lib.hid Ri
    have HSi := Lib.hid hsl
    clear Fi Di Ri hsl
    by_cases hin : i < len
    · have hin' : (i : Int) < (len : Int) := by omega
      have hi0 : (0 : Int) ≤ (i : Int) := by omega
      obtain ⟨b, off, ha, hb, hcell, hsl⟩ := HI.out.at_ hin
      subst ha
      have HCl := Lib.hid (fun (o' : Own) (w' : World) (F : LF w o' w') => (World.cell?_of_block (a := ⟨b, off + i, none⟩) (F.old hb)).trans hcell)
      have hc := HCl.out _ _ HFi.out
      obtain ⟨Rb, hf, hcap⟩ := hsl.bytes
      by_cases hL : 50 < (L i : Int)
      · go_wp2_with fail
        go_ret
        exact ⟨rfl, HFi.out.tob⟩
      · have hLn : L i ≤ 50 := by omega
        obtain ⟨f, hfd⟩ : ∃ f, f = inF ((Z i).take (L i)) := ⟨_, rfl⟩
        rw [← hfd] at Rb hf
        have HBs := Lib.hid (fun (o' : Own) (w' : World) (F : LF w o' w') => BSl.came Rb hf hcap F)
        have HCv := Lib.hid (fun (o' : Own) (w' : World) (F : LF w o' w') => conv_rd (Rb.lf F) (C i))
        have HLn := Lib.hid (And.intro hLn hin)
        obtain ⟨t, ht⟩ : ∃ t, t = strB (L i) f := ⟨_, rfl⟩
        rw [← ht] at HCv
        have HT := Lib.hid ht
        clear hfd Rb hf hcap hLn ht hsl hcell hi hin
        go_wp2_with fail
        go_at_call 37
        refine (dt_text (A i) (L i) (C i) f wr _ (by repeat (first | exact Fr.refl HFi.out.fresh | refine Fr.drew ?_ | refine Fr.alloc ?_ _)) HDi.out HLn.out.1 (by have := HLn.out; have := HL0.out; omega) (by have := HSi.out; have := HLn.out; have := HL0.out; omega) (HBs.out _ _ HFi.out)).mono ?_
        rw [← HT.out]
        rintro e w5 ⟨x, o5, rfl, F5, X5⟩
        have HF5 := Lib.hid (HFi.out.fr F5 (by omega))
        have HX5 := Lib.hid X5
        have HR5 := Lib.hid (HRi.out.keep F5 (.inl (by omega)))
        clear F5 X5 hc
        go_wp2_with fail
        go_at_call 44
        refine (dt_put (i : Int) w5 _ (by repeat (first | exact Fr.refl HF5.out.fresh | refine Fr.drew ?_ | refine Fr.alloc ?_ _)) HX5.out (by have := HLn.out; have := HL0.out; unfold in64; omega) (by have := HSi.out; have := HLn.out; have := HL0.out; omega) (by have := HLn.out; have := HL0.out; omega)).mono ?_
        rintro e w6 ⟨j, o6, hj, rfl, F6, hcase⟩
        have HF6 := Lib.hid (HF5.out.fr F6 (by omega))
        have HR6 := Lib.hid (HR5.out.keep F6 (.inl (by omega)))
        have HJ := Lib.hid (And.intro hj hcase)
        clear F6 hj hcase
        obtain ⟨Ak, capk, hvk, hck⟩ := HR6.out.strs
        subst hvk
        have HK6 := Lib.hid hck
        have hss30 : (ss.length : Int) ≤ 30 := by have := HSi.out; have := HLn.out; have := HL0.out; omega
        clear hck
        go_wp2_with (go_at_call 43; refine (num18 _ _).mono ?_; rintro e w' ⟨rfl, rfl⟩)
        go_loopw [11, 12] (fun hv kv wq => ∃ (k : Nat), k ≤ ss.length ∧ kv = .int .i64 k ∧ hv = .bool (hadS ss t k) ∧ Fr 0 0 o6 o6 w6 wq) (fun _ kv _ => ss.length - (intOf kv).toNat)
        case atStart => exact ⟨0, by omega, rfl, by rw [hadS_zero], Fr.refl HF6.out.fresh⟩
        case round =>
          obtain ⟨k, hk, rfl, rfl, Fk⟩ := hrel
          have HFk := Lib.hid Fk
          by_cases hkn : k < ss.length
          · have hkn' : (k : Int) < (ss.length : Int) := by omega
            have hk0 : (0 : Int) ≤ (k : Int) := by omega
            obtain ⟨g, hg, hgl, hcg⟩ := HK6.out k hkn
            subst hg
            have hcg' : wr.cell? ⟨g, k, none⟩ = some (.string (ssAt ss k)) := (World.cell?_of_block (a := ⟨g, k, none⟩) (Fk.block g hgl (.inr (Nat.zero_le _)))).trans hcg
            have hci := HCl.out _ _ (HF6.out.fr Fk (by omega))
            have hcv := HCv.out _ _ (HF6.out.fr Fk (by omega))
            have hsu := hadS_succ ss t k
            have HKn := Lib.hid (And.intro hkn hsu)
            clear Fk hcg hk hkn hsu
            have hcv' : ∀ q, (convert 42 9 (.slice (A i) (L i) (C i))).run Tryz.prog (wr.drewN q) = .ok (.string t) (wr.drewN q) := fun q => HCv.out _ _ ((HF6.out.fr HFk.out (by omega)).drewN q)
            generalize hadS ss t k = bb at *
            cases bb with
            | true =>
              go_wp2_with fail
              go_quiet (fail)
              go_wp2_with fail
              exact ⟨⟨k + 1, by have := HKn.out; omega, by go_num, by rw [HKn.out.2]; rfl, HFk.out.drewN _⟩, by have := HKn.out; simp [intOf]; omega⟩
            | false =>
              go_wp2_with fail
              go_quiet (fail)
              go_wp2_with fail
              exact ⟨⟨k + 1, by have := HKn.out; omega, by go_num, by rw [HKn.out.2]; rfl, HFk.out.drewN _⟩, by have := HKn.out; simp [intOf]; omega⟩
          · have hkn' : ¬ (k : Int) < (ss.length : Int) := by omega
            obtain rfl : k = ss.length := by omega
            have HR7 := Lib.hid (HR6.out.keep Fk (.inr rfl))
            have HF7 := Lib.hid (HF6.out.fr Fk (by omega))
            rw [HJ.out.1.had]
            rcases HJ.out.2 with ⟨hjn, hD⟩ | ⟨hjn, hD⟩
            · have HD7 := Lib.hid (hD.keep Fk (.inr (by omega)))
              have HFn := Lib.hid HJ.out.1
              have HJn := Lib.hid hjn
              have hc := HCl.out _ _ HF7.out
              rw [decide_eq_true hjn]
              clear hD Fk hk hkn hjn
              go_wp2_with fail
              go_at_call 37
              refine (dt_text (A i) (L i) (C i) f wr _ (by repeat (first | exact Fr.refl HF7.out.fresh | refine Fr.drew ?_ | refine Fr.alloc ?_ _)) HD7.out HLn.out.1 (by have := HLn.out; have := HL0.out; omega) (by omega) (HBs.out _ _ HF7.out)).mono ?_
              rw [← HT.out]
              rintro e w9 ⟨y, o9, rfl, F9, Y9⟩
              have HF9 := Lib.hid (HF7.out.fr F9 (by omega))
              have HY9 := Lib.hid Y9
              have HR9 := Lib.hid (HR7.out.keep F9 (.inl (by omega)))
              clear F9 Y9 hc
              go_wp2_with fail
              go_at_call 42
              refine (dt_get w9 _ (by repeat (first | exact Fr.refl HF9.out.fresh | refine Fr.drew ?_ | refine Fr.alloc ?_ _)) HY9.out).mono ?_
              rintro e w10 ⟨j', hj', rfl, F10⟩
              have hjj := hj'.one HFn.out
              subst hjj
              have hga : getA (updF vs j' (1, (i : Int))) ss.length j' = .tuple #[valV 1 (i : Int), .int .i64 0] := by
                unfold getA
                rw [if_pos (by exact HJn.out)]
                unfold updF
                rw [if_pos rfl]
                rfl
              rw [hga]
              have HF10 := Lib.hid (HF9.out.fr F10 (by omega))
              have HD10 := Lib.hid (HY9.out.dt.keep F10 (.inr (by omega)))
              have HR10 := Lib.hid (HR9.out.keep F10 (.inr rfl))
              clear F10 hj' hga
              go_wp2_with fail
              go_at_call 46
              refine (dt_len _ _ (Fr.refl (HF10.out.alloc _).fresh) (HD10.out.keep (lo := 0) (hi := 0) ((Fr.refl HF10.out.fresh).alloc _) (.inr (by omega)))).mono ?_
              rintro e w11 ⟨rfl, F11⟩
              have HF11 := Lib.hid ((HF10.out.alloc _).fr F11 (by omega))
              have HD11 := Lib.hid ((HD10.out.keep (lo := 0) (hi := 0) ((Fr.refl HF10.out.fresh).alloc _) (.inr (by omega))).keep F11 (.inr (by omega)))
              have HR11 := Lib.hid ((HR10.out.keep (lo := 0) (hi := 0) ((Fr.refl HF10.out.fresh).alloc _) (.inr rfl)).keep F11 (.inr rfl))
              have hv1 : w11.cell? ⟨w10.heap.size, 1, none⟩ = some (.int .i64 i) := by
                rw [World.cell?_of_block (a := ⟨w10.heap.size, 1, none⟩) (F11.block _ (by simp) (.inr (Nat.zero_le _)))]
                unfold World.cell?; rw [heap_alloc_new]; rfl
              have hbl : w10.heap.size < w11.heap.size := Nat.lt_of_lt_of_le (by simp) F11.size
              clear F11
              have hi50 : (i : Int) < 50 := by have := HLn.out; have := HL0.out; omega
              have hi0 : (0 : Int) ≤ (i : Int) := by omega
              go_wp2_with (go_at_call 43; refine (num18 _ _).mono ?_; rintro e w' ⟨rfl, rfl⟩)
              exact ⟨⟨i + 1, ss, updF vs j' (1, (i : Int)), o9, by have := HLn.out; omega, by go_num, HF11.out, (show 2 * i + 1 + 1 = 2 * (i + 1) from by omega) ▸ HD11.out, HR11.out, by have := HSi.out; omega⟩, by have := HLn.out; simp [intOf]; omega⟩
            · have hnj : ¬ j < ss.length := by omega
              rw [decide_eq_false hnj]
              have hcv := HCv.out _ _ HF7.out
              have hc := HCl.out _ _ HF7.out
              have HD7 := Lib.hid (hD.keep Fk (.inr (by omega)))
              have HFn := Lib.hid HJ.out.1
              have HJn := Lib.hid hjn
              clear hD Fk hk hkn hjn hnj
              go_wp2_with (
                at_builtin
                refine wpList_append_rowS _ rfl _ _ _ rfl elStr Tryz.underlying53 (w0 := w) (o0 := Own.base w) (o := o6) (lo := 0) (hi := 99) (by exact HF7.out.alloc _) rfl (HR7.out.keep (lo := 0) (hi := 0) ((Fr.refl HF7.out.fresh).alloc _) (.inr rfl)) rfl [.string t] rfl (World.news_of_block (heap_alloc_new _ _)) (by intro u hu; simp only [List.mem_cons, List.not_mem_nil, or_false] at hu; subst hu; rfl) (by omega) ?_
                intro v8 w8 F8 R8 G8
                have HF8 := Lib.hid (show LF w o6 w8 from F8)
                have HG8 := Lib.hid ((HR7.out.keep (lo := 0) (hi := 0) ((Fr.refl HF7.out.fresh).alloc _) (.inr rfl)).grown (HF7.out.alloc _).fresh (by exact G8))
                have hl8 : (ss ++ [t]).length = ss.length + 1 := List.length_append
                obtain ⟨s8, R9, D9, Fn9, Jn9, S9, h30⟩ : ∃ s8 : List ByteArray, RowS 9 1 w o6 w8 v8 s8.length (s8.map .string) ∧ DT o6 w8 p (d : Int) s8 (updF vs j (1, (i : Int))) (2 * i + 1) ∧ FndT s8 t j ∧ j < s8.length ∧ s8.length ≤ i + 1 ∧ (s8.length : Int) ≤ 30 :=
                  ⟨ss ++ [t], by rw [hl8, List.map_append]; exact R8, (HD7.out.keep (lo := 0) (hi := 0) ((Fr.refl HF7.out.fresh).alloc _) (.inr (by omega))).keep HG8.out (.inr (by omega)), HFn.out.last HJn.out (sameS_self t), by rw [hl8]; have := HJn.out; omega, by rw [hl8]; have := HSi.out; omega, by rw [hl8]; have := HSi.out; have := HLn.out; have := HL0.out; omega⟩
                have HD8 := Lib.hid D9
                have HR8 := Lib.hid R9
                have HFn8 := Lib.hid Fn9
                have HJn8 := Lib.hid Jn9
                have HS8 := Lib.hid S9
                obtain ⟨A8, cap8, hv8, _⟩ := R9.strs
                subst hv8
                have hc8 := HCl.out _ _ HF8.out
                clear F8 R8 G8 R9 D9 Fn9 Jn9 S9 hl8 hcv hc)
              go_wp2_with fail
              go_at_call 37
              refine (dt_text (A i) (L i) (C i) f w8 _ (by repeat (first | exact Fr.refl HF8.out.fresh | refine Fr.drew ?_ | refine Fr.alloc ?_ _)) HD8.out HLn.out.1 (by have := HLn.out; have := HL0.out; omega) (by omega) (HBs.out _ _ HF8.out)).mono ?_
              rw [← HT.out]
              rintro e w9 ⟨y, o9, rfl, F9, Y9⟩
              have HF9 := Lib.hid (HF8.out.fr F9 (by omega))
              have HY9 := Lib.hid Y9
              have HR9 := Lib.hid (HR8.out.keep F9 (.inl (by omega)))
              clear F9 Y9 hc8
              go_wp2_with fail
              go_at_call 42
              refine (dt_get w9 _ (by repeat (first | exact Fr.refl HF9.out.fresh | refine Fr.drew ?_ | refine Fr.alloc ?_ _)) HY9.out).mono ?_
              rintro e w10 ⟨j', hj', rfl, F10⟩
              have hjj := hj'.one HFn8.out
              subst hjj
              have hga : getA (updF vs j' (1, (i : Int))) s8.length j' = .tuple #[valV 1 (i : Int), .int .i64 0] := by
                unfold getA
                rw [if_pos (by exact HJn8.out)]
                unfold updF
                rw [if_pos rfl]
                rfl
              rw [hga]
              have HF10 := Lib.hid (HF9.out.fr F10 (by omega))
              have HD10 := Lib.hid (HY9.out.dt.keep F10 (.inr (by omega)))
              have HR10 := Lib.hid (HR9.out.keep F10 (.inr rfl))
              clear F10 hj' hga
              go_wp2_with fail
              go_at_call 46
              refine (dt_len _ _ (Fr.refl (HF10.out.alloc _).fresh) (HD10.out.keep (lo := 0) (hi := 0) ((Fr.refl HF10.out.fresh).alloc _) (.inr (by omega)))).mono ?_
              rintro e w11 ⟨rfl, F11⟩
              have HF11 := Lib.hid ((HF10.out.alloc _).fr F11 (by omega))
              have HD11 := Lib.hid ((HD10.out.keep (lo := 0) (hi := 0) ((Fr.refl HF10.out.fresh).alloc _) (.inr (by omega))).keep F11 (.inr (by omega)))
              have HR11 := Lib.hid ((HR10.out.keep (lo := 0) (hi := 0) ((Fr.refl HF10.out.fresh).alloc _) (.inr rfl)).keep F11 (.inr rfl))
              have hv1 : w11.cell? ⟨w10.heap.size, 1, none⟩ = some (.int .i64 i) := by
                rw [World.cell?_of_block (a := ⟨w10.heap.size, 1, none⟩) (F11.block _ (by simp) (.inr (Nat.zero_le _)))]
                unfold World.cell?; rw [heap_alloc_new]; rfl
              have hbl : w10.heap.size < w11.heap.size := Nat.lt_of_lt_of_le (by simp) F11.size
              clear F11
              have hi50 : (i : Int) < 50 := by have := HLn.out; have := HL0.out; omega
              have hi0 : (0 : Int) ≤ (i : Int) := by omega
              go_wp2_with (go_at_call 43; refine (num18 _ _).mono ?_; rintro e w' ⟨rfl, rfl⟩)
              exact ⟨⟨i + 1, s8, updF vs j' (1, (i : Int)), o9, by have := HLn.out; omega, by go_num, HF11.out, (show 2 * i + 1 + 1 = 2 * (i + 1) from by omega) ▸ HD11.out, HR11.out, by have := HS8.out; omega⟩, by have := HLn.out; simp [intOf]; omega⟩
    · have hin' : ¬ (i : Int) < (len : Int) := by omega
      obtain rfl : i = len := by omega
      clear hi hin
      go_wp2_with fail
      go_at_call 42
      refine (dt_get_no wr _ (by repeat (first | exact Fr.refl HFi.out.fresh | refine Fr.drew ?_ | refine Fr.alloc ?_ _)) HDi.out).mono ?_
      rintro e w5 ⟨rfl, F5⟩
      have HF5 := Lib.hid F5
      clear F5
      go_wp2_with (first
        | (go_at_call 43; refine (num18 _ _).mono ?_; rintro e w' ⟨rfl, rfl⟩)
        | (go_at_call 44; refine (dt_put_no wr _ (by repeat (first | exact HF5.out | refine Fr.drew ?_ | refine Fr.alloc ?_ _)) HDi.out).mono ?_; rintro e w6 ⟨rfl, F6⟩; have HF6 := Lib.hid (HFi.out.fr F6 (by omega)); clear F6))
      go_ret
      exact ⟨rfl, HF6.out.tob⟩
theorem dtexts_walk (a : Option Addr) (len cap : Nat) (A : Nat → Option Addr) (L C : Nat → Nat) (Z : Nat → List Int) (w : World) (H : InRs w a len A L C Z) :
    Calls Tryz.prog 9 #[.slice a len cap] w fun e w' => e = .returned (.bool true) ∧ Below w.heap.size w w' := by
  by_cases h : 30 < (len : Int)
  · exact dtexts_out a len cap w h
  · exact dtexts_in a len cap A L C Z w (by omega) H
end Go.Proofs.YtlpklloagaccoaaGreat
