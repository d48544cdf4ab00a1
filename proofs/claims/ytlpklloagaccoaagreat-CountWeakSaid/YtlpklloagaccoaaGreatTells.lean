/- What is pending of an engine: slices.Clone, slices.Delete at rows. Conditions: the rows as they lie. What is watched, what is pending of an engine (count.Watch, Watched, Tell, Pending, Take). Conditions: the engine is as one that was made. -/
import Derived.Test.YtlpklloagaccoaaGreatShelf
import Derived.Test.YtlpklloagaccoaaGreatRoom
import Derived.Test.YtlpklloagaccoaaGreatSl
import Derived.Outline
namespace Go.Proofs.YtlpklloagaccoaaGreat
open Go.RowKit
set_option linter.unusedVariables false

theorem RowB.putRow {w : World} {g cap : Nat} {xs : List Int} (h : RowB w g cap xs) (q : Nat) {ys : List Int} (hl : ys.length = xs.length) : RowB (Sort.putRow (Value.int .i64) (Sort.ahead w q) g 0 ys.toArray) g cap ys := by
  obtain ⟨cur, hb, hs, hle, hm, ht⟩ := h
  refine ⟨Sort.putCells (Value.int .i64) 0 ys.toArray cur, ?_, ?_, by omega, hm, ?_⟩
  · show (w.heap.modify g _)[g]? = _
    rw [Array.getElem?_modify, if_pos rfl, hb]
    rfl
  · unfold Sort.putCells; rw [Array.size_mapIdx]; exact hs
  · apply List.ext_getElem?
    intro i
    by_cases hi : i < ys.length
    · have hic : i < cur.size := by omega
      rw [List.getElem?_take_of_lt hi, Array.getElem?_toList]
      unfold Sort.putCells
      rw [Array.getElem?_mapIdx, Array.getElem?_eq_getElem hic, Option.map_some, if_pos ⟨Nat.zero_le _, by simpa using hi⟩]
      simp [hi]
    · rw [List.getElem?_take_eq_none (by omega), List.getElem?_eq_none (by simp; omega)]
theorem putRow_fr {o : Own} {w : World} {g r : Nat} (ho : Owned o w) (hg : o g = r) (q : Nat) (ys : Array Int) : Fr r (r + 1) o o w (Sort.putRow (Value.int .i64) (Sort.ahead w q) g 0 ys) := by
  refine ⟨rfl, rfl, rfl, ?_, fun b hb hr => ?_, fun _ _ => rfl, fun b hb => ho b ?_⟩
  · show w.heap.size ≤ (w.heap.modify g _).size
    rw [Array.size_modify]; exact Nat.le_refl _
  · show (w.heap.modify g _)[b]? = _
    rw [Array.getElem?_modify, if_neg (fun e => by subst e; omega)]
  · have : (w.heap.modify g (Sort.onCells (Sort.putCells (Value.int .i64) 0 ys))).size ≤ b := hb
    rw [Array.size_modify] at this; exact this
/-- slices.Delete(l, 0, 1). -/
theorem delete_first {o : Own} {w : World} {r g cap : Nat} {x : Int} {xs : List Int} (ho : Owned o w) (h : LRow o w r (.slice (some ⟨g, 0, none⟩) (x :: xs).length cap) (x :: xs)) :
    Calls Tryz.prog 125 #[.slice (some ⟨g, 0, none⟩) (x :: xs).length cap, .int .i64 0, .int .i64 1] w fun e w' => e = .returned (.slice (some ⟨g, 0, none⟩) xs.length cap) ∧ Fr r (r + 1) o o w w' ∧ LRow o w' r (.slice (some ⟨g, 0, none⟩) xs.length cap) xs := by
  obtain ⟨R, _⟩ := Row.rowB h.1
  have hg : o g = r := h.2 g rfl
  have hle : (x :: xs).length ≤ cap ∧ cap ≤ maxLen := by obtain ⟨cur, _, _, h1, h2, _⟩ := R; exact ⟨h1, h2⟩
  have hH : Sort.Holds (Value.int .i64) w g 0 (x :: xs).toArray := by
    intro j hj
    have hj' : j < (x :: xs).length := by simpa using hj
    rw [Nat.zero_add]
    refine ⟨(R.cell hj').trans ?_, R.free j⟩
    simp [List.getD]
  refine (AnyG.slices_Delete_int deleteI g 0 cap 0 1 (x :: xs) w hH hle.1 (by have := hle.2; unfold maxLen at this; omega) (by omega) (by simp)).mono fun e w' hh => ?_
  obtain ⟨h1, q, rfl⟩ := hh
  have hy : ((x :: xs).take 0 ++ (x :: xs).drop 1 ++ List.replicate (1 - 0) 0) = xs ++ [0] := rfl
  rw [hy]
  have R2 := R.putRow q (ys := xs ++ [0]) (by simp)
  have R3 := (R2.take (n := xs.length) (by simp)).row
  rw [List.take_left'] at R3
  · exact ⟨by simpa using h1, putRow_fr ho hg q _, R3, fun g' hg' => by cases hg'; exact hg⟩
  · rfl
/-- slices.Clone. -/
theorem clone_call {o : Own} {w : World} {r : Nat} {v : Value} {xs : List Int} (ho : Owned o w) (h : LRow o w r v xs) (hl : xs.length ≤ 1099511627776) :
    Calls Tryz.prog 124 #[v] w fun e w' => ∃ v', e = .returned v' ∧ Fr 0 0 o o w w' ∧ RowNew w o w' v' xs := by
  rcases h.1.form with ⟨rfl, rfl⟩ | ⟨g, cap, rfl, R⟩
  · refine (AnyG.slices_Clone_int_nil cloneI 0 0 w).mono fun e w' hh => ?_
    obtain ⟨h1, h2⟩ := hh
    subst h2
    exact ⟨_, h1, Fr.refl ho, RowNew.nil _ _ _⟩
  · refine (AnyG.slices_Clone_int cloneI g 0 xs.length cap xs w (Nat.le_refl _) (by omega) (fun j hj => by rw [Nat.zero_add]; exact R.cell hj)).mono fun e w' hh => ?_
    obtain ⟨v', h1, hrow, hne, hb⟩ := hh
    rw [List.take_length] at hrow
    refine ⟨v', h1, Fr.below (Fr.refl ho) hb, ⟨⟨?_, fun g' hg' => ?_⟩, fun g' hg' => ?_⟩⟩
    · obtain ⟨k1, k2⟩ := hrow
      refine ⟨k1, ?_⟩
      rcases k2 with k2 | ⟨g2, cap2, cur, hv, _, k3⟩
      · exact .inl k2
      · exact .inr ⟨g2, cap2, cur, hv, Nat.zero_le _, k3⟩
    all_goals
      rcases hrow.2 with ⟨rfl, _⟩ | ⟨g2, cap2, cur, rfl, hge, hblk, _⟩
      · cases hg'
      · simp only [Value.ownBlock, Option.some.injEq] at hg'
        subst hg'
        first | exact ho _ hge | exact hge
end Go.Proofs.YtlpklloagaccoaaGreat
namespace Go.Proofs.YtlpklloagaccoaaGreat
open Go.RowKit
set_option linter.unusedVariables false

theorem rwatched {o : Own} {r p : Nat} {S : EngS} (h : Int) (w : World) (E : EngRep o w r p S) :
    Calls Tryz.prog 77 #[.pointer (some ⟨p, 0, none⟩), .int .i64 h] w fun e w' => e = .returned (.bool (S.wat h)) ∧ w = w' := by
  obtain ⟨ps, pt, pz, pp, bw, bk, v, K, E, A⟩ := E
  have hlk : (Instr.lookup 100 (.map (some bw)) (.int .i64 h) false).run Tryz.prog w = .ok (.bool (S.wat h)) w := by
    rw [MapIs.lookup E.wat.2 Tryz.underlying100 Tryz.underlying3 zero_boolL false h, A.wat]
    simp [setMap_get]
  have c4 := E.blk.cell 4
  clear E A
  go_enter Tryz.func77, Tryz.ntmps77
  go_wp2_with fail
  go_ret
  exact ⟨rfl, rfl⟩
def watA (S : EngS) (h : Int) (b : Bool) : EngS := { S with wat := updS S.wat h b }
theorem AbsK.watd {K : EngK} {S : EngS} (A : AbsK K S) (h : Int) (b : Bool) : AbsK { K with wat := updS K.wat h b } (watA S h b) :=
  ⟨A.L, A.ob, A.lim, A.tot, A.st, A.Z, A.Pu, by show updS S.wat h b = updS K.wat h b; rw [A.wat], A.weak, A.pend⟩
theorem rwatch_no {o : Own} {r p : Nat} {S : EngS} (h : Int) (w : World) (ho : Owned o w) (E : EngRep o w r p S) (hx : S.ob h = none) :
    Calls Tryz.prog 76 #[.pointer (some ⟨p, 0, none⟩), .int .i64 h] w fun e w' => e = .returned (.int .i64 3) ∧ Fr 0 0 o o w w' := by
  have HK := Lib.hid (show Calls Tryz.prog 33 #[.pointer (some ⟨p, 0, none⟩), .int .i64 h] w fun e w' => e = .returned (.int .i64 0) ∧ Fr 0 0 o o w w' from
    (rkind h w ho E).mono fun e w' hh => ⟨by rw [hh.1]; unfold kindA; rw [hx]; rfl, (Fr.refl ho).below hh.2⟩)
  clear E ho
  go_enter Tryz.func76, Tryz.ntmps76
  go_wp2_with fail
  go_at_call 33
  refine HK.out.mono ?_
  rintro e w1 ⟨rfl, F1⟩
  have HF1 := Lib.hid F1
  clear F1
  go_wp2_with fail
  go_ret
  exact ⟨rfl, HF1.out⟩
theorem rwatch {o : Own} {r p : Nat} {S : EngS} (h : Int) (x : Ob) (w : World) (ho : Owned o w) (E : EngRep o w r p S) (hx : S.ob h = some x) :
    Calls Tryz.prog 76 #[.pointer (some ⟨p, 0, none⟩), .int .i64 h] w (EngDo o w r p (watA S h true) (.int .i64 0)) := by
  obtain ⟨ps, pt, pz, pp, bw, bk, v, K, E0, A⟩ := E
  obtain ⟨y, hy, he, _⟩ := A.of_some hx
  have hr := E0.sp.hrange hy
  have hk1 := (E0.sp.obok hy).1
  have hkx : x.kind = y.kind := by rw [he]; rfl
  have HK := Lib.hid (show Calls Tryz.prog 33 #[.pointer (some ⟨p, 0, none⟩), .int .i64 h] w fun e w' => e = .returned (.int .i64 (x.kind : Nat)) ∧ Fr 0 0 o o w w' from
    (rkind h w ho ⟨ps, pt, pz, pp, bw, bk, v, K, E0, A⟩).mono fun e w' hh => ⟨by rw [hh.1, kindA_of hx], (Fr.refl ho).below hh.2⟩)
  have HX := Lib.hid (show ¬ ((x.kind : Nat) : Int) = 0 from by omega)
  have HE := Lib.hid E0
  have HA := Lib.hid A
  have k0 : 0 ≤ h := by omega
  have k1 : h < KB := by unfold KB; omega
  clear E0 A ho hk1 hkx hr he
  go_enter Tryz.func76, Tryz.ntmps76
  go_wp2_with fail
  go_at_call 33
  refine HK.out.mono ?_
  rintro e w1 ⟨rfl, F1⟩
  have E1 := HE.out.keep F1 (.inr (Nat.zero_le _))
  have HF1 := Lib.hid F1
  have c4 := E1.blk.cell 4
  have HE1 := Lib.hid E1
  have hx0 := HX.out
  generalize ((x.kind : Nat) : Int) = kx at *
  clear F1 E1
  go_wp2_with (at_mapUpdate; refine wpList_mapUpdate_is _ rfl _ _ _ 100 rfl 3 4 Tryz.underlying100 Tryz.underlying3 bw _ (by exact HE1.out.wat.2) rfl h rfl k0 k1 _ rfl ?_; intro w2 hm2 ht2; have HM2 := Lib.hid hm2; have HT2 := Lib.hid ht2; clear hm2 ht2)
  go_ret
  obtain ⟨F2, E2⟩ := HE1.out.watT HF1.out.fresh HT2.out (HM2.out.congr fun k => setMap_upd K.wat h k)
  exact ⟨rfl, o, (HF1.out.none r (r + 29)).trans F2, ps, pt, pz, pp, bw, bk, v, _, E2, HA.out.watd h true⟩
theorem rpending {o : Own} {r p : Nat} {S : EngS} (w : World) (ho : Owned o w) (E : EngRep o w r p S) (hl : S.pend.length ≤ 1048576) :
    Calls Tryz.prog 79 #[.pointer (some ⟨p, 0, none⟩)] w fun e w' => ∃ v', e = .returned v' ∧ Fr 0 0 o o w w' ∧ RowNew w o w' v' S.pend := by
  obtain ⟨ps, pt, pz, pp, bw, bk, v, K, E, A⟩ := E
  rw [A.pend] at hl ⊢
  have HC := Lib.hid (clone_call (r := r + 28) ho ⟨E.pend, E.pown⟩ (by omega))
  have c6 := E.blk.cell 6
  clear E A ho hl
  go_enter Tryz.func79, Tryz.ntmps79
  go_wp2_with fail
  go_at_call 124
  refine HC.out.mono ?_
  rintro e w1 ⟨v1, rfl, h1, h2⟩
  have H := Lib.hid (And.intro h1 h2)
  clear h1 h2
  go_wp2_with fail
  go_ret
  exact ⟨v1, rfl, H.out.1, H.out.2⟩
theorem rtake_no {o : Own} {r p : Nat} {S : EngS} (w : World) (ho : Owned o w) (E : EngRep o w r p S) (he : S.pend = []) :
    Calls Tryz.prog 80 #[.pointer (some ⟨p, 0, none⟩)] w fun e w' => e = .returned (.tuple #[.int .i64 0, .bool false]) ∧ w = w' := by
  obtain ⟨ps, pt, pz, pp, bw, bk, v, K, E, A⟩ := E
  have hr := E.pend
  rw [← A.pend, he] at hr
  have hv : ∃ a c, v = .slice a 0 c := by
    rcases hr.form with ⟨h1, _⟩ | ⟨g, cap, h1, _⟩
    · exact ⟨_, _, h1⟩
    · exact ⟨_, _, h1⟩
  obtain ⟨a, c, rfl⟩ := hv
  have c6 := E.blk.cell 6
  clear E A ho hr
  go_enter Tryz.func80, Tryz.ntmps80
  go_wp2_with fail
  go_ret2
  exact ⟨rfl, rfl⟩
def pendA (S : EngS) (l : List Int) : EngS := { S with pend := l }
theorem AbsK.pendd {K : EngK} {S : EngS} (A : AbsK K S) (l : List Int) : AbsK { K with pend := l } (pendA S l) :=
  ⟨A.L, A.ob, A.lim, A.tot, A.st, A.Z, A.Pu, A.wat, A.weak, rfl⟩
/-- What is pending turns. -/
theorem Eng.pendT {o o' : Own} {w w' : World} {r p : Nat} {K : EngK} {ps pt pz pp bw bk : Nat} {v v' : Value} {l : List Int} (h : Eng o w r p K ps pt pz pp bw bk v) (k : Fr (r + 28) (r + 29) o o' w w') (R : LRow o' w' (r + 28) v' l) :
    Fr r (r + 29) o o' w (w'.setCell ⟨p, 6, none⟩ v') ∧ Eng o' (w'.setCell ⟨p, 6, none⟩ v') r p { K with pend := l } ps pt pz pp bw bk v' := by
  have hb := h.blk.keep k (by omega)
  have k2 : Fr r (r + 1) o' o' w' (w'.setCell ⟨p, 6, none⟩ v') := (Fr.refl k.fresh).setCell _ _ (.inl ⟨by simp only [hb.1]; omega, by simp only [hb.1]; omega⟩)
  have kk : ∀ {lo hi : Nat}, lo = r → hi = r + 29 → Fr lo hi o o' w (w'.setCell ⟨p, 6, none⟩ v') := fun h1 h2 => by
    subst h1 h2
    exact (k.mono (by omega) (by omega)).trans (k2.mono (by omega) (by omega))
  refine ⟨kk rfl rfl, hb.set 6 v', (h.sp.keep k (by omega)).keep k2 (by omega), (h.spill.keep k (by omega)).keep k2 (by omega), (h.zeros.keep k (by omega)).keep k2 (by omega), (h.purple.keep k (by omega)).keep k2 (by omega), (h.wat.keep k (by omega)).keep k2 (by omega), (h.weak.keep k (by omega)).keep k2 (by omega), h.wne, (R.keep k2 (by omega)).1, (R.keep k2 (by omega)).2⟩
theorem rtake {o : Own} {r p : Nat} {S : EngS} {x : Int} {xs : List Int} (w : World) (ho : Owned o w) (E : EngRep o w r p S) (he : S.pend = x :: xs) (hl : xs.length ≤ 1048576) :
    Calls Tryz.prog 80 #[.pointer (some ⟨p, 0, none⟩)] w (EngDo o w r p (pendA S xs) (.tuple #[.int .i64 x, .bool true])) := by
  obtain ⟨ps, pt, pz, pp, bw, bk, v, K, E, A⟩ := E
  have hr : LRow o w (r + 28) v (x :: xs) := by rw [← he, A.pend]; exact ⟨E.pend, E.pown⟩
  obtain ⟨g, cap, hv, hc, _, _⟩ := hr.set ho (i := 0) (by simp)
  have hc0 := hc 0 (by simp)
  have hc0' : w.cell? ⟨g, 0, none⟩ = some (.int .i64 x) := hc0
  subst hv
  have HD := Lib.hid (fun (w1 : World) (F : Fr 0 0 o o w w1) => delete_first (w := w1) F.fresh (hr.keep F (.inr (Nat.zero_le _))))
  have HE := Lib.hid E
  have HA := Lib.hid A
  have c6 := E.blk.cell 6
  have f6 := E.blk.free 6
  have hn : ¬ (((x :: xs).length : Nat) : Int) = 0 := by simp only [List.length_cons]; omega
  have hn2 : (0 : Int) < (((x :: xs).length : Nat) : Int) := by simp only [List.length_cons]; omega
  have HO := Lib.hid ho
  clear E A hr hc hc0 ho he hl
  generalize (x :: xs).length = n at *
  go_enter Tryz.func80, Tryz.ntmps80
  go_wp2_with fail
  go_at_call 125
  refine (HD.out _ (by repeat (first | exact Fr.refl HO.out | refine Fr.drew ?_ | refine Fr.alloc ?_ _))).mono ?_
  rintro e w1 ⟨rfl, F1, R1⟩
  have HT := Lib.hid (HE.out.pendT F1 R1)
  have hb := HE.out.blk.keep F1 (by omega)
  have c6' := hb.cell 6
  have f6' := hb.free 6
  clear F1 R1 hb
  go_wp2_with fail
  go_ret2
  exact ⟨rfl, _, HT.out.1, ps, pt, pz, pp, bw, bk, _, _, HT.out.2, HA.out.pendd xs⟩
theorem rtell_none {o : Own} {r p : Nat} {S : EngS} (h : Int) (w : World) (ho : Owned o w) (E : EngRep o w r p S) (hx : S.ob h = none) :
    Calls Tryz.prog 75 #[.pointer (some ⟨p, 0, none⟩), .int .i64 h] w fun e w' => e = .returned (.int .i64 3) ∧ Fr 0 0 o o w w' := by
  have HK := Lib.hid (show Calls Tryz.prog 33 #[.pointer (some ⟨p, 0, none⟩), .int .i64 h] w fun e w' => e = .returned (.int .i64 0) ∧ Fr 0 0 o o w w' from
    (rkind h w ho E).mono fun e w' hh => ⟨by rw [hh.1]; unfold kindA; rw [hx]; rfl, (Fr.refl ho).below hh.2⟩)
  clear E ho
  go_enter Tryz.func75, Tryz.ntmps75
  go_wp2_with fail
  go_at_call 33
  refine HK.out.mono ?_
  rintro e w1 ⟨rfl, F1⟩
  have HF1 := Lib.hid F1
  clear F1
  go_wp2_with fail
  go_ret
  exact ⟨rfl, HF1.out⟩
set_option maxRecDepth 100000 in
theorem rtell_no {o : Own} {r p : Nat} {S : EngS} (h : Int) (x : Ob) (w : World) (ho : Owned o w) (E : EngRep o w r p S) (hx : S.ob h = some x) (hw : S.wat h = false) :
    Calls Tryz.prog 75 #[.pointer (some ⟨p, 0, none⟩), .int .i64 h] w fun e w' => e = .returned (.int .i64 1) ∧ Fr 0 0 o o w w' := by
  obtain ⟨ps, pt, pz, pp, bw, bk, v, K, E0, A⟩ := E
  obtain ⟨y, hy, he, _⟩ := A.of_some hx
  have hk1 := (E0.sp.obok hy).1
  have hkx : x.kind = y.kind := by rw [he]; rfl
  have HK := Lib.hid (show Calls Tryz.prog 33 #[.pointer (some ⟨p, 0, none⟩), .int .i64 h] w fun e w' => e = .returned (.int .i64 (x.kind : Nat)) ∧ Fr 0 0 o o w w' from
    (rkind h w ho ⟨ps, pt, pz, pp, bw, bk, v, K, E0, A⟩).mono fun e w' hh => ⟨by rw [hh.1, kindA_of hx], (Fr.refl ho).below hh.2⟩)
  have hx0 : ¬ ((x.kind : Nat) : Int) = 0 := by omega
  have HE := Lib.hid E0
  have HW := Lib.hid (show K.wat h = false by rw [← A.wat]; exact hw)
  clear E0 A ho hk1 hkx he
  generalize ((x.kind : Nat) : Int) = kx at *
  go_enter Tryz.func75, Tryz.ntmps75
  go_wp2_with fail
  go_at_call 33
  refine HK.out.mono ?_
  rintro e w1 ⟨rfl, F1⟩
  have E1 := HE.out.keep F1 (.inr (Nat.zero_le _))
  have HF1 := Lib.hid F1
  have c4 := E1.blk.cell 4
  have hlk : (Instr.lookup 100 (.map (some bw)) (.int .i64 h) false).run Tryz.prog w1 = .ok (.bool false) w1 := by
    rw [MapIs.lookup E1.wat.2 Tryz.underlying100 Tryz.underlying3 zero_boolL false h]
    simp [setMap_get, HW.out]
  clear F1 E1
  go_wp2_with fail
  go_ret
  exact ⟨rfl, HF1.out⟩
set_option maxRecDepth 100000 in
theorem rtell {o : Own} {r p : Nat} {S : EngS} (h : Int) (x : Ob) (w : World) (ho : Owned o w) (E : EngRep o w r p S) (hx : S.ob h = some x) (hw : S.wat h = true) (hl : S.pend.length ≤ 1048576) :
    Calls Tryz.prog 75 #[.pointer (some ⟨p, 0, none⟩), .int .i64 h] w (EngDo o w r p (pendA (watA S h false) (S.pend ++ [h])) (.int .i64 0)) := by
  obtain ⟨ps, pt, pz, pp, bw, bk, v, K, E0, A⟩ := E
  obtain ⟨y, hy, he, _⟩ := A.of_some hx
  have hk1 := (E0.sp.obok hy).1
  have hkx : x.kind = y.kind := by rw [he]; rfl
  have HK := Lib.hid (show Calls Tryz.prog 33 #[.pointer (some ⟨p, 0, none⟩), .int .i64 h] w fun e w' => e = .returned (.int .i64 (x.kind : Nat)) ∧ Fr 0 0 o o w w' from
    (rkind h w ho ⟨ps, pt, pz, pp, bw, bk, v, K, E0, A⟩).mono fun e w' hh => ⟨by rw [hh.1, kindA_of hx], (Fr.refl ho).below hh.2⟩)
  have hx0 : ¬ ((x.kind : Nat) : Int) = 0 := by omega
  have HE := Lib.hid E0
  have HA := Lib.hid A
  have HPe := Lib.hid (show S.pend = K.pend from A.pend)
  have HL := Lib.hid (show K.pend.length ≤ 1048576 by rw [← A.pend]; exact hl)
  have HW := Lib.hid (show K.wat h = true by rw [← A.wat]; exact hw)
  clear E0 A ho hk1 hkx he hl
  generalize ((x.kind : Nat) : Int) = kx at *
  go_enter Tryz.func75, Tryz.ntmps75
  go_wp2_with fail
  go_at_call 33
  refine HK.out.mono ?_
  rintro e w1 ⟨rfl, F1⟩
  have E1 := HE.out.keep F1 (.inr (Nat.zero_le _))
  have HF1 := Lib.hid F1
  have c4 := E1.blk.cell 4
  have hlk : (Instr.lookup 100 (.map (some bw)) (.int .i64 h) false).run Tryz.prog w1 = .ok (.bool true) w1 := by
    rw [MapIs.lookup E1.wat.2 Tryz.underlying100 Tryz.underlying3 zero_boolL false h]
    simp [setMap_get, HW.out]
  have HE1 := Lib.hid E1
  clear F1 E1
  go_wp2_with (first
    | (at_delete; refine wpList_delete_is _ rfl _ _ 100 3 rfl 4 Tryz.underlying100 Tryz.underlying3 bw _ (by exact HE1.out.wat.2) rfl h rfl ?_; intro w2 hm2 ht2; have HT2 := Lib.hid (HE1.out.watT HF1.out.fresh ht2 (hm2.congr fun k => setMap_del K.wat h k)); have c6 := HT2.out.2.blk.cell 6; have HO2 := Lib.hid HT2.out.1.fresh; clear hm2 ht2)
    | (at_builtin; refine wpList_append_row _ rfl _ _ _ rfl Tryz.underlying38 (own := o) (by first | exact HO2.out | exact ((Fr.refl (lo := 0) (hi := 0) HO2.out).alloc _).fresh) (r + 28) rfl (LRow.keep ⟨HT2.out.2.pend, HT2.out.2.pown⟩ (lo := 0) (hi := 0) ((Fr.refl HO2.out).alloc _) (.inr (by omega))) rfl (RdS.one _ .i64 _ h (by simp)) (show K.pend.length + 1 ≤ 1099511627776 from by have := HL.out; omega) ?_; intro v3 w3 o3 F3 R3; obtain ⟨A3, cap3, rfl, _⟩ := R3.rd; have HT3 := Lib.hid ((HT2.out.2.keep (lo := 0) (hi := 0) ((Fr.refl HO2.out).alloc _) (.inr (by omega))).pendT F3 R3); have hb3 := (HT2.out.2.keep (lo := 0) (hi := 0) ((Fr.refl HO2.out).alloc _) (.inr (by omega))).blk.keep F3 (by omega); have c63 := hb3.cell 6; have f63 := hb3.free 6; clear F3 R3 hb3))
  go_ret
  rw [HPe.out]
  have HT4 := HT3.out
  rw [show (K.pend ++ [h]).length = K.pend.length + 1 from by simp] at HT4
  exact ⟨rfl, o3, ((HF1.out.none r (r + 29)).trans HT2.out.1).trans (((Fr.refl (lo := r) (hi := r + 29) HO2.out).alloc _).trans HT4.1), ps, pt, pz, pp, bw, bk, _, _, HT4.2, (HA.out.watd h false).pendd _⟩
end Go.Proofs.YtlpklloagaccoaaGreat
