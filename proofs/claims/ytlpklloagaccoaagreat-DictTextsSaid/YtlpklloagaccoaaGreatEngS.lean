/- Counts go down (count.down). Conditions: the engine is as one that was made; the handle is an object's. The engine of counts with whole counts: its state in plain words; up, down. Conditions: the engine is as one that was made; handles are objects'. -/
import Derived.Test.YtlpklloagaccoaaGreatEngUp
namespace Go.Proofs.YtlpklloagaccoaaGreat
open Go.RowKit
set_option linter.unusedVariables false

/-- Behind down. -/
def EDownPost (o : Own) (w : World) (r p : Nat) (K : EngK) (ps pt pz pp bw bk : Nat) (v : Value) (h : Int) (x : Ob) (e : Ending) (w' : World) : Prop :=
  ∃ (c' : Nat) (ex' : Int → Int), e = .returned (.tuple #[]) ∧ c' ≤ 255 ∧ (c' : Int) + ex' h = (if K.st h then x.cnt + K.ex h else if x.cnt + K.ex h = 0 then 0 else x.cnt + K.ex h - 1) ∧ (∀ k, k ≠ h → ex' k = K.ex k) ∧
    EngAt o w r p { K with ob := updI K.ob h (some (setCnt x c')), ex := ex', Z := (if K.st h = false ∧ x.cnt + K.ex h ≤ 1 then updS K.Z h true else K.Z), Pu := (if K.st h = false ∧ ¬ x.cnt + K.ex h ≤ 1 then updS K.Pu h true else K.Pu) } ps pt pz pp bw bk v w'
theorem SpillRep.ex0 {o : Own} {w : World} {r p : Nat} {lim : Int} {ex : Int → Int} {st : Int → Bool} (S : SpillRep o w r p lim ex st) (k : Int) : 0 ≤ ex k := by
  obtain ⟨_, _, _, _, S⟩ := S
  exact (S.ex1 k).1
set_option maxRecDepth 100000 in
set_option maxHeartbeats 2000000 in
theorem edown_sticky {o : Own} {r p : Nat} {K : EngK} {ps pt pz pp bw bk : Nat} {v : Value} (h : Int) (x : Ob) (w : World) (hr : 1 ≤ r) (ho : Owned o w) (E : Eng o w r p K ps pt pz pp bw bk v) (hx : K.ob h = some x) (hs : K.st h = true) :
    Calls Tryz.prog 119 #[.pointer (some ⟨p, 0, none⟩), .int .i64 h] w (EDownPost o w r p K ps pt pz pp bw bk v h x) := by
  have hkr := E.sp.hrange hx
  have hcn := (E.sp.obok hx).2.2.2
  have k0 : 0 ≤ h := by omega
  have k1 : h < KB := by simp only [KB]; omega
  have HK0 := Lib.hid k0
  have HK1 := Lib.hid k1
  have HHd := Lib.hid (fun (w1 : World) (F : Fr 0 0 o o w w1) => show Calls Tryz.prog 54 #[.pointer (some ⟨ps, 0, none⟩), .int .i64 h] w1 fun e w' => ∃ (col : Nat) (z : Bool), e = .returned (.tuple #[hdV x.kind x.cells x.raw x.cnt col z false, .int .i64 0]) ∧ Fr 0 0 o o w w' from
    (ohead_yes h x w1 F.fresh (E.sp.keep F (.inr (Nat.zero_le _))) hx).mono fun e w' h => by
      obtain ⟨c2, z2, _, h1, h2⟩ := h
      exact ⟨c2, z2, h1, F.below h2⟩)
  have HE := Lib.hid E
  have HO := Lib.hid ho
  have HX := Lib.hid hx
  have HSS := Lib.hid hs
  have HC := Lib.hid hcn
  have c0 := E.c0
  have c1 := E.c1
  have hpl := E.blk.lt
  clear E hx ho hcn hkr k0 k1 hs
  go_enter Tryz.func119, Tryz.ntmps119
  go_wp2_with fail
  go_at_call 54
  refine (HHd.out _ (by repeat (first | exact Fr.refl HO.out | refine Fr.drew ?_ | refine Fr.alloc ?_ _))).mono ?_
  rintro e w1 ⟨col, z, rfl, F1⟩
  have c0 := F1.cell0 c0
  have c1 := F1.cell0 c1
  have hp1 : p < w1.heap.size := Nat.lt_of_lt_of_le hpl F1.size
  have HF1 := Lib.hid F1
  clear F1
  have c2 := HF1.out.cell0 HE.out.c2
  have c3 := HF1.out.cell0 HE.out.c3
  have X1 := heap_alloc_new w1 (hdX x.kind x.cells x.raw x.cnt col z)
  have HF2 := Lib.hid (HF1.out.alloc (hdX x.kind x.cells x.raw x.cnt col z))
  have HOX := Lib.hid (HF1.out.fresh _ (Nat.le_refl _))
  go_wp2_with fail
  unfold hdX at X1 HF2
  generalize hw2 : w1.alloc (.cells #[.int .i64 (x.kind : Nat), .int .i64 (x.cells : Nat), .int .i64 (x.raw : Nat), .int .i64 (x.cnt : Nat), .int .i64 (col : Nat), .bool z, .bool false] 65 (0, 0)) = w2 at *
  have c0 := HF2.out.cell0 HE.out.c0
  have c1 := HF2.out.cell0 HE.out.c1
  have c2 := HF2.out.cell0 HE.out.c2
  have c3 := HF2.out.cell0 HE.out.c3
  have x3 : w2.cell? ⟨w1.heap.size, 3, none⟩ = some (.int .i64 (x.cnt : Nat)) := by simp [World.cell?, X1]
  have HX1 := Lib.hid X1
  clear X1 hw2
  have HDN := Lib.hid (fun (w5 : World) (F : Fr 0 0 o o w2 w5) => ((HE.out.keep HF2.out (.inr (Nat.zero_le _))).keep F (.inr (Nat.zero_le _))).downs F.fresh h x.cnt HC.out HK0.out HK1.out)
  go_region_with (go_at_call 176; refine (HDN.out _ (by repeat (first | exact Fr.refl HF2.out.fresh | refine Fr.drew ?_))).mono ?_; rintro e w5 ⟨c', ex', rfl, hc', hsum, hoth, o5, F5, E5⟩; have HE5 := Lib.hid E5; have HF5 := Lib.hid ((HF2.out.drew.none r (r + 29)).trans F5); have HC5 := Lib.hid hc'; have HS5 := Lib.hid hsum; have HO5 := Lib.hid hoth; clear E5 F5 hc' hsum hoth)
  all_goals
    have HST := Lib.hid (fun (w6 : World) (F : Fr 0 0 o5 o5 w5 w6) => sticky_any h w6 (HE5.out.spill.keep F (.inr (Nat.zero_le _))))
    have HTO := Lib.hid (fun (w6 : World) (F : Fr 0 0 o5 o5 w5 w6) => total_any h (c' : Int) w6 (HE5.out.spill.keep F (.inr (Nat.zero_le _))) (by omega) (by have := HC5.out; omega))
    have c1 := HE5.out.c1
    have c2 := HE5.out.c2
    have c3 := HE5.out.c3
    have hp5 := HE5.out.blk.lt
    go_wp2_with (go_at_call 97; refine (HST.out _ (by repeat (first | exact Fr.refl HF5.out.fresh | refine Fr.drewN ?_ _ | refine Fr.drew ?_))).mono ?_; rintro e w6 ⟨rfl, rfl⟩; rw [HSS.out])
    go_at_call 117
    refine (mark_any h c' x (c' : Int) _ HF5.out.fresh HE5.out HX.out HC5.out rfl).mono ?_
    rintro e w7 ⟨rfl, o6, F6, E6⟩
    have HF6 := Lib.hid F6
    have HE6 := Lib.hid E6
    clear F6 E6
    go_wp2_with fail
    go_end0
    refine ⟨c', ex', rfl, HC5.out, HS5.out, HO5.out, o6, HF5.out.trans HF6.out, ?_⟩
    rw [if_neg (fun e => by have := e.1; rw [HSS.out] at this; cases this), if_neg (fun e => by have := e.1; rw [HSS.out] at this; cases this)]
    exact HE6.out
set_option maxRecDepth 100000 in
set_option maxHeartbeats 2000000 in
theorem edown_zero {o : Own} {r p : Nat} {K : EngK} {ps pt pz pp bw bk : Nat} {v : Value} (h : Int) (x : Ob) (w : World) (hr : 1 ≤ r) (ho : Owned o w) (E : Eng o w r p K ps pt pz pp bw bk v) (hx : K.ob h = some x) (hs : K.st h = false) (ht : x.cnt + K.ex h ≤ 1) :
    Calls Tryz.prog 119 #[.pointer (some ⟨p, 0, none⟩), .int .i64 h] w (EDownPost o w r p K ps pt pz pp bw bk v h x) := by
  have hkr := E.sp.hrange hx
  have hcn := (E.sp.obok hx).2.2.2
  have k0 : 0 ≤ h := by omega
  have k1 : h < KB := by simp only [KB]; omega
  have HK0 := Lib.hid k0
  have HK1 := Lib.hid k1
  have HHd := Lib.hid (fun (w1 : World) (F : Fr 0 0 o o w w1) => show Calls Tryz.prog 54 #[.pointer (some ⟨ps, 0, none⟩), .int .i64 h] w1 fun e w' => ∃ (col : Nat) (z : Bool), e = .returned (.tuple #[hdV x.kind x.cells x.raw x.cnt col z false, .int .i64 0]) ∧ Fr 0 0 o o w w' from
    (ohead_yes h x w1 F.fresh (E.sp.keep F (.inr (Nat.zero_le _))) hx).mono fun e w' h => by
      obtain ⟨c2, z2, _, h1, h2⟩ := h
      exact ⟨c2, z2, h1, F.below h2⟩)
  have HE := Lib.hid E
  have HO := Lib.hid ho
  have HX := Lib.hid hx
  have HSS := Lib.hid hs
  have HTT := Lib.hid ht
  have HC := Lib.hid hcn
  have c0 := E.c0
  have c1 := E.c1
  have hpl := E.blk.lt
  clear E hx ho hcn hkr k0 k1 hs ht
  go_enter Tryz.func119, Tryz.ntmps119
  go_wp2_with fail
  go_at_call 54
  refine (HHd.out _ (by repeat (first | exact Fr.refl HO.out | refine Fr.drew ?_ | refine Fr.alloc ?_ _))).mono ?_
  rintro e w1 ⟨col, z, rfl, F1⟩
  have c0 := F1.cell0 c0
  have c1 := F1.cell0 c1
  have hp1 : p < w1.heap.size := Nat.lt_of_lt_of_le hpl F1.size
  have HF1 := Lib.hid F1
  clear F1
  have c2 := HF1.out.cell0 HE.out.c2
  have c3 := HF1.out.cell0 HE.out.c3
  have X1 := heap_alloc_new w1 (hdX x.kind x.cells x.raw x.cnt col z)
  have HF2 := Lib.hid (HF1.out.alloc (hdX x.kind x.cells x.raw x.cnt col z))
  have HOX := Lib.hid (HF1.out.fresh _ (Nat.le_refl _))
  go_wp2_with fail
  unfold hdX at X1 HF2
  generalize hw2 : w1.alloc (.cells #[.int .i64 (x.kind : Nat), .int .i64 (x.cells : Nat), .int .i64 (x.raw : Nat), .int .i64 (x.cnt : Nat), .int .i64 (col : Nat), .bool z, .bool false] 65 (0, 0)) = w2 at *
  have c0 := HF2.out.cell0 HE.out.c0
  have c1 := HF2.out.cell0 HE.out.c1
  have c2 := HF2.out.cell0 HE.out.c2
  have c3 := HF2.out.cell0 HE.out.c3
  have x3 : w2.cell? ⟨w1.heap.size, 3, none⟩ = some (.int .i64 (x.cnt : Nat)) := by simp [World.cell?, X1]
  have HX1 := Lib.hid X1
  clear X1 hw2
  have HDN := Lib.hid (fun (w5 : World) (F : Fr 0 0 o o w2 w5) => ((HE.out.keep HF2.out (.inr (Nat.zero_le _))).keep F (.inr (Nat.zero_le _))).downs F.fresh h x.cnt HC.out HK0.out HK1.out)
  go_region_with (go_at_call 176; refine (HDN.out _ (by repeat (first | exact Fr.refl HF2.out.fresh | refine Fr.drew ?_))).mono ?_; rintro e w5 ⟨c', ex', rfl, hc', hsum, hoth, o5, F5, E5⟩; have HE5 := Lib.hid E5; have HF5 := Lib.hid ((HF2.out.drew.none r (r + 29)).trans F5); have HC5 := Lib.hid hc'; have HS5 := Lib.hid hsum; have HO5 := Lib.hid hoth; clear E5 F5 hc' hsum hoth)
  all_goals
    have HST := Lib.hid (fun (w6 : World) (F : Fr 0 0 o5 o5 w5 w6) => sticky_any h w6 (HE5.out.spill.keep F (.inr (Nat.zero_le _))))
    have HTO := Lib.hid (fun (w6 : World) (F : Fr 0 0 o5 o5 w5 w6) => total_any h (c' : Int) w6 (HE5.out.spill.keep F (.inr (Nat.zero_le _))) (by omega) (by have := HC5.out; omega))
    have c1 := HE5.out.c1
    have c2 := HE5.out.c2
    have c3 := HE5.out.c3
    have hp5 := HE5.out.blk.lt
    have htz : ((c' : Int) + ex' h == 0) = true := by
      have h1 := HS5.out
      rw [if_neg (by rw [HSS.out]; decide)] at h1
      have h2 := HTT.out
      have h3 := (HE.out.spill).ex0 h
      rw [h1]
      split <;> simp <;> omega
    go_wp2_with (go_at_call 97; refine (HST.out _ (by repeat (first | exact Fr.refl HF5.out.fresh | refine Fr.drewN ?_ _ | refine Fr.drew ?_))).mono ?_; rintro e w6 ⟨rfl, rfl⟩; rw [HSS.out])
    go_at_call 96
    refine (HTO.out _ (Fr.refl HF5.out.fresh)).mono ?_
    rintro e w6 ⟨rfl, n6, rfl⟩
    have c2 := HE5.out.c2
    have c3 := HE5.out.c3
    go_wp2_with fail
    go_at_call 116
    refine ((HE5.out.keep ((Fr.refl (lo := 0) (hi := 0) HF5.out.fresh).drewN n6) (.inr (Nat.zero_le _))).pushZ (HF5.out.drewN n6).fresh h HK0.out HK1.out).mono ?_
    rintro e w7 ⟨rfl, o7, F7, E7⟩
    have HF7 := Lib.hid ((HF5.out.drewN n6).trans F7)
    have HE7 := Lib.hid E7
    clear F7 E7
    go_wp2_with fail
    go_at_call 117
    refine (mark_any h c' x (c' : Int) _ HF7.out.fresh HE7.out HX.out HC5.out rfl).mono ?_
    rintro e w8 ⟨rfl, o6, F6, E6⟩
    have HF6 := Lib.hid F6
    have HE6 := Lib.hid E6
    clear F6 E6
    go_wp2_with fail
    go_end0
    refine ⟨c', ex', rfl, HC5.out, HS5.out, HO5.out, o6, HF7.out.trans HF6.out, ?_⟩
    rw [if_pos ⟨HSS.out, HTT.out⟩, if_neg (fun e => by have h1 := HTT.out; have h2 := e.2; omega)]
    exact HE6.out
set_option maxRecDepth 100000 in
set_option maxHeartbeats 2000000 in
theorem edown_pos {o : Own} {r p : Nat} {K : EngK} {ps pt pz pp bw bk : Nat} {v : Value} (h : Int) (x : Ob) (w : World) (hr : 1 ≤ r) (ho : Owned o w) (E : Eng o w r p K ps pt pz pp bw bk v) (hx : K.ob h = some x) (hs : K.st h = false) (ht : ¬ x.cnt + K.ex h ≤ 1) :
    Calls Tryz.prog 119 #[.pointer (some ⟨p, 0, none⟩), .int .i64 h] w (EDownPost o w r p K ps pt pz pp bw bk v h x) := by
  have hkr := E.sp.hrange hx
  have hcn := (E.sp.obok hx).2.2.2
  have k0 : 0 ≤ h := by omega
  have k1 : h < KB := by simp only [KB]; omega
  have HK0 := Lib.hid k0
  have HK1 := Lib.hid k1
  have HHd := Lib.hid (fun (w1 : World) (F : Fr 0 0 o o w w1) => show Calls Tryz.prog 54 #[.pointer (some ⟨ps, 0, none⟩), .int .i64 h] w1 fun e w' => ∃ (col : Nat) (z : Bool), e = .returned (.tuple #[hdV x.kind x.cells x.raw x.cnt col z false, .int .i64 0]) ∧ Fr 0 0 o o w w' from
    (ohead_yes h x w1 F.fresh (E.sp.keep F (.inr (Nat.zero_le _))) hx).mono fun e w' h => by
      obtain ⟨c2, z2, _, h1, h2⟩ := h
      exact ⟨c2, z2, h1, F.below h2⟩)
  have HE := Lib.hid E
  have HO := Lib.hid ho
  have HX := Lib.hid hx
  have HSS := Lib.hid hs
  have HTT := Lib.hid ht
  have HC := Lib.hid hcn
  have c0 := E.c0
  have c1 := E.c1
  have hpl := E.blk.lt
  clear E hx ho hcn hkr k0 k1 hs ht
  go_enter Tryz.func119, Tryz.ntmps119
  go_wp2_with fail
  go_at_call 54
  refine (HHd.out _ (by repeat (first | exact Fr.refl HO.out | refine Fr.drew ?_ | refine Fr.alloc ?_ _))).mono ?_
  rintro e w1 ⟨col, z, rfl, F1⟩
  have c0 := F1.cell0 c0
  have c1 := F1.cell0 c1
  have hp1 : p < w1.heap.size := Nat.lt_of_lt_of_le hpl F1.size
  have HF1 := Lib.hid F1
  clear F1
  have c2 := HF1.out.cell0 HE.out.c2
  have c3 := HF1.out.cell0 HE.out.c3
  have X1 := heap_alloc_new w1 (hdX x.kind x.cells x.raw x.cnt col z)
  have HF2 := Lib.hid (HF1.out.alloc (hdX x.kind x.cells x.raw x.cnt col z))
  have HOX := Lib.hid (HF1.out.fresh _ (Nat.le_refl _))
  go_wp2_with fail
  unfold hdX at X1 HF2
  generalize hw2 : w1.alloc (.cells #[.int .i64 (x.kind : Nat), .int .i64 (x.cells : Nat), .int .i64 (x.raw : Nat), .int .i64 (x.cnt : Nat), .int .i64 (col : Nat), .bool z, .bool false] 65 (0, 0)) = w2 at *
  have c0 := HF2.out.cell0 HE.out.c0
  have c1 := HF2.out.cell0 HE.out.c1
  have c2 := HF2.out.cell0 HE.out.c2
  have c3 := HF2.out.cell0 HE.out.c3
  have x3 : w2.cell? ⟨w1.heap.size, 3, none⟩ = some (.int .i64 (x.cnt : Nat)) := by simp [World.cell?, X1]
  have HX1 := Lib.hid X1
  clear X1 hw2
  have HDN := Lib.hid (fun (w5 : World) (F : Fr 0 0 o o w2 w5) => ((HE.out.keep HF2.out (.inr (Nat.zero_le _))).keep F (.inr (Nat.zero_le _))).downs F.fresh h x.cnt HC.out HK0.out HK1.out)
  go_region_with (go_at_call 176; refine (HDN.out _ (by repeat (first | exact Fr.refl HF2.out.fresh | refine Fr.drew ?_))).mono ?_; rintro e w5 ⟨c', ex', rfl, hc', hsum, hoth, o5, F5, E5⟩; have HE5 := Lib.hid E5; have HF5 := Lib.hid ((HF2.out.drew.none r (r + 29)).trans F5); have HC5 := Lib.hid hc'; have HS5 := Lib.hid hsum; have HO5 := Lib.hid hoth; clear E5 F5 hc' hsum hoth)
  all_goals
    have HST := Lib.hid (fun (w6 : World) (F : Fr 0 0 o5 o5 w5 w6) => sticky_any h w6 (HE5.out.spill.keep F (.inr (Nat.zero_le _))))
    have HTO := Lib.hid (fun (w6 : World) (F : Fr 0 0 o5 o5 w5 w6) => total_any h (c' : Int) w6 (HE5.out.spill.keep F (.inr (Nat.zero_le _))) (by omega) (by have := HC5.out; omega))
    have c1 := HE5.out.c1
    have c2 := HE5.out.c2
    have c3 := HE5.out.c3
    have hp5 := HE5.out.blk.lt
    have htz : ((c' : Int) + ex' h == 0) = false := by
      have h1 := HS5.out
      rw [if_neg (by rw [HSS.out]; decide)] at h1
      have h2 := HTT.out
      have h3 := (HE.out.spill).ex0 h
      rw [h1]
      split <;> simp <;> omega
    go_wp2_with (go_at_call 97; refine (HST.out _ (by repeat (first | exact Fr.refl HF5.out.fresh | refine Fr.drewN ?_ _ | refine Fr.drew ?_))).mono ?_; rintro e w6 ⟨rfl, rfl⟩; rw [HSS.out])
    go_at_call 96
    refine (HTO.out _ (Fr.refl HF5.out.fresh)).mono ?_
    rintro e w6 ⟨rfl, n6, rfl⟩
    have c2 := HE5.out.c2
    have c3 := HE5.out.c3
    go_wp2_with fail
    go_at_call 116
    refine ((HE5.out.keep ((Fr.refl (lo := 0) (hi := 0) HF5.out.fresh).drewN n6) (.inr (Nat.zero_le _))).pushP (HF5.out.drewN n6).fresh h HK0.out HK1.out).mono ?_
    rintro e w7 ⟨rfl, o7, F7, E7⟩
    have HF7 := Lib.hid ((HF5.out.drewN n6).trans F7)
    have HE7 := Lib.hid E7
    clear F7 E7
    go_wp2_with fail
    go_at_call 117
    refine (mark_any h c' x (c' : Int) _ HF7.out.fresh HE7.out HX.out HC5.out rfl).mono ?_
    rintro e w8 ⟨rfl, o6, F6, E6⟩
    have HF6 := Lib.hid F6
    have HE6 := Lib.hid E6
    clear F6 E6
    go_wp2_with fail
    go_end0
    refine ⟨c', ex', rfl, HC5.out, HS5.out, HO5.out, o6, HF7.out.trans HF6.out, ?_⟩
    rw [if_neg (fun e => by have h1 := HTT.out; have h2 := e.2; omega), if_pos ⟨HSS.out, by have := HTT.out; omega⟩]
    exact HE6.out
theorem edown_any {o : Own} {r p : Nat} {K : EngK} {ps pt pz pp bw bk : Nat} {v : Value} (h : Int) (x : Ob) (w : World) (hr : 1 ≤ r) (ho : Owned o w) (E : Eng o w r p K ps pt pz pp bw bk v) (hx : K.ob h = some x) :
    Calls Tryz.prog 119 #[.pointer (some ⟨p, 0, none⟩), .int .i64 h] w (EDownPost o w r p K ps pt pz pp bw bk v h x) := by
  cases hs : K.st h with
  | true => exact edown_sticky h x w hr ho E hx hs
  | false =>
    by_cases ht : x.cnt + K.ex h ≤ 1
    · exact edown_zero h x w hr ho E hx hs ht
    · exact edown_pos h x w hr ho E hx hs ht
theorem eup_any {o : Own} {r p : Nat} {K : EngK} {ps pt pz pp bw bk : Nat} {v : Value} (h : Int) (x : Ob) (w : World) (hr : 1 ≤ r) (ho : Owned o w) (E : Eng o w r p K ps pt pz pp bw bk v) (hx : K.ob h = some x) :
    Calls Tryz.prog 118 #[.pointer (some ⟨p, 0, none⟩), .int .i64 h] w (EUpPost o w r p K ps pt pz pp bw bk v h x) := by
  by_cases ht : x.cnt + K.ex h = 0
  · exact eup_zero h x w hr ho E hx ht
  · exact eup_pos h x w hr ho E hx ht
end Go.Proofs.YtlpklloagaccoaaGreat
namespace Go.Proofs.YtlpklloagaccoaaGreat
open Go.RowKit
set_option linter.unusedVariables false

/-- An engine in plain words: objects (their headers' counts left out), whole counts. -/
structure EngS where
  L : Al
  ob : Int → Option Ob
  lim : Int
  tot : Int → Int
  st : Int → Bool
  Z : Int → Bool
  Pu : Int → Bool
  wat : Int → Bool
  weak : Int → Bool
  pend : List Int
def cntO (x : Option Ob) : Int := match x with | some x => x.cnt | none => 0
structure AbsK (K : EngK) (S : EngS) : Prop where
  L : S.L = K.L
  ob : ∀ h, S.ob h = (K.ob h).map fun x => setCnt x 0
  lim : S.lim = K.lim
  tot : ∀ h, S.tot h = cntO (K.ob h) + K.ex h
  st : S.st = K.st
  Z : S.Z = K.Z
  Pu : S.Pu = K.Pu
  wat : S.wat = K.wat
  weak : S.weak = K.weak
  pend : S.pend = K.pend
def EngX (o : Own) (w : World) (r p : Nat) (S : EngS) (ps pt pz pp bw bk : Nat) (v : Value) : Prop := ∃ K, Eng o w r p K ps pt pz pp bw bk v ∧ AbsK K S
def EngXAt (o : Own) (w : World) (r p : Nat) (S : EngS) (ps pt pz pp bw bk : Nat) (v : Value) (w' : World) : Prop := ∃ o', Fr r (r + 29) o o' w w' ∧ EngX o' w' r p S ps pt pz pp bw bk v
def EngRep (o : Own) (w : World) (r p : Nat) (S : EngS) : Prop := ∃ ps pt pz pp bw bk v, EngX o w r p S ps pt pz pp bw bk v
theorem EngX.keep {lo hi : Nat} {o o' : Own} {w w' : World} {r p : Nat} {S : EngS} {ps pt pz pp bw bk : Nat} {v : Value} (h : EngX o w r p S ps pt pz pp bw bk v) (k : Fr lo hi o o' w w') (hr : r + 29 ≤ lo ∨ hi ≤ r) : EngX o' w' r p S ps pt pz pp bw bk v :=
  let ⟨K, E, A⟩ := h; ⟨K, E.keep k hr, A⟩
theorem EngRep.keep {lo hi : Nat} {o o' : Own} {w w' : World} {r p : Nat} {S : EngS} (h : EngRep o w r p S) (k : Fr lo hi o o' w w') (hr : r + 29 ≤ lo ∨ hi ≤ r) : EngRep o' w' r p S :=
  let ⟨a, b, c, d, e, f, v, s⟩ := h; ⟨a, b, c, d, e, f, v, s.keep k hr⟩
theorem AbsK.of_some {K : EngK} {S : EngS} (A : AbsK K S) {h : Int} {x : Ob} (hx : S.ob h = some x) : ∃ y, K.ob h = some y ∧ x = setCnt y 0 ∧ S.tot h = y.cnt + K.ex h := by
  have h1 := A.ob h
  have h2 := A.tot h
  cases hy : K.ob h with
  | none => rw [hy, hx] at h1; cases h1
  | some y =>
    rw [hy] at h1 h2
    rw [hx] at h1
    exact ⟨y, rfl, by simpa using h1, h2⟩
theorem AbsK.of_none {K : EngK} {S : EngS} (A : AbsK K S) {h : Int} (hx : S.ob h = none) : K.ob h = none := by
  have h1 := A.ob h
  cases hy : K.ob h with
  | none => rfl
  | some y => rw [hy, hx] at h1; cases h1
/-- One more. -/
def upA (S : EngS) (h : Int) : EngS :=
  { S with tot := updI S.tot h (if S.st h then S.tot h else S.tot h + 1), st := updB S.st h (S.st h || decide (S.lim ≤ S.tot h + 1)), Z := (if S.tot h = 0 then updS S.Z h false else S.Z), Pu := (if S.tot h = 0 then updS S.Pu h true else S.Pu) }
/-- One less. -/
def downA (S : EngS) (h : Int) : EngS :=
  { S with tot := updI S.tot h (if S.st h then S.tot h else if S.tot h = 0 then 0 else S.tot h - 1), Z := (if S.st h = false ∧ S.tot h ≤ 1 then updS S.Z h true else S.Z), Pu := (if S.st h = false ∧ ¬ S.tot h ≤ 1 then updS S.Pu h true else S.Pu) }
theorem AbsK.turn {K : EngK} {S : EngS} (A : AbsK K S) {h : Int} {y : Ob} (hy : K.ob h = some y) {c' : Nat} {ex' : Int → Int} {t : Int} (hs : (c' : Int) + ex' h = t) (ho : ∀ k, k ≠ h → ex' k = K.ex k) (st' Z' Pu' : Int → Bool) :
    AbsK { K with ob := updI K.ob h (some (setCnt y c')), ex := ex', st := st', Z := Z', Pu := Pu' } { S with tot := updI S.tot h t, st := st', Z := Z', Pu := Pu' } := by
  refine ⟨A.L, fun k => ?_, A.lim, fun k => ?_, rfl, rfl, rfl, A.wat, A.weak, A.pend⟩
  · show S.ob k = (updI K.ob h _ k).map _
    unfold updI
    by_cases e : k = h
    · rw [if_pos e, e, A.ob h, hy]; rfl
    · rw [if_neg e]; exact A.ob k
  · show updI S.tot h t k = cntO (updI K.ob h _ k) + ex' k
    unfold updI
    by_cases e : k = h
    · rw [if_pos e, if_pos e, e]; exact hs.symm
    · rw [if_neg e, if_neg e, ho k e]; exact A.tot k
def UnitX (o : Own) (w : World) (r p : Nat) (S : EngS) (ps pt pz pp bw bk : Nat) (v : Value) (e : Ending) (w' : World) : Prop := e = .returned (.tuple #[]) ∧ EngXAt o w r p S ps pt pz pp bw bk v w'
theorem xup {o : Own} {r p : Nat} {S : EngS} {ps pt pz pp bw bk : Nat} {v : Value} (h : Int) (x : Ob) (w : World) (hr : 1 ≤ r) (ho : Owned o w) (E : EngX o w r p S ps pt pz pp bw bk v) (hx : S.ob h = some x) :
    Calls Tryz.prog 118 #[.pointer (some ⟨p, 0, none⟩), .int .i64 h] w (UnitX o w r p (upA S h) ps pt pz pp bw bk v) := by
  obtain ⟨K, E, A⟩ := E
  obtain ⟨y, hy, _, ht⟩ := A.of_some hx
  refine (eup_any h y w hr ho E hy).mono ?_
  rintro e w' ⟨c', ex', rfl, _, hs, hoth, o', F, E'⟩
  refine ⟨rfl, o', F, _, E', ?_⟩
  have T := A.turn hy hs hoth (updB K.st h (K.st h || decide (K.lim ≤ y.cnt + K.ex h + 1))) (if y.cnt + K.ex h = 0 then updS K.Z h false else K.Z) (if y.cnt + K.ex h = 0 then updS K.Pu h true else K.Pu)
  unfold upA
  rw [ht, A.st, A.lim, A.Z, A.Pu]
  rw [A.lim] at T
  exact T
theorem xdown {o : Own} {r p : Nat} {S : EngS} {ps pt pz pp bw bk : Nat} {v : Value} (h : Int) (x : Ob) (w : World) (hr : 1 ≤ r) (ho : Owned o w) (E : EngX o w r p S ps pt pz pp bw bk v) (hx : S.ob h = some x) :
    Calls Tryz.prog 119 #[.pointer (some ⟨p, 0, none⟩), .int .i64 h] w (UnitX o w r p (downA S h) ps pt pz pp bw bk v) := by
  obtain ⟨K, E, A⟩ := E
  obtain ⟨y, hy, _, ht⟩ := A.of_some hx
  refine (edown_any h y w hr ho E hy).mono ?_
  rintro e w' ⟨c', ex', rfl, _, hs, hoth, o', F, E'⟩
  refine ⟨rfl, o', F, _, E', ?_⟩
  have T := A.turn hy hs hoth K.st (if K.st h = false ∧ y.cnt + K.ex h ≤ 1 then updS K.Z h true else K.Z) (if K.st h = false ∧ ¬ y.cnt + K.ex h ≤ 1 then updS K.Pu h true else K.Pu)
  unfold downA
  rw [ht, A.st, A.Z, A.Pu]
  exact T
end Go.Proofs.YtlpklloagaccoaaGreat
