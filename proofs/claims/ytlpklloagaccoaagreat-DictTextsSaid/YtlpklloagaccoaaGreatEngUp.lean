/- Counts go up and down (count.up, down). Conditions: the engine is as one that was made; the handle is an object's. -/
import Derived.Test.YtlpklloagaccoaaGreatEngW
import Derived.Deep.RegionWith
namespace Go.Proofs.YtlpklloagaccoaaGreat
open Go.RowKit
set_option linter.unusedVariables false

theorem Fr.unown {lo hi : Nat} {o o' : Own} {w w' : World} (F : Fr lo hi o o' w w') (hlo : 0 < lo) {b : Nat} {x : Obj} (hb : w.heap[b]? = some x) (ho : o b = 0) : w'.heap[b]? = some x ∧ o' b = 0 :=
  ⟨(F.block b (lt_of_block hb) (.inl (by omega))).trans hb, (F.own b (lt_of_block hb)).trans ho⟩
def EngAt (o : Own) (w : World) (r p : Nat) (K : EngK) (ps pt pz pp bw bk : Nat) (v : Value) (w' : World) : Prop := ∃ o', Fr r (r + 29) o o' w w' ∧ Eng o' w' r p K ps pt pz pp bw bk v
section
variable {o : Own} {w : World} {r p : Nat} {K : EngK} {ps pt pz pp bw bk : Nat} {v : Value}
theorem Eng.dropZ (E : Eng o w r p K ps pt pz pp bw bk v) (ho : Owned o w) (h : Int) (k0 : 0 ≤ h) (k1 : h < KB) :
    Calls Tryz.prog 129 #[.pointer (some ⟨pz, 0, none⟩), .int .i64 h] w fun e w' => e = .returned (.bool (K.Z h)) ∧ EngAt o w r p { K with Z := updS K.Z h false } ps pt pz pp bw bk v w' :=
  (drop_any h w ho E.zeros k0 k1).mono fun e w' hh => by
    obtain ⟨h1, o', F, L⟩ := hh
    exact ⟨h1, o', F.mono (by omega) (by omega), E.zerosT F L⟩
theorem Eng.dropP (E : Eng o w r p K ps pt pz pp bw bk v) (ho : Owned o w) (h : Int) (k0 : 0 ≤ h) (k1 : h < KB) :
    Calls Tryz.prog 129 #[.pointer (some ⟨pp, 0, none⟩), .int .i64 h] w fun e w' => e = .returned (.bool (K.Pu h)) ∧ EngAt o w r p { K with Pu := updS K.Pu h false } ps pt pz pp bw bk v w' :=
  (drop_any h w ho E.purple k0 k1).mono fun e w' hh => by
    obtain ⟨h1, o', F, L⟩ := hh
    exact ⟨h1, o', F.mono (by omega) (by omega), E.purpleT F L⟩
theorem Eng.pushZ (E : Eng o w r p K ps pt pz pp bw bk v) (ho : Owned o w) (h : Int) (k0 : 0 ≤ h) (k1 : h < KB) :
    Calls Tryz.prog 116 #[.pointer (some ⟨pz, 0, none⟩), .int .i64 h] w fun e w' => e = .returned (.bool (!K.Z h)) ∧ EngAt o w r p { K with Z := updS K.Z h true } ps pt pz pp bw bk v w' :=
  (lpush_any h w ho E.zeros k0 k1).mono fun e w' hh => by
    obtain ⟨h1, o', F, L⟩ := hh
    exact ⟨h1, o', F.mono (by omega) (by omega), E.zerosT F L⟩
theorem Eng.pushP (E : Eng o w r p K ps pt pz pp bw bk v) (ho : Owned o w) (h : Int) (k0 : 0 ≤ h) (k1 : h < KB) :
    Calls Tryz.prog 116 #[.pointer (some ⟨pp, 0, none⟩), .int .i64 h] w fun e w' => e = .returned (.bool (!K.Pu h)) ∧ EngAt o w r p { K with Pu := updS K.Pu h true } ps pt pz pp bw bk v w' :=
  (lpush_any h w ho E.purple k0 k1).mono fun e w' hh => by
    obtain ⟨h1, o', F, L⟩ := hh
    exact ⟨h1, o', F.mono (by omega) (by omega), E.purpleT F L⟩
/-- Behind Up, Down of the table. -/
def CntAt (o : Own) (w : World) (r p : Nat) (K : EngK) (ps pt pz pp bw bk : Nat) (v : Value) (h : Int) (st' : Int → Bool) (tot : Int) (e : Ending) (w' : World) : Prop :=
  ∃ (c' : Nat) (ex' : Int → Int), e = .returned (.int .i64 (c' : Nat)) ∧ c' ≤ 255 ∧ (c' : Int) + ex' h = tot ∧ (∀ k, k ≠ h → ex' k = K.ex k) ∧ EngAt o w r p { K with ex := ex', st := st' } ps pt pz pp bw bk v w'
theorem Eng.cntOf (E : Eng o w r p K ps pt pz pp bw bk v) {h tot : Int} {st' : Int → Bool} {e : Ending} {w' : World} (H : CountPost o w (r + 17) pt K.lim K.ex K.st st' h tot e w') : CntAt o w r p K ps pt pz pp bw bk v h st' tot e w' := by
  obtain ⟨c', ex', h1, F, S, h2, h3, h4, h5⟩ := H
  obtain ⟨c, rfl⟩ := Int.eq_ofNat_of_zero_le h2
  exact ⟨c, ex', h1, by omega, h4, h5, o, F.mono (by omega) (by omega), E.spillT F S⟩
end
theorem Eng.ups {o : Own} {w : World} {r p : Nat} {K : EngK} {ps pt pz pp bw bk : Nat} {v : Value} (E : Eng o w r p K ps pt pz pp bw bk v) (ho : Owned o w) (h : Int) (c : Nat) (hc : c ≤ 255) (k0 : 0 ≤ h) (k1 : h < KB) :
    Calls Tryz.prog 175 #[.pointer (some ⟨pt, 0, none⟩), .int .i64 h, .int .i64 (c : Nat)] w (CntAt o w r p K ps pt pz pp bw bk v h (updB K.st h (K.st h || decide (K.lim ≤ c + K.ex h + 1))) (if K.st h then c + K.ex h else c + K.ex h + 1)) :=
  (up_any h c w ho E.spill (by omega) (by omega) k0 k1).mono fun e w' hh => E.cntOf hh
theorem Eng.downs {o : Own} {w : World} {r p : Nat} {K : EngK} {ps pt pz pp bw bk : Nat} {v : Value} (E : Eng o w r p K ps pt pz pp bw bk v) (ho : Owned o w) (h : Int) (c : Nat) (hc : c ≤ 255) (k0 : 0 ≤ h) (k1 : h < KB) :
    Calls Tryz.prog 176 #[.pointer (some ⟨pt, 0, none⟩), .int .i64 h, .int .i64 (c : Nat)] w (CntAt o w r p K ps pt pz pp bw bk v h K.st (if K.st h then c + K.ex h else if c + K.ex h = 0 then 0 else c + K.ex h - 1)) :=
  (down_any h c w ho E.spill (by omega) (by omega) k0 k1).mono fun e w' hh => E.cntOf hh
/-- Behind up. -/
def EUpPost (o : Own) (w : World) (r p : Nat) (K : EngK) (ps pt pz pp bw bk : Nat) (v : Value) (h : Int) (x : Ob) (e : Ending) (w' : World) : Prop :=
  ∃ (c' : Nat) (ex' : Int → Int), e = .returned (.tuple #[]) ∧ c' ≤ 255 ∧ (c' : Int) + ex' h = (if K.st h then x.cnt + K.ex h else x.cnt + K.ex h + 1) ∧ (∀ k, k ≠ h → ex' k = K.ex k) ∧
    EngAt o w r p { K with ob := updI K.ob h (some (setCnt x c')), ex := ex', st := updB K.st h (K.st h || decide (K.lim ≤ x.cnt + K.ex h + 1)), Z := (if x.cnt + K.ex h = 0 then updS K.Z h false else K.Z), Pu := (if x.cnt + K.ex h = 0 then updS K.Pu h true else K.Pu) } ps pt pz pp bw bk v w'
set_option maxRecDepth 100000 in
set_option maxHeartbeats 2000000 in
theorem eup_zero {o : Own} {r p : Nat} {K : EngK} {ps pt pz pp bw bk : Nat} {v : Value} (h : Int) (x : Ob) (w : World) (hr : 1 ≤ r) (ho : Owned o w) (E : Eng o w r p K ps pt pz pp bw bk v) (hx : K.ob h = some x) (ht : x.cnt + K.ex h = 0) :
    Calls Tryz.prog 118 #[.pointer (some ⟨p, 0, none⟩), .int .i64 h] w (EUpPost o w r p K ps pt pz pp bw bk v h x) := by
  have hkr := E.sp.hrange hx
  have hcn := (E.sp.obok hx).2.2.2
  have k0 : 0 ≤ h := by omega
  have k1 : h < KB := by simp only [KB]; omega
  have HK0 := Lib.hid k0
  have HK1 := Lib.hid k1
  have HHd := Lib.hid (fun (w1 : World) (F : Fr 0 0 o o w w1) => show Calls Tryz.prog 54 #[.pointer (some ⟨ps, 0, none⟩), .int .i64 h] w1 fun e w' => ∃ (col : Nat) (z : Bool), e = .returned (.tuple #[hdV x.kind x.cells x.raw x.cnt col z false, .int .i64 0]) ∧ Fr 0 0 o o w w' from
    (ohead_yes h x w1 F.fresh (E.sp.keep F (.inr (Nat.zero_le _))) hx).mono fun e w' h => by
      obtain ⟨c2, z2, _, h1, h2⟩ := h
      exact ⟨c2, z2, h1, F.below h2⟩)
  have HT := Lib.hid (fun (w1 : World) (F : Fr 0 0 o o w w1) => show Calls Tryz.prog 96 #[.pointer (some ⟨pt, 0, none⟩), .int .i64 h, .int .i64 (x.cnt : Nat)] w1 fun e w' => e = .returned (.int .i64 0) ∧ ∃ n, w' = w1.drewN n from by
    rw [← ht]; exact total_any h x.cnt w1 (E.spill.keep F (.inr (Nat.zero_le _))) (by omega) (by omega))
  have HE := Lib.hid E
  have HO := Lib.hid ho
  have HX := Lib.hid hx
  have HTT := Lib.hid ht
  have HC := Lib.hid hcn
  have c0 := E.c0
  have c1 := E.c1
  have hpl := E.blk.lt
  clear E hx ho ht hcn hkr k0 k1
  go_enter Tryz.func118, Tryz.ntmps118
  go_wp2_with fail
  go_at_call 54
  refine (HHd.out _ (by repeat (first | exact Fr.refl HO.out | refine Fr.drew ?_ | refine Fr.alloc ?_ _))).mono ?_
  rintro e w1 ⟨col, z, rfl, F1⟩
  have c0 := F1.cell0 c0
  have c1 := F1.cell0 c1
  have hp1 : p < w1.heap.size := Nat.lt_of_lt_of_le hpl F1.size
  have HF1 := Lib.hid F1
  clear F1
  have c2 := HF1.out.cell0 HE.out.c2
  have c3 := HF1.out.cell0 HE.out.c3
  have X1 := heap_alloc_new w1 (hdX x.kind x.cells x.raw x.cnt col z)
  have HF2 := Lib.hid (HF1.out.alloc (hdX x.kind x.cells x.raw x.cnt col z))
  have HOX := Lib.hid (HF1.out.fresh _ (Nat.le_refl _))
  go_wp2_with fail
  unfold hdX at X1 HF2
  generalize hw2 : w1.alloc (.cells #[.int .i64 (x.kind : Nat), .int .i64 (x.cells : Nat), .int .i64 (x.raw : Nat), .int .i64 (x.cnt : Nat), .int .i64 (col : Nat), .bool z, .bool false] 65 (0, 0)) = w2 at *
  have c0 := HF2.out.cell0 HE.out.c0
  have c1 := HF2.out.cell0 HE.out.c1
  have c2 := HF2.out.cell0 HE.out.c2
  have c3 := HF2.out.cell0 HE.out.c3
  have x3 : w2.cell? ⟨w1.heap.size, 3, none⟩ = some (.int .i64 (x.cnt : Nat)) := by simp [World.cell?, X1]
  have HX1 := Lib.hid X1
  clear X1 hw2
  go_quiet ((go_at_call 96; exact Calls.quiet_of (HT.out _ (HF2.out.drewN _))))
  go_wp2_with fail
  go_at_call 129
  refine ((HE.out.keep (HF2.out.drewN nq) (.inr (Nat.zero_le _))).dropZ (HF2.out.drewN nq).fresh h HK0.out HK1.out).mono ?_
  rintro e w3 ⟨rfl, o3, F3, E3⟩
  have U3 := F3.unown (by omega) (b := w1.heap.size) (x := hdX x.kind x.cells x.raw x.cnt col z) HX1.out HOX.out
  have c0 := E3.c0
  have c1 := E3.c1
  have c3 := E3.c3
  have HE3 := Lib.hid E3
  have HU3 := Lib.hid U3
  have HF3 := Lib.hid (((HF2.out.drewN nq).none r (r + 29)).trans F3)
  clear U3 F3 E3
  go_wp2_with fail
  go_at_call 116
  refine (HE3.out.pushP HF3.out.fresh h HK0.out HK1.out).mono ?_
  rintro e w4 ⟨rfl, o4, F4, E4⟩
  have U4 := F4.unown (by omega) HU3.out.1 HU3.out.2
  have X4 := U4.1
  unfold hdX at X4
  have y3 : w4.cell? ⟨w1.heap.size, 3, none⟩ = some (.int .i64 (x.cnt : Nat)) := by simp [World.cell?, X4]
  have c1 := E4.c1
  have hp4 := E4.blk.lt
  have HUP := Lib.hid (fun (w5 : World) (F : Fr 0 0 o4 o4 w4 w5) => (E4.keep F (.inr (Nat.zero_le _))).ups F.fresh h x.cnt HC.out HK0.out HK1.out)
  have HF4 := Lib.hid (HF3.out.trans F4)
  clear U4 X4 F4 E4
  go_wp2_with fail
  go_region_with (first
    | (go_at_call 175; refine (HUP.out _ (by repeat (first | exact Fr.refl HF4.out.fresh | refine Fr.drew ?_))).mono ?_; rintro e w5 ⟨c', ex', rfl, hc', hsum, hoth, o5, F5, E5⟩; have HM5 := Lib.hid (fun (w6 : World) (F : Fr 0 0 o5 o5 w5 w6) => mark_any h c' x (c' : Int) w6 F.fresh (E5.keep F (.inr (Nat.zero_le _))) HX.out hc' rfl); have HF5 := Lib.hid (HF4.out.drew.trans F5); have HC5 := Lib.hid hc'; have HS5 := Lib.hid hsum; have HO5 := Lib.hid hoth; clear E5 F5 hc' hsum hoth)
    | (go_at_call 117; refine (HM5.out _ (by repeat (first | exact Fr.refl HF5.out.fresh | refine Fr.drew ?_))).mono ?_; rintro e w6 ⟨rfl, o6, F6, E6⟩; have HF6 := Lib.hid F6; clear F6; have HE6 := Lib.hid E6; clear E6))
  all_goals
    go_wp2_with fail
    go_end0
    refine ⟨c', ex', rfl, HC5.out, HS5.out, HO5.out, o6, HF5.out.trans HF6.out, ?_⟩
    rw [if_pos HTT.out, if_pos HTT.out]
    exact HE6.out
set_option maxRecDepth 100000 in
set_option maxHeartbeats 2000000 in
theorem eup_pos {o : Own} {r p : Nat} {K : EngK} {ps pt pz pp bw bk : Nat} {v : Value} (h : Int) (x : Ob) (w : World) (hr : 1 ≤ r) (ho : Owned o w) (E : Eng o w r p K ps pt pz pp bw bk v) (hx : K.ob h = some x) (ht : ¬ x.cnt + K.ex h = 0) :
    Calls Tryz.prog 118 #[.pointer (some ⟨p, 0, none⟩), .int .i64 h] w (EUpPost o w r p K ps pt pz pp bw bk v h x) := by
  have hkr := E.sp.hrange hx
  have hcn := (E.sp.obok hx).2.2.2
  have k0 : 0 ≤ h := by omega
  have k1 : h < KB := by simp only [KB]; omega
  have HK0 := Lib.hid k0
  have HK1 := Lib.hid k1
  have HHd := Lib.hid (fun (w1 : World) (F : Fr 0 0 o o w w1) => show Calls Tryz.prog 54 #[.pointer (some ⟨ps, 0, none⟩), .int .i64 h] w1 fun e w' => ∃ (col : Nat) (z : Bool), e = .returned (.tuple #[hdV x.kind x.cells x.raw x.cnt col z false, .int .i64 0]) ∧ Fr 0 0 o o w w' from
    (ohead_yes h x w1 F.fresh (E.sp.keep F (.inr (Nat.zero_le _))) hx).mono fun e w' h => by
      obtain ⟨c2, z2, _, h1, h2⟩ := h
      exact ⟨c2, z2, h1, F.below h2⟩)
  have HT := Lib.hid (fun (w1 : World) (F : Fr 0 0 o o w w1) => show Calls Tryz.prog 96 #[.pointer (some ⟨pt, 0, none⟩), .int .i64 h, .int .i64 (x.cnt : Nat)] w1 fun e w' => e = .returned (.int .i64 (x.cnt + K.ex h)) ∧ ∃ n, w' = w1.drewN n from by
    exact total_any h x.cnt w1 (E.spill.keep F (.inr (Nat.zero_le _))) (by omega) (by omega))
  have HE := Lib.hid E
  have HO := Lib.hid ho
  have HX := Lib.hid hx
  have HTT := Lib.hid ht
  have HC := Lib.hid hcn
  have hzf : (((x.cnt : Nat) : Int) + K.ex h == 0) = false := by simpa using ht
  have c0 := E.c0
  have c1 := E.c1
  have hpl := E.blk.lt
  clear E hx ho ht hcn hkr k0 k1
  go_enter Tryz.func118, Tryz.ntmps118
  go_wp2_with fail
  go_at_call 54
  refine (HHd.out _ (by repeat (first | exact Fr.refl HO.out | refine Fr.drew ?_ | refine Fr.alloc ?_ _))).mono ?_
  rintro e w1 ⟨col, z, rfl, F1⟩
  have c0 := F1.cell0 c0
  have c1 := F1.cell0 c1
  have hp1 : p < w1.heap.size := Nat.lt_of_lt_of_le hpl F1.size
  have HF1 := Lib.hid F1
  clear F1
  have c2 := HF1.out.cell0 HE.out.c2
  have c3 := HF1.out.cell0 HE.out.c3
  have X1 := heap_alloc_new w1 (hdX x.kind x.cells x.raw x.cnt col z)
  have HF2 := Lib.hid (HF1.out.alloc (hdX x.kind x.cells x.raw x.cnt col z))
  have HOX := Lib.hid (HF1.out.fresh _ (Nat.le_refl _))
  go_wp2_with fail
  unfold hdX at X1 HF2
  generalize hw2 : w1.alloc (.cells #[.int .i64 (x.kind : Nat), .int .i64 (x.cells : Nat), .int .i64 (x.raw : Nat), .int .i64 (x.cnt : Nat), .int .i64 (col : Nat), .bool z, .bool false] 65 (0, 0)) = w2 at *
  have c0 := HF2.out.cell0 HE.out.c0
  have c1 := HF2.out.cell0 HE.out.c1
  have c2 := HF2.out.cell0 HE.out.c2
  have c3 := HF2.out.cell0 HE.out.c3
  have x3 : w2.cell? ⟨w1.heap.size, 3, none⟩ = some (.int .i64 (x.cnt : Nat)) := by simp [World.cell?, X1]
  have HX1 := Lib.hid X1
  clear X1 hw2
  go_quiet ((go_at_call 96; exact Calls.quiet_of (HT.out _ (HF2.out.drewN _))))
  have HUP := Lib.hid (fun (w5 : World) (F : Fr 0 0 o o w2 w5) => ((HE.out.keep HF2.out (.inr (Nat.zero_le _))).keep F (.inr (Nat.zero_le _))).ups F.fresh h x.cnt HC.out HK0.out HK1.out)
  go_wp2_with fail
  go_region_with (first
    | (go_at_call 175; refine (HUP.out _ (by repeat (first | exact Fr.refl HF2.out.fresh | refine Fr.drewN ?_ _ | refine Fr.drew ?_))).mono ?_; rintro e w5 ⟨c', ex', rfl, hc', hsum, hoth, o5, F5, E5⟩; have HM5 := Lib.hid (fun (w6 : World) (F : Fr 0 0 o5 o5 w5 w6) => mark_any h c' x (c' : Int) w6 F.fresh (E5.keep F (.inr (Nat.zero_le _))) HX.out hc' rfl); have HF5 := Lib.hid (((HF2.out.drewN nq).drew.none r (r + 29)).trans F5); have HC5 := Lib.hid hc'; have HS5 := Lib.hid hsum; have HO5 := Lib.hid hoth; clear E5 F5 hc' hsum hoth)
    | (go_at_call 117; refine (HM5.out _ (by repeat (first | exact Fr.refl HF5.out.fresh | refine Fr.drew ?_))).mono ?_; rintro e w6 ⟨rfl, o6, F6, E6⟩; have HF6 := Lib.hid F6; clear F6; have HE6 := Lib.hid E6; clear E6))
  all_goals
    go_wp2_with fail
    go_end0
    refine ⟨c', ex', rfl, HC5.out, HS5.out, HO5.out, o6, HF5.out.trans HF6.out, ?_⟩
    rw [if_neg HTT.out, if_neg HTT.out]
    exact HE6.out
end Go.Proofs.YtlpklloagaccoaaGreat
