/- Spaces of objects: New, words, Make. Conditions: nothing was freed; parts of headers in range. -/
import Derived.Test.YtlpklloagaccoaaGreatSpace
import Derived.Test.YtlpklloagaccoaaGreatAlloc3
import Derived.Test.YtlpklloagaccoaaGreatArNew
import Derived.Outline
namespace Go.Proofs.YtlpklloagaccoaaGreat
open Go.RowKit
set_option linter.unusedVariables false

def newAl (n : Nat) : Al := ⟨n, 1, fun c => (0, perN c), true⟩
def SpaceNew (o : Own) (w : World) (r n : Nat) (e : Ending) (w' : World) : Prop :=
  ∃ p o', e = .returned (.pointer (some ⟨p, 0, none⟩)) ∧ Fr r (r + 16) o o' w w' ∧ SpaceRep o' w' r p (newAl n) (fun _ => none)
theorem space_made {o o1 : Own} {w w1 : World} {r n q : Nat} (h1 : 1 ≤ n) (F : Fr (r + 1) (r + 1 + 15) o o1 w w1) (A : ArenaRep o1 w1 (r + 1) q (newAr n)) :
    SpaceNew o w r n (.returned (.pointer (some ⟨w1.heap.size, 0, none⟩))) (w1.alloc (.cells #[.pointer (some ⟨q, 0, none⟩)] 111)) := by
  have F2 := (Fr.refl (lo := 0) (hi := 0) F.fresh).give (.cells #[.pointer (some ⟨q, 0, none⟩)] 111) r
  exact ⟨_, _, rfl, (F.mono (by omega) (by omega)).give _ r, q, newAr n, Blk.new _ r, A.keep F2 (.inr (Nat.zero_le _)), ⟨(newAr_fresh h1).ok, fun _ _ h => (by cases h), fun _ _ h => (by cases h), fun _ _ h => (by cases h)⟩, ⟨rfl, rfl, rfl, fun _ => newAr_fresh h1, fun e => (by cases e)⟩⟩
theorem SpaceNew.drew {o : Own} {w : World} {r n : Nat} {e : Ending} {w' : World} (h : SpaceNew o w r n e w') : SpaceNew o w r n e w'.drew := by
  obtain ⟨p, o', h1, h2, h3⟩ := h
  exact ⟨p, o', h1, h2.drew, h3.keep (Fr.refl (lo := 0) (hi := 0) h2.fresh).drew (.inr (Nat.zero_le _))⟩
set_option maxRecDepth 100000 in
theorem space_new {o : Own} (r n : Nat) (w : World) (ho : Owned o w) (h0 : 1 < n) (h1 : n ≤ 4096) :
    Calls Tryz.prog 48 #[.int .i64 (n : Nat), .int .i64 0] w (SpaceNew o w r n) := by
  have HA := Lib.hid (arena_new (r + 1) n w ho h0 h1)
  have HD := Lib.hid (fun (o1 : Own) (w1 : World) (q : Nat) (F : Fr (r + 1) (r + 1 + 15) o o1 w w1) (A : ArenaRep o1 w1 (r + 1) q (newAr n)) => space_made (by omega) F A)
  clear h0 h1
  go_enter Tryz.func48, Tryz.ntmps48
  go_wp2_with fail
  go_at_call 100
  refine HA.out.mono ?_
  rintro e w1 ⟨q, o1, rfl, F1, A1⟩
  have H := Lib.hid (HD.out _ _ _ F1 A1)
  clear F1 A1
  go_wp2_with fail
  go_ret
  exact H.out
theorem words_any (k c r n col : Nat) (z d : Bool) (w : World) (hc : c ≤ 4000) (hr : r ≤ 4000) :
    Calls Tryz.prog 103 #[hdV k c r n col z d] w fun e w' => e = .returned (.int .i64 (wordsN c r : Nat)) ∧ ∃ o, w' = w.alloc o := by
  have c1 : (0 : Int) ≤ (c : Int) := by omega
  have c2 : (c : Int) ≤ 4000 := by omega
  have r1 : (0 : Int) ≤ (r : Int) := by omega
  have r2 : (r : Int) ≤ 4000 := by omega
  go_enter Tryz.func103, Tryz.ntmps103
  go_wp2_with fail
  go_ret
  exact ⟨ret_int (by unfold wordsN; omega), _, rfl⟩
theorem rightB_yes {k c r n col : Nat} (hk : 1 ≤ k ∧ k ≤ 8) (hc : c ≤ 4000) (hr : r ≤ 4000) (hn : n ≤ 255) (hcol : col ≤ 3) : rightB k c r n col = true := by
  simp only [rightB, inB, Bool.and_eq_true, decide_eq_true_eq]; omega
/-- Only new blocks have come, the first of them is x. -/
structure Grew (o : Own) (w : World) (x : Obj) (w1 : World) : Prop where
  fr : Fr 0 0 o o w w1
  x_ : w1.heap[w.heap.size]? = some x
theorem Grew.base {o : Own} {w : World} (ho : Owned o w) (x : Obj) : Grew o w x (w.alloc x) := ⟨(Fr.refl ho).alloc x, heap_alloc_new w x⟩
theorem Grew.drew {o : Own} {w w1 : World} {x : Obj} (h : Grew o w x w1) : Grew o w x w1.drew := ⟨h.fr.drew, h.x_⟩
theorem Grew.alloc {o : Own} {w w1 : World} {x : Obj} (h : Grew o w x w1) (y : Obj) : Grew o w x (w1.alloc y) := ⟨h.fr.alloc y, (heap_alloc_old w1 y (lt_of_block h.x_)).trans h.x_⟩
theorem Grew.below {o : Own} {w w1 w2 : World} {x : Obj} (h : Grew o w x w1) (k : Below w1.heap.size w1 w2) : Grew o w x w2 := ⟨h.fr.below k, (k.block _ (lt_of_block h.x_)).trans h.x_⟩
/-- Behind Make. -/
def MakePost (o : Own) (w : World) (r p : Nat) (L : Al) (ob : Int → Option Ob) (kind cells raw : Nat) (e : Ending) (w' : World) : Prop :=
  (∀ L' a, tookL L (wordsN cells raw) = some (L', a) → e = .returned (.tuple #[.int .i64 (a : Nat), .int .i64 0]) ∧ ob (a : Int) = none ∧ 64 ≤ a ∧ a + wordsN cells raw ≤ L.n * 64 ∧ L'.ok = true ∧ L'.n = L.n ∧ ∃ o', Fr r (r + 16) o o' w w' ∧ SpaceRep o' w' r p L' (updI ob (a : Int) (some (newOb kind cells raw)))) ∧
  (tookL L (wordsN cells raw) = none → e = .returned (.tuple #[.int .i64 0, .int .i64 2]) ∧ ∃ o', Fr r (r + 16) o o' w w' ∧ SpaceRep o' w' r p L ob)
theorem right_yes (k c r n col : Nat) (z d : Bool) (w : World) (h : rightB k c r n col = true) : Calls Tryz.prog 101 #[hdV k c r n col z d] w fun e w' => e = .returned (.bool true) ∧ ∃ o, w.alloc o = w' := by
  rw [← h]; exact right_any k c r n col z d w
set_option maxRecDepth 100000 in
set_option maxHeartbeats 1000000 in
theorem smake_no {o : Own} {r p : Nat} {L : Al} {ob : Int → Option Ob} (kind cells raw : Nat) (w : World) (ho : Owned o w) (S : SpaceRep o w r p L ob) (hok : L.ok = true) (hk : 1 ≤ kind ∧ kind ≤ 8) (hc : cells ≤ 4000) (hr : raw ≤ 4000) (hT : tookL L (wordsN cells raw) = none) :
    Calls Tryz.prog 49 #[.pointer (some ⟨p, 0, none⟩), .int .i64 (kind : Nat), .int .i64 (cells : Nat), .int .i64 (raw : Nat)] w (MakePost o w r p L ob kind cells raw) := by
  obtain ⟨pa, A, S⟩ := S
  have hw := wordsN_pos cells raw
  have hw2 : wordsN cells raw ≤ 65536 := by unfold wordsN; omega
  have hal : allocS A (wordsN cells raw) = none := by
    rcases S.al.alloc hok (wordsN cells raw) with ⟨_, h⟩ | ⟨_, _, _, h, _⟩
    · exact h
    · rw [hT] at h; cases h
  have HA := Lib.hid (fun (w1 : World) (F : Fr 0 0 o o w w1) => show Calls Tryz.prog 102 #[.pointer (some ⟨pa, 0, none⟩), .int .i64 (wordsN cells raw : Nat)] w1 fun e w' => e = .returned (.tuple #[.int .i64 0, .int .i64 2]) ∧ ∃ o', Fr r (r + 16) o o' w w' ∧ Space o' w' r p L ob pa A from
    (alloc_any (wordsN cells raw) w1 F.fresh (S.ar.keep F (.inr (Nat.zero_le _))) (S.al.ok hok) hw hw2).mono fun e w' h => by
      obtain ⟨h1, o', F2, A2⟩ := h.2 hal
      exact ⟨h1, o', (F.none r (r + 16)).trans (F2.mono (by omega) (by omega)), (S.blk.keep F (.inr (Nat.zero_le _))).keep F2 (by omega), A2, S.ok, S.al⟩)
  have HW := Lib.hid (fun W => show Calls Tryz.prog 103 #[hdV kind cells raw 0 0 false false] W fun e w' => e = .returned (.int .i64 (wordsN cells raw : Nat)) ∧ ∃ o, w' = W.alloc o from words_any kind cells raw 0 0 false false W hc hr)
  have HR := Lib.hid (fun W => show Calls Tryz.prog 101 #[hdV kind cells raw 0 0 false false] W fun e w' => e = .returned (.bool true) ∧ ∃ o, W.alloc o = w' from right_yes kind cells raw 0 0 false false W (rightB_yes hk hc hr (by omega) (by omega)))
  have c0 := S.c0
  have HS := Lib.hid S
  have HT := Lib.hid hT
  have HO := Lib.hid ho
  have hnot : ∀ (x : Bool) (w : World), (Op.unary .not (.bool x)).run Tryz.prog w = .ok (.bool (!x)) w := fun _ _ => rfl
  have hpl := S.blk.lt
  have hpl1 : p < w.heap.size + 1 := by omega
  have hpl2 : p < w.heap.size + 1 + 1 := by omega
  have hpe0 : ¬ p = w.heap.size := by omega
  have hpe1 : ¬ p = w.heap.size + 1 := by omega
  have hpe2 : ¬ p = w.heap.size + 1 + 1 := by omega
  clear S hT hal hw hw2 hc hr hk ho
  generalize wordsN cells raw = n at HA HW
  go_enter Tryz.func49, Tryz.ntmps49
  go_wp2_with fail
  go_at_call 101
  refine (HR.out _).mono ?_
  rintro e w1 ⟨rfl, o1, rfl⟩
  go_wp2_with fail
  go_region_with (first
    | (go_at_call 103; refine (HW.out _).mono ?_; rintro e w1 ⟨rfl, o2, rfl⟩)
    | (go_at_call 102; refine (HA.out _ (by repeat (first | exact Fr.refl HO.out | refine Fr.drew ?_ | refine Fr.alloc ?_ _))).mono ?_; rintro e w3 ⟨rfl, o3, F3, S3⟩; have HF3 := Lib.hid F3; clear F3; have HS3 := Lib.hid S3; clear S3))
  all_goals
    go_wp2_with fail
    go_ret2
    exact ⟨fun L' a e => (by rw [HT.out] at e; cases e), fun _ => ⟨rfl, o3, HF3.out, pa, A, HS3.out⟩⟩
theorem Space.made {o o1 : Own} {w w1 : World} {r p : Nat} {L L' : Al} {ob : Int → Option Ob} {pa : Nat} {A T : ArS} {kind cells raw a : Nat} (hal : allocS A (wordsN cells raw) = some (T, a)) (S : Space o w r p L ob pa A) (hok : L.ok = true) (hal2 : AlOf L' T) (hk : 1 ≤ kind ∧ kind ≤ 8) (hc : cells ≤ 4000) (hr : raw ≤ 4000)
    (B : Blk o1 w1 r p (.cells #[.pointer (some ⟨pa, 0, none⟩)] 111 (0, 0))) (R : ArenaRep o1 w1 (r + 1) pa (setW T a (hdW kind cells raw 0 0 false false))) :
    ob (a : Int) = none ∧ 64 ≤ a ∧ a + wordsN cells raw ≤ L.n * 64 ∧ SpaceRep o1 w1 r p L' (updI ob (a : Int) (some (newOb kind cells raw))) := by
  have hm : makeS ⟨A, ob⟩ kind cells raw = some (⟨setW T a (hdW kind cells raw 0 0 false false), updI ob (a : Int) (some (newOb kind cells raw))⟩, a) := by
    unfold makeS; rw [hal]; rfl
  have K := makeS_spec S.ok (S.al.ok hok) hk hc hr hm
  have hn := S.al.n
  have hi := K.hi
  exact ⟨K.new, K.lo, by rw [← hn]; exact hi, pa, _, B, R, K.ok, ⟨hal2.n, hal2.t, hal2.cur, fun _ => K.fresh, fun _ => K.fresh.rowsOk⟩⟩
theorem rightB_new {k c r : Nat} (hk : 1 ≤ k ∧ k ≤ 8) (hc : c ≤ 4000) (hr : r ≤ 4000) : rightB k c r 0 0 = true := by
  simp only [rightB, inB, Bool.and_eq_true, decide_eq_true_eq]; omega
set_option maxRecDepth 100000 in
set_option maxHeartbeats 2000000 in
theorem smake_yes {o : Own} {r p : Nat} {L L' : Al} {ob : Int → Option Ob} (kind cells raw a : Nat) (w : World) (ho : Owned o w) (S : SpaceRep o w r p L ob) (hok : L.ok = true) (hk : 1 ≤ kind ∧ kind ≤ 8) (hc : cells ≤ 4000) (hr : raw ≤ 4000) (hT : tookL L (wordsN cells raw) = some (L', a)) :
    Calls Tryz.prog 49 #[.pointer (some ⟨p, 0, none⟩), .int .i64 (kind : Nat), .int .i64 (cells : Nat), .int .i64 (raw : Nat)] w (MakePost o w r p L ob kind cells raw) := by
  obtain ⟨pa, A, S⟩ := S
  have hw := wordsN_pos cells raw
  have hw2 : wordsN cells raw ≤ 65536 := by unfold wordsN; omega
  obtain ⟨T, hal, hal2, hok', hLn⟩ : ∃ T, allocS A (wordsN cells raw) = some (T, a) ∧ AlOf L' T ∧ L'.ok = true ∧ L'.n = L.n := by
    rcases S.al.alloc hok (wordsN cells raw) with ⟨h, _⟩ | ⟨L2, T, a2, h, h2, h3, h4, h5⟩
    · rw [hT] at h; cases h
    · rw [hT] at h; cases h
      exact ⟨T, h2, h3, h4, h5⟩
  have G := allocS_spec (S.al.ok hok) hal
  have hrange : a < T.n * 64 := by
    obtain ⟨b, e1, e2, e3, e4, e5⟩ := G.fresh.ok.nat _ _ G.bl
    have := G.fresh.ok.tn
    simp only at e3 e4 e5
    omega
  have HA := Lib.hid (fun (x : Obj) (w1 : World) (F : Grew o w x w1) => show Calls Tryz.prog 102 #[.pointer (some ⟨pa, 0, none⟩), .int .i64 (wordsN cells raw : Nat)] w1 fun e w' => e = .returned (.tuple #[.int .i64 (a : Nat), .int .i64 0]) ∧ ∃ o', Fr r (r + 16) o o' w w' ∧ Blk o' w' r p (.cells #[.pointer (some ⟨pa, 0, none⟩)] 111 (0, 0)) ∧ ArenaRep o' w' (r + 1) pa T ∧ w'.heap[w.heap.size]? = some x from
    (alloc_any (wordsN cells raw) w1 F.fr.fresh (S.ar.keep F.fr (.inr (Nat.zero_le _))) (S.al.ok hok) hw hw2).mono fun e w' h => by
      obtain ⟨h1, o', F2, A2⟩ := h.1 T a hal
      exact ⟨h1, o', (F.fr.none r (r + 16)).trans (F2.mono (by omega) (by omega)), (S.blk.keep F.fr (.inr (Nat.zero_le _))).keep F2 (by omega), A2, (F2.block _ (lt_of_block F.x_) (.inl (by rw [ho _ (Nat.le_refl _)]; omega))).trans F.x_⟩)
  have HWr := Lib.hid (fun (o3 : Own) (w3 w4 : World) (F3 : Fr r (r + 16) o o3 w w3) (F : Fr 0 0 o3 o3 w3 w4) (B : Blk o3 w3 r p (.cells #[.pointer (some ⟨pa, 0, none⟩)] 111 (0, 0))) (A3 : ArenaRep o3 w3 (r + 1) pa T) => show Calls Tryz.prog 53 #[.pointer (some ⟨pa, 0, none⟩), .int .i64 (a : Nat), .int .u64 (hdW kind cells raw 0 0 false false : Nat)] w4 fun e w' => e = .returned (.int .i64 0) ∧ ∃ o', Fr r (r + 16) o o' w w' ∧ ob (a : Int) = none ∧ 64 ≤ a ∧ a + wordsN cells raw ≤ L.n * 64 ∧ SpaceRep o' w' r p L' (updI ob (a : Int) (some (newOb kind cells raw))) from
    (awrite_any (a : Int) a (hdW kind cells raw 0 0 false false) w4 F.fresh (A3.keep F (.inr (Nat.zero_le _))) rfl hrange (hdW_lt hk.2 hc hr (by omega) (by omega))).mono fun e w' h => by
      obtain ⟨h1, o', F2, A2⟩ := h
      obtain ⟨m1, m2, m3, m4⟩ := Space.made hal S hok hal2 hk hc hr ((B.keep F (.inr (Nat.zero_le _))).keep F2 (by omega)) A2
      exact ⟨h1, o', (F3.trans (F.none r (r + 16))).trans (F2.mono (by omega) (by omega)), m1, m2, m3, m4⟩)
  have HW := Lib.hid (fun W => show Calls Tryz.prog 103 #[hdV kind cells raw 0 0 false false] W fun e w' => e = .returned (.int .i64 (wordsN cells raw : Nat)) ∧ ∃ o, w' = W.alloc o from words_any kind cells raw 0 0 false false W hc hr)
  have HR := Lib.hid (fun W => show Calls Tryz.prog 101 #[hdV kind cells raw 0 0 false false] W fun e w' => e = .returned (.bool true) ∧ ∃ o, W.alloc o = w' from right_yes kind cells raw 0 0 false false W (rightB_yes hk hc hr (by omega) (by omega)))
  have HH := Lib.hid (fun W => show Calls Tryz.prog 104 #[hdV kind cells raw 0 0 false false] W fun e w' => e = .returned (.int .u64 (hdW kind cells raw 0 0 false false : Nat)) ∧ Below W.heap.size W w' from word_right kind cells raw 0 0 false false (rightB_new hk hc hr) W)
  have c0 := S.c0
  have HT := Lib.hid hT
  have HO := Lib.hid ho
  have HOK := Lib.hid hok'
  have HLN := Lib.hid hLn
  have hnot : ∀ (x : Bool) (w : World), (Op.unary .not (.bool x)).run Tryz.prog w = .ok (.bool (!x)) w := fun _ _ => rfl
  have hpl := S.blk.lt
  have hpl1 : p < w.heap.size + 1 := by omega
  have hpl2 : p < w.heap.size + 1 + 1 := by omega
  have hpe0 : ¬ p = w.heap.size := by omega
  have hpe1 : ¬ p = w.heap.size + 1 := by omega
  have hpe2 : ¬ p = w.heap.size + 1 + 1 := by omega
  clear S hT hal hw hw2 hc hr hk ho G hrange hok' hLn hal2
  generalize wordsN cells raw = n at HA HW
  generalize hdW kind cells raw 0 0 false false = hd at HWr HH
  go_enter Tryz.func49, Tryz.ntmps49
  go_wp2_with fail
  go_at_call 101
  refine (HR.out _).mono ?_
  rintro e w1 ⟨rfl, o1, rfl⟩
  go_wp2_with fail
  go_region_with (first
    | (go_at_call 103; refine (HW.out _).mono ?_; rintro e w1 ⟨rfl, o2, rfl⟩)
    | (go_at_call 102; refine (HA.out (.cells #[.int .i64 (kind : Nat), .int .i64 (cells : Nat), .int .i64 (raw : Nat), .int .i64 0, .int .i64 0, .bool false, .bool false] 65) _ (by repeat (first | exact Grew.base HO.out _ | refine Grew.drew ?_ | refine Grew.alloc ?_ _))).mono ?_; rintro e w3 ⟨rfl, o3, F3, B3, A3, X3⟩; have HF3 := Lib.hid F3; clear F3; have HB3 := Lib.hid B3; clear B3; have HA3 := Lib.hid A3; clear A3; have HX3 := Lib.hid X3; clear X3))
  all_goals
    have cx0 : w3.cell? ⟨w.heap.size, 0, none⟩ = some (.int .i64 (kind : Nat)) := by simp [World.cell?, HX3.out]
    have cx1 : w3.cell? ⟨w.heap.size, 1, none⟩ = some (.int .i64 (cells : Nat)) := by simp [World.cell?, HX3.out]
    have cx2 : w3.cell? ⟨w.heap.size, 2, none⟩ = some (.int .i64 (raw : Nat)) := by simp [World.cell?, HX3.out]
    have cx3 : w3.cell? ⟨w.heap.size, 3, none⟩ = some (.int .i64 0) := by simp [World.cell?, HX3.out]
    have cx4 : w3.cell? ⟨w.heap.size, 4, none⟩ = some (.int .i64 0) := by simp [World.cell?, HX3.out]
    have cx5 : w3.cell? ⟨w.heap.size, 5, none⟩ = some (.bool false) := by simp [World.cell?, HX3.out]
    have cx6 : w3.cell? ⟨w.heap.size, 6, none⟩ = some (.bool false) := by simp [World.cell?, HX3.out]
    have c3 := HB3.out.cell 0
    simp only [List.getElem?_toArray, List.getElem?_cons_zero] at c3
    have hp3 := HB3.out.lt
    go_wp2_with fail
    go_region_with (first
      | (go_at_call 104; refine (HH.out _).mono ?_; rintro e w4 ⟨rfl, hb4⟩; have c4 : w4.cell? ⟨p, 0, none⟩ = some (.pointer (some ⟨pa, 0, none⟩)) := (hb4.cell (p := ⟨p, 0, none⟩) hp3).trans c3; have HB4 := Lib.hid hb4; clear hb4)
      | (go_at_call 53; refine (HWr.out o3 w3 _ HF3.out (by repeat (first | exact Fr.refl HF3.out.fresh | exact Fr.below (Fr.drew (Fr.refl HF3.out.fresh)) HB4.out | refine Fr.drew ?_)) HB3.out HA3.out).mono ?_; rintro e w5 ⟨rfl, o5, F5, m1, m2, m3, m4⟩; have H5 := Lib.hid F5; clear F5; have M1 := Lib.hid m1; clear m1; have M2 := Lib.hid m2; clear m2; have M3 := Lib.hid m3; clear m3; have M4 := Lib.hid m4; clear m4))
    all_goals
      go_wp2_with fail
      go_ret2
      refine ⟨fun L2 a2 e => ?_, fun e => (by rw [HT.out] at e; cases e)⟩
      rw [HT.out] at e
      cases e
      exact ⟨rfl, M1.out, M2.out, M3.out, HOK.out, HLN.out, o5, H5.out, M4.out⟩
theorem smake_any {o : Own} {r p : Nat} {L : Al} {ob : Int → Option Ob} (kind cells raw : Nat) (w : World) (ho : Owned o w) (S : SpaceRep o w r p L ob) (hok : L.ok = true) (hk : 1 ≤ kind ∧ kind ≤ 8) (hc : cells ≤ 4000) (hr : raw ≤ 4000) :
    Calls Tryz.prog 49 #[.pointer (some ⟨p, 0, none⟩), .int .i64 (kind : Nat), .int .i64 (cells : Nat), .int .i64 (raw : Nat)] w (MakePost o w r p L ob kind cells raw) := by
  cases hT : tookL L (wordsN cells raw) with
  | none => exact smake_no kind cells raw w ho S hok hk hc hr hT
  | some x => exact smake_yes kind cells raw x.2 w ho S hok hk hc hr (L' := x.1) hT
end Go.Proofs.YtlpklloagaccoaaGreat
