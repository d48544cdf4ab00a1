/- Headers that may have been written over: what object.Header answers of any word. Conditions: the arena is as one that was made. -/
import Derived.Test.YtlpklloagaccoaaGreatLive
import Derived.Outline
namespace Go.Proofs.YtlpklloagaccoaaGreat
open Go.RowKit
set_option linter.unusedVariables false

theorem Space.made2 {o o1 : Own} {w w1 : World} {r p : Nat} {L L' : Al} {ob : Int → Option Ob} {pa : Nat} {A T : ArS} {kind cells raw a : Nat} (hal : allocS A (wordsN cells raw) = some (T, a)) (S : Space o w r p L ob pa A) (hok : L.ok = true) (hal2 : AlOf L' T) (hk : 1 ≤ kind ∧ kind ≤ 8) (hc : cells ≤ 4000) (hr : raw ≤ 4000)
    (B : Blk o1 w1 r p (.cells #[.pointer (some ⟨pa, 0, none⟩)] 111 (0, 0))) (R : ArenaRep o1 w1 (r + 1) pa (setW T a (hdW kind cells raw 0 0 false false))) :
    Space o1 w1 r p L' (updI ob (a : Int) (some (newOb kind cells raw))) pa (setW T a (hdW kind cells raw 0 0 false false)) := by
  have hm : makeS ⟨A, ob⟩ kind cells raw = some (⟨setW T a (hdW kind cells raw 0 0 false false), updI ob (a : Int) (some (newOb kind cells raw))⟩, a) := by
    unfold makeS; rw [hal]; rfl
  have K := makeS_spec S.ok (S.al.ok hok) hk hc hr hm
  exact ⟨B, R, K.ok, ⟨hal2.n, hal2.t, hal2.cur, fun _ => K.fresh, fun _ => K.fresh.rowsOk⟩⟩
/-- Behind Make: the header's word too. -/
def MakeW (o : Own) (w : World) (r p : Nat) (L L' : Al) (ob : Int → Option Ob) (a kind cells raw : Nat) (e : Ending) (w' : World) : Prop :=
  e = .returned (.tuple #[.int .i64 (a : Nat), .int .i64 0]) ∧ ∃ o' pa A, Fr r (r + 16) o o' w w' ∧ Space o' w' r p L' (updI ob (a : Int) (some (newOb kind cells raw))) pa A ∧ A.m a = hdW kind cells raw 0 0 false false ∧ a < A.n * 64
set_option maxRecDepth 100000 in
set_option maxHeartbeats 2000000 in
theorem smake_word {o : Own} {r p : Nat} {L L' : Al} {ob : Int → Option Ob} (kind cells raw a : Nat) (w : World) (ho : Owned o w) (S : SpaceRep o w r p L ob) (hok : L.ok = true) (hk : 1 ≤ kind ∧ kind ≤ 8) (hc : cells ≤ 4000) (hr : raw ≤ 4000) (hT : tookL L (wordsN cells raw) = some (L', a)) :
    Calls Tryz.prog 49 #[.pointer (some ⟨p, 0, none⟩), .int .i64 (kind : Nat), .int .i64 (cells : Nat), .int .i64 (raw : Nat)] w (MakeW o w r p L L' ob a kind cells raw) := by
  obtain ⟨pa, A, S⟩ := S
  have hw := wordsN_pos cells raw
  have hw2 : wordsN cells raw ≤ 65536 := by unfold wordsN; omega
  obtain ⟨T, hal, hal2, hok', hLn⟩ : ∃ T, allocS A (wordsN cells raw) = some (T, a) ∧ AlOf L' T ∧ L'.ok = true ∧ L'.n = L.n := by
    rcases S.al.alloc hok (wordsN cells raw) with ⟨h, _⟩ | ⟨L2, T, a2, h, h2, h3, h4, h5⟩
    · rw [hT] at h; cases h
    · rw [hT] at h; cases h
      exact ⟨T, h2, h3, h4, h5⟩
  have G := allocS_spec (S.al.ok hok) hal
  have hrange : a < T.n * 64 := by
    obtain ⟨b, e1, e2, e3, e4, e5⟩ := G.fresh.ok.nat _ _ G.bl
    have := G.fresh.ok.tn
    simp only at e3 e4 e5
    omega
  have HA := Lib.hid (fun (x : Obj) (w1 : World) (F : Grew o w x w1) => show Calls Tryz.prog 102 #[.pointer (some ⟨pa, 0, none⟩), .int .i64 (wordsN cells raw : Nat)] w1 fun e w' => e = .returned (.tuple #[.int .i64 (a : Nat), .int .i64 0]) ∧ ∃ o', Fr r (r + 16) o o' w w' ∧ Blk o' w' r p (.cells #[.pointer (some ⟨pa, 0, none⟩)] 111 (0, 0)) ∧ ArenaRep o' w' (r + 1) pa T ∧ w'.heap[w.heap.size]? = some x from
    (alloc_any (wordsN cells raw) w1 F.fr.fresh (S.ar.keep F.fr (.inr (Nat.zero_le _))) (S.al.ok hok) hw hw2).mono fun e w' h => by
      obtain ⟨h1, o', F2, A2⟩ := h.1 T a hal
      exact ⟨h1, o', (F.fr.none r (r + 16)).trans (F2.mono (by omega) (by omega)), (S.blk.keep F.fr (.inr (Nat.zero_le _))).keep F2 (by omega), A2, (F2.block _ (lt_of_block F.x_) (.inl (by rw [ho _ (Nat.le_refl _)]; omega))).trans F.x_⟩)
  have HWr := Lib.hid (fun (o3 : Own) (w3 w4 : World) (F3 : Fr r (r + 16) o o3 w w3) (F : Fr 0 0 o3 o3 w3 w4) (B : Blk o3 w3 r p (.cells #[.pointer (some ⟨pa, 0, none⟩)] 111 (0, 0))) (A3 : ArenaRep o3 w3 (r + 1) pa T) => show Calls Tryz.prog 53 #[.pointer (some ⟨pa, 0, none⟩), .int .i64 (a : Nat), .int .u64 (hdW kind cells raw 0 0 false false : Nat)] w4 fun e w' => e = .returned (.int .i64 0) ∧ ∃ o', Fr r (r + 16) o o' w w' ∧ Space o' w' r p L' (updI ob (a : Int) (some (newOb kind cells raw))) pa (setW T a (hdW kind cells raw 0 0 false false)) ∧ a < T.n * 64 from
    (awrite_any (a : Int) a (hdW kind cells raw 0 0 false false) w4 F.fresh (A3.keep F (.inr (Nat.zero_le _))) rfl hrange (hdW_lt hk.2 hc hr (by omega) (by omega))).mono fun e w' h => by
      obtain ⟨h1, o', F2, A2⟩ := h
      exact ⟨h1, o', (F3.trans (F.none r (r + 16))).trans (F2.mono (by omega) (by omega)), Space.made2 hal S hok hal2 hk hc hr ((B.keep F (.inr (Nat.zero_le _))).keep F2 (by omega)) A2, hrange⟩)
  have HW := Lib.hid (fun W => show Calls Tryz.prog 103 #[hdV kind cells raw 0 0 false false] W fun e w' => e = .returned (.int .i64 (wordsN cells raw : Nat)) ∧ ∃ o, w' = W.alloc o from words_any kind cells raw 0 0 false false W hc hr)
  have HR := Lib.hid (fun W => show Calls Tryz.prog 101 #[hdV kind cells raw 0 0 false false] W fun e w' => e = .returned (.bool true) ∧ ∃ o, W.alloc o = w' from right_yes kind cells raw 0 0 false false W (rightB_yes hk hc hr (by omega) (by omega)))
  have HH := Lib.hid (fun W => show Calls Tryz.prog 104 #[hdV kind cells raw 0 0 false false] W fun e w' => e = .returned (.int .u64 (hdW kind cells raw 0 0 false false : Nat)) ∧ Below W.heap.size W w' from word_right kind cells raw 0 0 false false (rightB_new hk hc hr) W)
  have c0 := S.c0
  have HT := Lib.hid hT
  have HO := Lib.hid ho
  have HOK := Lib.hid hok'
  have HLN := Lib.hid hLn
  have hnot : ∀ (x : Bool) (w : World), (Op.unary .not (.bool x)).run Tryz.prog w = .ok (.bool (!x)) w := fun _ _ => rfl
  have hpl := S.blk.lt
  have hpl1 : p < w.heap.size + 1 := by omega
  have hpl2 : p < w.heap.size + 1 + 1 := by omega
  have hpe0 : ¬ p = w.heap.size := by omega
  have hpe1 : ¬ p = w.heap.size + 1 := by omega
  have hpe2 : ¬ p = w.heap.size + 1 + 1 := by omega
  have HMM := Lib.hid (show (setW T a (hdW kind cells raw 0 0 false false)).m a = hdW kind cells raw 0 0 false false from if_pos rfl)
  clear S hT hal hw hw2 hc hr hk ho G hrange hok' hLn hal2
  generalize wordsN cells raw = n at HA HW
  unfold MakeW
  generalize hdW kind cells raw 0 0 false false = hd at *
  go_enter Tryz.func49, Tryz.ntmps49
  go_wp2_with fail
  go_at_call 101
  refine (HR.out _).mono ?_
  rintro e w1 ⟨rfl, o1, rfl⟩
  go_wp2_with fail
  go_region_with (first
    | (go_at_call 103; refine (HW.out _).mono ?_; rintro e w1 ⟨rfl, o2, rfl⟩)
    | (go_at_call 102; refine (HA.out (.cells #[.int .i64 (kind : Nat), .int .i64 (cells : Nat), .int .i64 (raw : Nat), .int .i64 0, .int .i64 0, .bool false, .bool false] 65) _ (by repeat (first | exact Grew.base HO.out _ | refine Grew.drew ?_ | refine Grew.alloc ?_ _))).mono ?_; rintro e w3 ⟨rfl, o3, F3, B3, A3, X3⟩; have HF3 := Lib.hid F3; clear F3; have HB3 := Lib.hid B3; clear B3; have HA3 := Lib.hid A3; clear A3; have HX3 := Lib.hid X3; clear X3))
  all_goals
    have cx0 : w3.cell? ⟨w.heap.size, 0, none⟩ = some (.int .i64 (kind : Nat)) := by simp [World.cell?, HX3.out]
    have cx1 : w3.cell? ⟨w.heap.size, 1, none⟩ = some (.int .i64 (cells : Nat)) := by simp [World.cell?, HX3.out]
    have cx2 : w3.cell? ⟨w.heap.size, 2, none⟩ = some (.int .i64 (raw : Nat)) := by simp [World.cell?, HX3.out]
    have cx3 : w3.cell? ⟨w.heap.size, 3, none⟩ = some (.int .i64 0) := by simp [World.cell?, HX3.out]
    have cx4 : w3.cell? ⟨w.heap.size, 4, none⟩ = some (.int .i64 0) := by simp [World.cell?, HX3.out]
    have cx5 : w3.cell? ⟨w.heap.size, 5, none⟩ = some (.bool false) := by simp [World.cell?, HX3.out]
    have cx6 : w3.cell? ⟨w.heap.size, 6, none⟩ = some (.bool false) := by simp [World.cell?, HX3.out]
    have c3 := HB3.out.cell 0
    simp only [List.getElem?_toArray, List.getElem?_cons_zero] at c3
    have hp3 := HB3.out.lt
    go_wp2_with fail
    go_region_with (first
      | (go_at_call 104; refine (HH.out _).mono ?_; rintro e w4 ⟨rfl, hb4⟩; have c4 : w4.cell? ⟨p, 0, none⟩ = some (.pointer (some ⟨pa, 0, none⟩)) := (hb4.cell (p := ⟨p, 0, none⟩) hp3).trans c3; have HB4 := Lib.hid hb4; clear hb4)
      | (go_at_call 53; refine (HWr.out o3 w3 _ HF3.out (by repeat (first | exact Fr.refl HF3.out.fresh | exact Fr.below (Fr.drew (Fr.refl HF3.out.fresh)) HB4.out | refine Fr.drew ?_)) HB3.out HA3.out).mono ?_; rintro e w5 ⟨rfl, o5, F5, m1, m2⟩; have H5 := Lib.hid F5; clear F5; have M1 := Lib.hid m1; clear m1; have M2 := Lib.hid m2; clear m2))
    all_goals
      go_wp2_with fail
      go_ret2
      exact ⟨rfl, o5, pa, _, H5.out, M1.out, HMM.out, M2.out⟩
/-- A word that is a header of an object of n words. -/
def goodW (x n : Nat) : Bool := rightB (getv x 0 4 : Nat) (getv x 4 16 : Nat) (getv x 20 16 : Nat) (getv x 36 8 : Nat) (getv x 44 2 : Nat) && (hdW (getv x 0 4) (getv x 4 16) (getv x 20 16) (getv x 36 8) (getv x 44 2) (getv x 46 1 == 1) (getv x 47 1 == 1) == x) && (wordsN (getv x 4 16) (getv x 20 16) == n)
end Go.Proofs.YtlpklloagaccoaaGreat
