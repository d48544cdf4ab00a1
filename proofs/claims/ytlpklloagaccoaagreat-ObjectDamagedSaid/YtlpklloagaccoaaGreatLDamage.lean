/- One object whose header may be written over; calls on its space. Condition: the space is as one that was made. -/
import Derived.Test.YtlpklloagaccoaaGreatDamage2
import Derived.Test.YtlpklloagaccoaaGreatRefHd
import Derived.Test.YtlpklloagaccoaaGreatLaw11
import Derived.Test.YtlpklloagaccoaaGreatLaw12
import Derived.Outline
namespace Go.Proofs.YtlpklloagaccoaaGreat
open Go.RowKit
set_option linter.unusedVariables false

/-- A space of one block in use, 'a', of 'n' words; its header's word is 'x'. -/
def Dm (o : Own) (w : World) (p pa a n x : Nat) : Prop :=
  ∃ A sz, Blk o w 1 p (.cells #[.pointer (some ⟨pa, 0, none⟩)] 111 (0, 0)) ∧ ArenaRep o w 2 pa A ∧ A.bl (a : Int) = some ⟨sz, n, 1⟩ ∧ (∀ k, liveB A k = true ↔ k = (a : Int)) ∧ A.m a = x ∧ a < A.n * 64 ∧ x < 2 ^ 64
theorem Dm.keep {lo hi : Nat} {o o' : Own} {w w' : World} {p pa a n x : Nat} (h : Dm o w p pa a n x) (k : Fr lo hi o o' w w') (hr : 17 ≤ lo ∨ hi ≤ 1) : Dm o' w' p pa a n x :=
  let ⟨A, sz, B, R, M⟩ := h; ⟨A, sz, B.keep k (by omega), R.keep k (by omega), M⟩
section
variable {o : Own} {p pa a n x : Nat}
theorem dm_make (kind cells raw : Nat) (L' : Al) (w0 w1 : World) (F : Fr 0 0 o o w0 w1) (S : SpaceRep o w0 1 p (newAl 20) (fun _ => none)) (hk : 1 ≤ kind ∧ kind ≤ 8) (hc : cells ≤ 4000) (hr : raw ≤ 4000) (hT : tookL (newAl 20) (wordsN cells raw) = some (L', a)) :
    Calls Tryz.prog 49 #[.pointer (some ⟨p, 0, none⟩), .int .i64 (kind : Nat), .int .i64 (cells : Nat), .int .i64 (raw : Nat)] w1 fun e w' => e = .returned (.tuple #[.int .i64 (a : Nat), .int .i64 0]) ∧ ∃ o' pa, Fr 1 17 o o' w0 w' ∧ Dm o' w' p pa a (wordsN cells raw) (hdW kind cells raw 0 0 false false) := by
  refine (smake_word kind cells raw a w1 F.fresh (S.keep F (.inr (Nat.zero_le _))) rfl hk hc hr hT).mono fun e w' hh => ?_
  obtain ⟨h1, o', pa, A, F', SS, hm, hra⟩ := hh
  obtain ⟨a', sz, e1, e2, _⟩ := SS.ok.loc (a : Int) (newOb kind cells raw) (if_pos rfl)
  obtain rfl : a' = a := by omega
  refine ⟨h1, o', pa, (F.none 1 17).trans F', A, sz, SS.blk, SS.ar, e2, fun k => ⟨fun hl => ?_, fun hk => ?_⟩, hm, hra, hdW_lt hk.2 hc hr (by omega) (by omega)⟩
  · unfold liveB at hl
    cases hb : A.bl k with
    | none => rw [hb] at hl; cases hl
    | some y =>
      rw [hb] at hl
      obtain ⟨u, hu⟩ := SS.ok.all k y hb (by simpa using hl)
      have hu' : updI (fun _ => none) (a' : Int) (some (newOb kind cells raw)) k = some u := hu
      unfold updI at hu'
      by_cases e : k = (a' : Int)
      · exact e
      · rw [if_neg e] at hu'; cases hu'
  · subst hk
    unfold liveB
    have e2' : A.bl (a' : Int) = _ := e2
    rw [e2']; rfl
theorem dm_arena (w0 w1 : World) (F : Fr 0 0 o o w0 w1) (D : Dm o w0 p pa a n x) :
    Calls Tryz.prog 51 #[.pointer (some ⟨p, 0, none⟩)] w1 fun e w' => e = .returned (.pointer (some ⟨pa, 0, none⟩)) ∧ w1 = w' := by
  obtain ⟨A, sz, B, _⟩ := D
  have c0 : w1.cell? ⟨p, 0, none⟩ = some (.pointer (some ⟨pa, 0, none⟩)) := (B.keep F (.inr (Nat.zero_le _))).cell 0
  clear B F
  go_enter Tryz.func51, Tryz.ntmps51
  go_wp2
  go_ret
  exact ⟨rfl, rfl⟩
theorem dm_read (w0 w1 : World) (F : Fr 0 0 o o w0 w1) (D : Dm o w0 p pa a n x) :
    Calls Tryz.prog 52 #[.pointer (some ⟨pa, 0, none⟩), .int .i64 (a : Nat)] w1 fun e w' => e = .returned (.tuple #[.int .u64 (x : Nat), .int .i64 0]) ∧ w1 = w' := by
  obtain ⟨A, sz, B, R, _, _, hm, hr, _⟩ := D
  rw [← hm]
  exact aread_any (a : Int) a w1 (R.keep F (.inr (Nat.zero_le _))) rfl hr
theorem dm_write (y : Nat) (w0 w1 : World) (F : Fr 0 0 o o w0 w1) (D : Dm o w0 p pa a n x) (hy : y < 2 ^ 64) :
    Calls Tryz.prog 53 #[.pointer (some ⟨pa, 0, none⟩), .int .i64 (a : Nat), .int .u64 (y : Nat)] w1 fun e w' => e = .returned (.int .i64 0) ∧ ∃ o', Fr 1 17 o o' w0 w' ∧ Dm o' w' p pa a n y := by
  obtain ⟨A, sz, B, R, hb, hl, hm, hr, _⟩ := D
  refine (awrite_any (a : Int) a y w1 F.fresh (R.keep F (.inr (Nat.zero_le _))) rfl hr hy).mono fun e w' hh => ?_
  obtain ⟨h1, o', F', R'⟩ := hh
  exact ⟨h1, o', (F.none 1 17).trans (F'.mono (by omega) (by omega)), _, sz, (B.keep F (.inr (Nat.zero_le _))).keep F' (by omega), R', hb, hl, if_pos rfl, hr, hy⟩
theorem dm_head (w0 w1 : World) (F : Fr 0 0 o o w0 w1) (D : Dm o w0 p pa a n x) :
    Calls Tryz.prog 54 #[.pointer (some ⟨p, 0, none⟩), .int .i64 (a : Nat)] w1 fun e w' => e = .returned (if goodW x n = true then .tuple #[rdV x, .int .i64 0] else noHd) ∧ Fr 0 0 o o w0 w' := by
  obtain ⟨A, sz, B, R, hb, hl, hm, hr, hx⟩ := D
  exact (ohead_w (a : Int) a x n sz w1 F.fresh ((B.keep F (.inr (Nat.zero_le _))).cell 0) (R.keep F (.inr (Nat.zero_le _))) rfl hr hb hm hx).mono fun e w' hh => ⟨hh.1, F.below hh.2⟩
theorem dm_all (w0 w1 : World) (F : Fr 0 0 o o w0 w1) (D : Dm o w0 p pa a n x) :
    Calls Tryz.prog 58 #[.pointer (some ⟨p, 0, none⟩)] w1 fun e w' => ∃ A cap, e = .returned (.slice A (if goodW x n = true then 1 else 0) cap) ∧ Fr 0 0 o o w0 w' := by
  have D0 := D
  obtain ⟨A, sz, B, R, hb, hl, hm, hr, hx⟩ := D
  refine (oall_any w1 F.fresh ((B.keep F (.inr (Nat.zero_le _))).cell 0) (R.keep F (.inr (Nat.zero_le _))) (fun _ => goodW x n) (fun k hk w2 F2 => ?_)).mono fun e w' hh => ?_
  · obtain rfl := (hl k).1 hk
    refine (dm_head w2 w2 (Fr.refl F2.fresh) ((D0.keep F (.inr (Nat.zero_le _))).keep F2 (.inr (Nat.zero_le _)))).mono fun e w' hh => ?_
    obtain ⟨h1, h2⟩ := hh
    by_cases hg : goodW x n = true
    · rw [if_pos hg] at h1
      exact ⟨_, _, _, _, _, _, _, by rw [h1, if_pos hg]; rfl, h2⟩
    · rw [if_neg hg] at h1
      exact ⟨_, _, _, _, _, _, _, by rw [h1, if_neg hg]; rfl, h2⟩
  · obtain ⟨v, xs, h1, hS, F', RN⟩ := hh
    obtain ⟨A', cap, rfl, _⟩ := RN.row.rd
    by_cases hg : goodW x n = true
    · obtain rfl := hS.one (a : Int) (fun k => by rw [Bool.and_eq_true]; exact ⟨fun h => (hl k).1 h.1, fun h => ⟨(hl k).2 h, hg⟩⟩)
      exact ⟨A', cap, by rw [h1, if_pos hg]; rfl, F.trans F'⟩
    · obtain rfl := hS.none (fun k => by
        have : goodW x n = false := by simpa using hg
        rw [this, Bool.and_false])
      exact ⟨A', cap, by rw [h1, if_neg hg]; rfl, F.trans F'⟩
/-- The header that Make writes is right. -/
theorem good_new {kind cells raw : Nat} (hk : 1 ≤ kind ∧ kind ≤ 8) (hc : cells ≤ 4000) (hr : raw ≤ 4000) : goodW (hdW kind cells raw 0 0 false false) (wordsN cells raw) = true := by
  obtain ⟨h1, h2, h3, h4, h5, h6, h7⟩ := getv_hdW (k := kind) (c := cells) (r := raw) (n := 0) (col := 0) (z := false) (d := false) hk.2 hc hr (by omega) (by omega)
  unfold goodW
  rw [h1, h2, h3, h4, h5, h6, h7]
  have := rightB_new hk hc hr
  simp only [Int.natCast_zero] at *
  simp [this]
end
end Go.Proofs.YtlpklloagaccoaaGreat
