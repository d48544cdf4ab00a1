/- The contracts of the two reckoners (the program's value.Math and the document's own): for every operation and every two values, what they hand back, and that nothing that was there has turned. No condition. -/
import Derived.Test.YtgeobfdaoafklaaRows
import Derived.WalkKit
import Derived.WalkSpells
import Derived.WalkLawsBesides
import Derived.Deep.QuietTactic
import Derived.BigQuiet
namespace Go.Proofs.Ytgeobfdaoafklaa
open Go.RowKit

/-- What a reckoning comes to: the kind, the number, the error. -/
def mathS (op ak an bk bn : Int) : Int × Int × Int :=
  if op < 11 ∨ 16 < op then (0, 0, 1) else if ak ≠ 1 ∨ bk ≠ 1 then (0, 0, 5) else if (op = 14 ∨ op = 15) ∧ bn = 0 then (0, 0, 14)
  else if op = 11 then (1, wrap64 (an + bn), 0) else if op = 12 then (1, wrap64 (an - bn), 0) else if op = 13 then (1, wrap64 (an * bn), 0)
  else if op = 14 then (1, wrap64 (an.tdiv bn), 0) else if op = 15 then (1, an.tmod bn, 0) else (2, if an < bn then 1 else 0, 0)
def MathPost (x : Int × Int × Int) (w : World) (e : Ending) (w' : World) : Prop := e = .returned (.tuple #[.agg #[.int .i64 x.1, .int .i64 x.2.1], .int .i64 x.2.2]) ∧ Below w.heap.size w w'

theorem num_any (n : Int) (w : World) : Calls Try.prog 9 #[.int .i64 n] w fun e w' => e = .returned (.int .i64 n) ∧ w = w' := by
  go_enter Try.func9, Try.ntmps9
  go_wp2
  go_ret
  exact ⟨rfl, rfl⟩

theorem number_any (n : Int) (w : World) : Calls Try.prog 15 #[.int .i64 n] w fun e w' => e = .returned (.agg #[.int .i64 1, .int .i64 n]) ∧ w.alloc (.cells #[.int .i64 1, .int .i64 n] 24) = w' := by
  go_enter Try.func15, Try.ntmps15
  go_wp2
  exact bodyPost_ret (v := .agg #[.int .i64 1, .int .i64 n]) (by simp [results, Try.results15, go_sem]) rfl ⟨rfl, rfl⟩

theorem flag_yes (w : World) : Calls Try.prog 16 #[.bool true] w fun e w' => e = .returned (.agg #[.int .i64 2, .int .i64 1]) ∧ ∃ o1 o2, (w.alloc o1).alloc o2 = w' := by
  go_enter Try.func16, Try.ntmps16
  go_wp2
  exact bodyPost_ret (v := .agg #[.int .i64 2, .int .i64 1]) (by simp [results, Try.results16, go_sem]) rfl ⟨rfl, _, _, rfl⟩
theorem flag_no (w : World) : Calls Try.prog 16 #[.bool false] w fun e w' => e = .returned (.agg #[.int .i64 2, .int .i64 0]) ∧ ∃ o1 o2, (w.alloc o1).alloc o2 = w' := by
  go_enter Try.func16, Try.ntmps16
  go_wp2
  exact bodyPost_ret (v := .agg #[.int .i64 2, .int .i64 0]) (by simp [results, Try.results16, go_sem]) rfl ⟨rfl, _, _, rfl⟩

set_option maxHeartbeats 400000 in
theorem m_lo8 (op ak an bk bn : Int) (h : op < 11) (w : World) : Calls Try.prog 8 #[.int .i64 op, .agg #[.int .i64 ak, .int .i64 an], .agg #[.int .i64 bk, .int .i64 bn]] w (MathPost (0, 0, 1) w) := by
  go_enter Try.func8, Try.ntmps8
  go_wp2_with (go_at_call 15; refine (number_any _ _).mono ?_; rintro e w1 ⟨rfl, rfl⟩)
  exact bodyPost_ret (v := .tuple #[.agg #[.int .i64 0, .int .i64 (0)], .int .i64 1]) (by simp [results, Try.results8, go_sem]) rfl ⟨rfl, by repeat (first | exact Below.refl _ _ | refine Below.alloc ?_ (by simp <;> omega) _ | refine Below.setCell ?_ (by simp <;> omega) _ | refine Below.drew ?_)⟩

set_option maxHeartbeats 400000 in
theorem m_hi8 (op ak an bk bn : Int) (h : 16 < op) (w : World) : Calls Try.prog 8 #[.int .i64 op, .agg #[.int .i64 ak, .int .i64 an], .agg #[.int .i64 bk, .int .i64 bn]] w (MathPost (0, 0, 1) w) := by
  have h' : ¬ op < 11 := by omega
  go_enter Try.func8, Try.ntmps8
  go_wp2_with (go_at_call 15; refine (number_any _ _).mono ?_; rintro e w1 ⟨rfl, rfl⟩)
  exact bodyPost_ret (v := .tuple #[.agg #[.int .i64 0, .int .i64 (0)], .int .i64 1]) (by simp [results, Try.results8, go_sem]) rfl ⟨rfl, by repeat (first | exact Below.refl _ _ | refine Below.alloc ?_ (by simp <;> omega) _ | refine Below.setCell ?_ (by simp <;> omega) _ | refine Below.drew ?_)⟩

set_option maxHeartbeats 400000 in
theorem m_ka8 (op ak an bk bn : Int) (h0 : 11 ≤ op) (h1 : op ≤ 16) (h2 : (ak != 1) = true) (w : World) : Calls Try.prog 8 #[.int .i64 op, .agg #[.int .i64 ak, .int .i64 an], .agg #[.int .i64 bk, .int .i64 bn]] w (MathPost (0, 0, 5) w) := by
  go_enter Try.func8, Try.ntmps8
  go_wp2_with (go_at_call 15; refine (number_any _ _).mono ?_; rintro e w1 ⟨rfl, rfl⟩)
  exact bodyPost_ret (v := .tuple #[.agg #[.int .i64 0, .int .i64 (0)], .int .i64 5]) (by simp [results, Try.results8, go_sem]) rfl ⟨rfl, by repeat (first | exact Below.refl _ _ | refine Below.alloc ?_ (by simp <;> omega) _ | refine Below.setCell ?_ (by simp <;> omega) _ | refine Below.drew ?_)⟩

set_option maxHeartbeats 400000 in
theorem m_kb8 (op an bk bn : Int) (h0 : 11 ≤ op) (h1 : op ≤ 16) (h2 : (bk != 1) = true) (w : World) : Calls Try.prog 8 #[.int .i64 op, .agg #[.int .i64 1, .int .i64 an], .agg #[.int .i64 bk, .int .i64 bn]] w (MathPost (0, 0, 5) w) := by
  go_enter Try.func8, Try.ntmps8
  go_wp2_with (go_at_call 15; refine (number_any _ _).mono ?_; rintro e w1 ⟨rfl, rfl⟩)
  exact bodyPost_ret (v := .tuple #[.agg #[.int .i64 0, .int .i64 (0)], .int .i64 5]) (by simp [results, Try.results8, go_sem]) rfl ⟨rfl, by repeat (first | exact Below.refl _ _ | refine Below.alloc ?_ (by simp <;> omega) _ | refine Below.setCell ?_ (by simp <;> omega) _ | refine Below.drew ?_)⟩

set_option maxHeartbeats 400000 in
theorem m_z14_8 (an : Int) (w : World) : Calls Try.prog 8 #[.int .i64 14, .agg #[.int .i64 1, .int .i64 an], .agg #[.int .i64 1, .int .i64 0]] w (MathPost (0, 0, 14) w) := by
  go_enter Try.func8, Try.ntmps8
  go_wp2
  exact bodyPost_ret (v := .tuple #[.agg #[.int .i64 0, .int .i64 0], .int .i64 14]) (by simp [results, Try.results8, go_sem]) rfl ⟨rfl, by repeat (first | exact Below.refl _ _ | refine Below.alloc ?_ (by simp <;> omega) _ | refine Below.setCell ?_ (by simp <;> omega) _ | refine Below.drew ?_)⟩

set_option maxHeartbeats 400000 in
theorem m_z15_8 (an : Int) (w : World) : Calls Try.prog 8 #[.int .i64 15, .agg #[.int .i64 1, .int .i64 an], .agg #[.int .i64 1, .int .i64 0]] w (MathPost (0, 0, 14) w) := by
  go_enter Try.func8, Try.ntmps8
  go_wp2
  exact bodyPost_ret (v := .tuple #[.agg #[.int .i64 0, .int .i64 0], .int .i64 14]) (by simp [results, Try.results8, go_sem]) rfl ⟨rfl, by repeat (first | exact Below.refl _ _ | refine Below.alloc ?_ (by simp <;> omega) _ | refine Below.setCell ?_ (by simp <;> omega) _ | refine Below.drew ?_)⟩

set_option maxHeartbeats 400000 in
theorem m_add8 (an bn : Int) (w : World) : Calls Try.prog 8 #[.int .i64 11, .agg #[.int .i64 1, .int .i64 an], .agg #[.int .i64 1, .int .i64 bn]] w (MathPost (1, wrap64 (an + bn), 0) w) := by
  go_enter Try.func8, Try.ntmps8
  go_wp2_with (go_at_call 15; refine (number_any _ _).mono ?_; rintro e w1 ⟨rfl, rfl⟩)
  exact bodyPost_ret (v := .tuple #[.agg #[.int .i64 1, .int .i64 (wrap64 (an + bn))], .int .i64 0]) (by simp [results, Try.results8, go_sem]) rfl ⟨rfl, by repeat (first | exact Below.refl _ _ | refine Below.alloc ?_ (by simp <;> omega) _ | refine Below.setCell ?_ (by simp <;> omega) _ | refine Below.drew ?_)⟩

set_option maxHeartbeats 400000 in
theorem m_sub8 (an bn : Int) (w : World) : Calls Try.prog 8 #[.int .i64 12, .agg #[.int .i64 1, .int .i64 an], .agg #[.int .i64 1, .int .i64 bn]] w (MathPost (1, wrap64 (an - bn), 0) w) := by
  go_enter Try.func8, Try.ntmps8
  go_wp2_with (go_at_call 15; refine (number_any _ _).mono ?_; rintro e w1 ⟨rfl, rfl⟩)
  exact bodyPost_ret (v := .tuple #[.agg #[.int .i64 1, .int .i64 (wrap64 (an - bn))], .int .i64 0]) (by simp [results, Try.results8, go_sem]) rfl ⟨rfl, by repeat (first | exact Below.refl _ _ | refine Below.alloc ?_ (by simp <;> omega) _ | refine Below.setCell ?_ (by simp <;> omega) _ | refine Below.drew ?_)⟩

set_option maxHeartbeats 400000 in
theorem m_mul8 (an bn : Int) (w : World) : Calls Try.prog 8 #[.int .i64 13, .agg #[.int .i64 1, .int .i64 an], .agg #[.int .i64 1, .int .i64 bn]] w (MathPost (1, wrap64 (an * bn), 0) w) := by
  go_enter Try.func8, Try.ntmps8
  go_wp2_with (go_at_call 15; refine (number_any _ _).mono ?_; rintro e w1 ⟨rfl, rfl⟩)
  exact bodyPost_ret (v := .tuple #[.agg #[.int .i64 1, .int .i64 (wrap64 (an * bn))], .int .i64 0]) (by simp [results, Try.results8, go_sem]) rfl ⟨rfl, by repeat (first | exact Below.refl _ _ | refine Below.alloc ?_ (by simp <;> omega) _ | refine Below.setCell ?_ (by simp <;> omega) _ | refine Below.drew ?_)⟩

set_option maxHeartbeats 400000 in
theorem m_div8 (an bn : Int) (h : (bn == 0) = false) (h0 : ¬ bn = 0) (w : World) : Calls Try.prog 8 #[.int .i64 14, .agg #[.int .i64 1, .int .i64 an], .agg #[.int .i64 1, .int .i64 bn]] w (MathPost (1, wrap64 (an.tdiv bn), 0) w) := by
  go_enter Try.func8, Try.ntmps8
  go_wp2_with (go_at_call 15; refine (number_any _ _).mono ?_; rintro e w1 ⟨rfl, rfl⟩)
  exact bodyPost_ret (v := .tuple #[.agg #[.int .i64 1, .int .i64 (wrap64 (an.tdiv bn))], .int .i64 0]) (by simp [results, Try.results8, go_sem]) rfl ⟨rfl, by repeat (first | exact Below.refl _ _ | refine Below.alloc ?_ (by simp <;> omega) _ | refine Below.setCell ?_ (by simp <;> omega) _ | refine Below.drew ?_)⟩

set_option maxHeartbeats 400000 in
theorem m_mod8 (an bn : Int) (h : (bn == 0) = false) (h0 : ¬ bn = 0) (w : World) : Calls Try.prog 8 #[.int .i64 15, .agg #[.int .i64 1, .int .i64 an], .agg #[.int .i64 1, .int .i64 bn]] w (MathPost (1, an.tmod bn, 0) w) := by
  go_enter Try.func8, Try.ntmps8
  go_wp2_with (go_at_call 15; refine (number_any _ _).mono ?_; rintro e w1 ⟨rfl, rfl⟩)
  exact bodyPost_ret (v := .tuple #[.agg #[.int .i64 1, .int .i64 (an.tmod bn)], .int .i64 0]) (by simp [results, Try.results8, go_sem]) rfl ⟨rfl, by repeat (first | exact Below.refl _ _ | refine Below.alloc ?_ (by simp <;> omega) _ | refine Below.setCell ?_ (by simp <;> omega) _ | refine Below.drew ?_)⟩

set_option maxHeartbeats 400000 in
theorem m_lessy8 (an bn : Int) (h : an < bn) (w : World) : Calls Try.prog 8 #[.int .i64 16, .agg #[.int .i64 1, .int .i64 an], .agg #[.int .i64 1, .int .i64 bn]] w (MathPost (2, 1, 0) w) := by
  go_enter Try.func8, Try.ntmps8
  go_wp2_with (go_at_call 16; refine (flag_yes _).mono ?_; rintro e w1 ⟨rfl, o1, o2, rfl⟩)
  exact bodyPost_ret (v := .tuple #[.agg #[.int .i64 2, .int .i64 (1)], .int .i64 0]) (by simp [results, Try.results8, go_sem]) rfl ⟨rfl, by repeat (first | exact Below.refl _ _ | refine Below.alloc ?_ (by simp <;> omega) _ | refine Below.setCell ?_ (by simp <;> omega) _ | refine Below.drew ?_)⟩

set_option maxHeartbeats 400000 in
theorem m_lessn8 (an bn : Int) (h : ¬ an < bn) (w : World) : Calls Try.prog 8 #[.int .i64 16, .agg #[.int .i64 1, .int .i64 an], .agg #[.int .i64 1, .int .i64 bn]] w (MathPost (2, 0, 0) w) := by
  go_enter Try.func8, Try.ntmps8
  go_wp2_with (go_at_call 16; refine (flag_no _).mono ?_; rintro e w1 ⟨rfl, o1, o2, rfl⟩)
  exact bodyPost_ret (v := .tuple #[.agg #[.int .i64 2, .int .i64 (0)], .int .i64 0]) (by simp [results, Try.results8, go_sem]) rfl ⟨rfl, by repeat (first | exact Below.refl _ _ | refine Below.alloc ?_ (by simp <;> omega) _ | refine Below.setCell ?_ (by simp <;> omega) _ | refine Below.drew ?_)⟩

theorem math8 (op ak an bk bn : Int) (w : World) : Calls Try.prog 8 #[.int .i64 op, .agg #[.int .i64 ak, .int .i64 an], .agg #[.int .i64 bk, .int .i64 bn]] w (MathPost (mathS op ak an bk bn) w) := by
  unfold mathS
  by_cases h0 : op < 11
  · rw [if_pos (.inl h0)]; exact m_lo8 _ _ _ _ _ h0 w
  by_cases h1 : 16 < op
  · rw [if_pos (.inr h1)]; exact m_hi8 _ _ _ _ _ h1 w
  rw [if_neg (by omega)]
  by_cases h2 : ak = 1
  case neg => rw [if_pos (.inl h2)]; exact m_ka8 _ _ _ _ _ (by omega) (by omega) (by simpa using h2) w
  subst h2
  by_cases h3 : bk = 1
  case neg => rw [if_pos (.inr h3)]; exact m_kb8 _ _ _ _ (by omega) (by omega) (by simpa using h3) w
  subst h3
  rw [if_neg (by simp)]
  by_cases h4 : bn = 0
  · subst h4
    by_cases e : op = 14
    · subst e; exact m_z14_8 _ w
    by_cases e : op = 15
    · subst e; exact m_z15_8 _ w
    rw [if_neg (by omega)]
    by_cases e : op = 11
    · subst e; exact m_add8 _ _ w
    by_cases e : op = 12
    · subst e; exact m_sub8 _ _ w
    by_cases e : op = 13
    · subst e; exact m_mul8 _ _ w
    have e : op = 16 := by omega
    subst e
    by_cases hl : an < 0
    · simpa [hl] using m_lessy8 _ _ hl w
    · simpa [hl] using m_lessn8 _ _ hl w
  · have h4' : (bn == 0) = false := by simpa using h4
    rw [if_neg (by omega)]
    by_cases e : op = 11
    · subst e; exact m_add8 _ _ w
    by_cases e : op = 12
    · subst e; exact m_sub8 _ _ w
    by_cases e : op = 13
    · subst e; exact m_mul8 _ _ w
    by_cases e : op = 14
    · subst e; exact m_div8 _ _ h4' h4 w
    by_cases e : op = 15
    · subst e; exact m_mod8 _ _ h4' h4 w
    have e : op = 16 := by omega
    subst e
    by_cases hl : an < bn
    · simpa [hl] using m_lessy8 _ _ hl w
    · simpa [hl] using m_lessn8 _ _ hl w

set_option maxHeartbeats 400000 in
theorem m_lo10 (op ak an bk bn : Int) (h : op < 11) (w : World) : Calls Try.prog 10 #[.int .i64 op, .agg #[.int .i64 ak, .int .i64 an], .agg #[.int .i64 bk, .int .i64 bn]] w (MathPost (0, 0, 1) w) := by
  go_enter Try.func10, Try.ntmps10
  go_wp2_with fail
  exact bodyPost_ret (v := .tuple #[.agg #[.int .i64 0, .int .i64 (0)], .int .i64 1]) (by simp [results, Try.results10, go_sem]) rfl ⟨rfl, by repeat (first | exact Below.refl _ _ | refine Below.alloc ?_ (by simp <;> omega) _ | refine Below.setCell ?_ (by simp <;> omega) _ | refine Below.drew ?_)⟩

set_option maxHeartbeats 400000 in
theorem m_hi10 (op ak an bk bn : Int) (h : 16 < op) (w : World) : Calls Try.prog 10 #[.int .i64 op, .agg #[.int .i64 ak, .int .i64 an], .agg #[.int .i64 bk, .int .i64 bn]] w (MathPost (0, 0, 1) w) := by
  have h' : ¬ op < 11 := by omega
  go_enter Try.func10, Try.ntmps10
  go_wp2_with fail
  exact bodyPost_ret (v := .tuple #[.agg #[.int .i64 0, .int .i64 (0)], .int .i64 1]) (by simp [results, Try.results10, go_sem]) rfl ⟨rfl, by repeat (first | exact Below.refl _ _ | refine Below.alloc ?_ (by simp <;> omega) _ | refine Below.setCell ?_ (by simp <;> omega) _ | refine Below.drew ?_)⟩

set_option maxHeartbeats 400000 in
theorem m_ka10 (op ak an bk bn : Int) (h0 : 11 ≤ op) (h1 : op ≤ 16) (h2 : (ak != 1) = true) (w : World) : Calls Try.prog 10 #[.int .i64 op, .agg #[.int .i64 ak, .int .i64 an], .agg #[.int .i64 bk, .int .i64 bn]] w (MathPost (0, 0, 5) w) := by
  go_enter Try.func10, Try.ntmps10
  go_wp2_with fail
  exact bodyPost_ret (v := .tuple #[.agg #[.int .i64 0, .int .i64 (0)], .int .i64 5]) (by simp [results, Try.results10, go_sem]) rfl ⟨rfl, by repeat (first | exact Below.refl _ _ | refine Below.alloc ?_ (by simp <;> omega) _ | refine Below.setCell ?_ (by simp <;> omega) _ | refine Below.drew ?_)⟩

set_option maxHeartbeats 400000 in
theorem m_kb10 (op an bk bn : Int) (h0 : 11 ≤ op) (h1 : op ≤ 16) (h2 : (bk != 1) = true) (w : World) : Calls Try.prog 10 #[.int .i64 op, .agg #[.int .i64 1, .int .i64 an], .agg #[.int .i64 bk, .int .i64 bn]] w (MathPost (0, 0, 5) w) := by
  go_enter Try.func10, Try.ntmps10
  go_wp2_with fail
  exact bodyPost_ret (v := .tuple #[.agg #[.int .i64 0, .int .i64 (0)], .int .i64 5]) (by simp [results, Try.results10, go_sem]) rfl ⟨rfl, by repeat (first | exact Below.refl _ _ | refine Below.alloc ?_ (by simp <;> omega) _ | refine Below.setCell ?_ (by simp <;> omega) _ | refine Below.drew ?_)⟩

set_option maxHeartbeats 400000 in
theorem m_z14_10 (an : Int) (w : World) : Calls Try.prog 10 #[.int .i64 14, .agg #[.int .i64 1, .int .i64 an], .agg #[.int .i64 1, .int .i64 0]] w (MathPost (0, 0, 14) w) := by
  go_enter Try.func10, Try.ntmps10
  go_wp2
  exact bodyPost_ret (v := .tuple #[.agg #[.int .i64 0, .int .i64 0], .int .i64 14]) (by simp [results, Try.results10, go_sem]) rfl ⟨rfl, by repeat (first | exact Below.refl _ _ | refine Below.alloc ?_ (by simp <;> omega) _ | refine Below.setCell ?_ (by simp <;> omega) _ | refine Below.drew ?_)⟩

set_option maxHeartbeats 400000 in
theorem m_z15_10 (an : Int) (w : World) : Calls Try.prog 10 #[.int .i64 15, .agg #[.int .i64 1, .int .i64 an], .agg #[.int .i64 1, .int .i64 0]] w (MathPost (0, 0, 14) w) := by
  go_enter Try.func10, Try.ntmps10
  go_wp2
  exact bodyPost_ret (v := .tuple #[.agg #[.int .i64 0, .int .i64 0], .int .i64 14]) (by simp [results, Try.results10, go_sem]) rfl ⟨rfl, by repeat (first | exact Below.refl _ _ | refine Below.alloc ?_ (by simp <;> omega) _ | refine Below.setCell ?_ (by simp <;> omega) _ | refine Below.drew ?_)⟩

set_option maxHeartbeats 400000 in
theorem m_add10 (an bn : Int) (w : World) : Calls Try.prog 10 #[.int .i64 11, .agg #[.int .i64 1, .int .i64 an], .agg #[.int .i64 1, .int .i64 bn]] w (MathPost (1, wrap64 (an + bn), 0) w) := by
  go_enter Try.func10, Try.ntmps10
  go_wp2_with fail
  exact bodyPost_ret (v := .tuple #[.agg #[.int .i64 1, .int .i64 (wrap64 (an + bn))], .int .i64 0]) (by simp [results, Try.results10, go_sem]) rfl ⟨rfl, by repeat (first | exact Below.refl _ _ | refine Below.alloc ?_ (by simp <;> omega) _ | refine Below.setCell ?_ (by simp <;> omega) _ | refine Below.drew ?_)⟩

set_option maxHeartbeats 400000 in
theorem m_sub10 (an bn : Int) (w : World) : Calls Try.prog 10 #[.int .i64 12, .agg #[.int .i64 1, .int .i64 an], .agg #[.int .i64 1, .int .i64 bn]] w (MathPost (1, wrap64 (an - bn), 0) w) := by
  go_enter Try.func10, Try.ntmps10
  go_wp2_with fail
  exact bodyPost_ret (v := .tuple #[.agg #[.int .i64 1, .int .i64 (wrap64 (an - bn))], .int .i64 0]) (by simp [results, Try.results10, go_sem]) rfl ⟨rfl, by repeat (first | exact Below.refl _ _ | refine Below.alloc ?_ (by simp <;> omega) _ | refine Below.setCell ?_ (by simp <;> omega) _ | refine Below.drew ?_)⟩

set_option maxHeartbeats 400000 in
theorem m_mul10 (an bn : Int) (w : World) : Calls Try.prog 10 #[.int .i64 13, .agg #[.int .i64 1, .int .i64 an], .agg #[.int .i64 1, .int .i64 bn]] w (MathPost (1, wrap64 (an * bn), 0) w) := by
  go_enter Try.func10, Try.ntmps10
  go_wp2_with fail
  exact bodyPost_ret (v := .tuple #[.agg #[.int .i64 1, .int .i64 (wrap64 (an * bn))], .int .i64 0]) (by simp [results, Try.results10, go_sem]) rfl ⟨rfl, by repeat (first | exact Below.refl _ _ | refine Below.alloc ?_ (by simp <;> omega) _ | refine Below.setCell ?_ (by simp <;> omega) _ | refine Below.drew ?_)⟩

set_option maxHeartbeats 400000 in
theorem m_div10 (an bn : Int) (h : (bn == 0) = false) (h0 : ¬ bn = 0) (w : World) : Calls Try.prog 10 #[.int .i64 14, .agg #[.int .i64 1, .int .i64 an], .agg #[.int .i64 1, .int .i64 bn]] w (MathPost (1, wrap64 (an.tdiv bn), 0) w) := by
  go_enter Try.func10, Try.ntmps10
  go_wp2_with fail
  exact bodyPost_ret (v := .tuple #[.agg #[.int .i64 1, .int .i64 (wrap64 (an.tdiv bn))], .int .i64 0]) (by simp [results, Try.results10, go_sem]) rfl ⟨rfl, by repeat (first | exact Below.refl _ _ | refine Below.alloc ?_ (by simp <;> omega) _ | refine Below.setCell ?_ (by simp <;> omega) _ | refine Below.drew ?_)⟩

set_option maxHeartbeats 400000 in
theorem m_mod10 (an bn : Int) (h : (bn == 0) = false) (h0 : ¬ bn = 0) (w : World) : Calls Try.prog 10 #[.int .i64 15, .agg #[.int .i64 1, .int .i64 an], .agg #[.int .i64 1, .int .i64 bn]] w (MathPost (1, an.tmod bn, 0) w) := by
  go_enter Try.func10, Try.ntmps10
  go_wp2_with fail
  exact bodyPost_ret (v := .tuple #[.agg #[.int .i64 1, .int .i64 (an.tmod bn)], .int .i64 0]) (by simp [results, Try.results10, go_sem]) rfl ⟨rfl, by repeat (first | exact Below.refl _ _ | refine Below.alloc ?_ (by simp <;> omega) _ | refine Below.setCell ?_ (by simp <;> omega) _ | refine Below.drew ?_)⟩

set_option maxHeartbeats 400000 in
theorem m_lessy10 (an bn : Int) (h : an < bn) (w : World) : Calls Try.prog 10 #[.int .i64 16, .agg #[.int .i64 1, .int .i64 an], .agg #[.int .i64 1, .int .i64 bn]] w (MathPost (2, 1, 0) w) := by
  go_enter Try.func10, Try.ntmps10
  go_wp2_with fail
  exact bodyPost_ret (v := .tuple #[.agg #[.int .i64 2, .int .i64 (1)], .int .i64 0]) (by simp [results, Try.results10, go_sem]) rfl ⟨rfl, by repeat (first | exact Below.refl _ _ | refine Below.alloc ?_ (by simp <;> omega) _ | refine Below.setCell ?_ (by simp <;> omega) _ | refine Below.drew ?_)⟩

set_option maxHeartbeats 400000 in
theorem m_lessn10 (an bn : Int) (h : ¬ an < bn) (w : World) : Calls Try.prog 10 #[.int .i64 16, .agg #[.int .i64 1, .int .i64 an], .agg #[.int .i64 1, .int .i64 bn]] w (MathPost (2, 0, 0) w) := by
  go_enter Try.func10, Try.ntmps10
  go_wp2_with fail
  exact bodyPost_ret (v := .tuple #[.agg #[.int .i64 2, .int .i64 (0)], .int .i64 0]) (by simp [results, Try.results10, go_sem]) rfl ⟨rfl, by repeat (first | exact Below.refl _ _ | refine Below.alloc ?_ (by simp <;> omega) _ | refine Below.setCell ?_ (by simp <;> omega) _ | refine Below.drew ?_)⟩

theorem math10 (op ak an bk bn : Int) (w : World) : Calls Try.prog 10 #[.int .i64 op, .agg #[.int .i64 ak, .int .i64 an], .agg #[.int .i64 bk, .int .i64 bn]] w (MathPost (mathS op ak an bk bn) w) := by
  unfold mathS
  by_cases h0 : op < 11
  · rw [if_pos (.inl h0)]; exact m_lo10 _ _ _ _ _ h0 w
  by_cases h1 : 16 < op
  · rw [if_pos (.inr h1)]; exact m_hi10 _ _ _ _ _ h1 w
  rw [if_neg (by omega)]
  by_cases h2 : ak = 1
  case neg => rw [if_pos (.inl h2)]; exact m_ka10 _ _ _ _ _ (by omega) (by omega) (by simpa using h2) w
  subst h2
  by_cases h3 : bk = 1
  case neg => rw [if_pos (.inr h3)]; exact m_kb10 _ _ _ _ (by omega) (by omega) (by simpa using h3) w
  subst h3
  rw [if_neg (by simp)]
  by_cases h4 : bn = 0
  · subst h4
    by_cases e : op = 14
    · subst e; exact m_z14_10 _ w
    by_cases e : op = 15
    · subst e; exact m_z15_10 _ w
    rw [if_neg (by omega)]
    by_cases e : op = 11
    · subst e; exact m_add10 _ _ w
    by_cases e : op = 12
    · subst e; exact m_sub10 _ _ w
    by_cases e : op = 13
    · subst e; exact m_mul10 _ _ w
    have e : op = 16 := by omega
    subst e
    by_cases hl : an < 0
    · simpa [hl] using m_lessy10 _ _ hl w
    · simpa [hl] using m_lessn10 _ _ hl w
  · have h4' : (bn == 0) = false := by simpa using h4
    rw [if_neg (by omega)]
    by_cases e : op = 11
    · subst e; exact m_add10 _ _ w
    by_cases e : op = 12
    · subst e; exact m_sub10 _ _ w
    by_cases e : op = 13
    · subst e; exact m_mul10 _ _ w
    by_cases e : op = 14
    · subst e; exact m_div10 _ _ h4' h4 w
    by_cases e : op = 15
    · subst e; exact m_mod10 _ _ h4' h4 w
    have e : op = 16 := by omega
    subst e
    by_cases hl : an < bn
    · simpa [hl] using m_lessy10 _ _ hl w
    · simpa [hl] using m_lessn10 _ _ hl w

end Go.Proofs.Ytgeobfdaoafklaa
