/- A new engine (count.New). Conditions: from 2 to 4096 pages, a limit in range; nothing waits. -/
import Derived.Test.YtlpklloagaccoaaGreatEngS
import Derived.Deep.RegionWith
namespace Go.Proofs.YtlpklloagaccoaaGreat
open Go.RowKit
set_option linter.unusedVariables false

/-- What of a new engine is made. -/
structure MkE (o0 : Own) (w0 : World) (r n : Nat) (lim : Int) (o : Own) (w : World) (s t z p m1 m2 : Option Nat) : Prop where
  fr : Fr r (r + 29) o0 o w0 w
  s_ : ∀ k, s = some k → SpaceRep o w (r + 1) k (newAl n) (fun _ => none)
  t_ : ∀ k, t = some k → SpillRep o w (r + 17) k lim (fun _ => 0) (fun _ => false)
  z_ : ∀ k, z = some k → LeastRep o w (r + 20) k (fun _ => false)
  p_ : ∀ k, p = some k → LeastRep o w (r + 23) k (fun _ => false)
  m1_ : ∀ k, m1 = some k → MapBlk o w (r + 26) k (fun _ => none)
  m2_ : ∀ k, m2 = some k → MapBlk o w (r + 26) k (fun _ => none)
  ne_ : ∀ k k', m1 = some k → m2 = some k' → k ≠ k'
theorem MkE.base {o : Own} {w : World} (ho : Owned o w) (r n : Nat) (lim : Int) : MkE o w r n lim o w none none none none none none :=
  ⟨Fr.refl ho, fun _ h => (by cases h), fun _ h => (by cases h), fun _ h => (by cases h), fun _ h => (by cases h), fun _ h => (by cases h), fun _ h => (by cases h), fun _ _ h => (by cases h)⟩
section
variable {o0 : Own} {w0 : World} {r n : Nat} {lim : Int} {o : Own} {w : World} {s t z p m1 m2 : Option Nat}
theorem MkE.drew (h : MkE o0 w0 r n lim o w s t z p m1 m2) : MkE o0 w0 r n lim o w.drew s t z p m1 m2 := by
  have F : Fr 0 0 o o w w.drew := (Fr.refl h.fr.fresh).drew
  exact ⟨h.fr.drew, fun k hk => (h.s_ k hk).keep F (.inr (Nat.zero_le _)), fun k hk => (h.t_ k hk).keep F (.inr (Nat.zero_le _)), fun k hk => (h.z_ k hk).keep F (.inr (Nat.zero_le _)), fun k hk => (h.p_ k hk).keep F (.inr (Nat.zero_le _)), fun k hk => (h.m1_ k hk).keep F (.inr (Nat.zero_le _)), fun k hk => (h.m2_ k hk).keep F (.inr (Nat.zero_le _)), h.ne_⟩
theorem MkE.map (h : MkE o0 w0 r n lim o w s t z p none none) : MkE o0 w0 r n lim (o.give w.heap.size (r + 26)) (w.alloc (.map #[] 0)) s t z p (some w.heap.size) none := by
  have F := (Fr.refl (lo := 0) (hi := 0) h.fr.fresh).give (.map #[] 0) (r + 26)
  exact ⟨h.fr.give _ _, fun k hk => (h.s_ k hk).keep F (.inr (Nat.zero_le _)), fun k hk => (h.t_ k hk).keep F (.inr (Nat.zero_le _)), fun k hk => (h.z_ k hk).keep F (.inr (Nat.zero_le _)), fun k hk => (h.p_ k hk).keep F (.inr (Nat.zero_le _)), fun k hk => (by cases hk; exact MapBlk.new _), fun k hk => (by cases hk), fun _ _ _ h => (by cases h)⟩
theorem MkE.map2 {m : Nat} (h : MkE o0 w0 r n lim o w s t z p (some m) none) : MkE o0 w0 r n lim (o.give w.heap.size (r + 26)) (w.alloc (.map #[] 0)) s t z p (some m) (some w.heap.size) := by
  have F := (Fr.refl (lo := 0) (hi := 0) h.fr.fresh).give (.map #[] 0) (r + 26)
  have hm := (h.m1_ m rfl).2.lt
  exact ⟨h.fr.give _ _, fun k hk => (h.s_ k hk).keep F (.inr (Nat.zero_le _)), fun k hk => (h.t_ k hk).keep F (.inr (Nat.zero_le _)), fun k hk => (h.z_ k hk).keep F (.inr (Nat.zero_le _)), fun k hk => (h.p_ k hk).keep F (.inr (Nat.zero_le _)), fun k hk => (h.m1_ k hk).keep F (.inr (Nat.zero_le _)), fun k hk => (by cases hk; exact MapBlk.new _), fun k k' hk hk' => (by cases hk; cases hk'; omega)⟩
theorem MkE.space (h : MkE o0 w0 r n lim o w none t z p m1 m2) (h0 : 1 < n) (h1 : n ≤ 4096) :
    Calls Tryz.prog 48 #[.int .i64 (n : Nat), .int .i64 0] w fun e w' => ∃ k o', e = .returned (.pointer (some ⟨k, 0, none⟩)) ∧ MkE o0 w0 r n lim o' w' (some k) t z p m1 m2 := by
  refine (space_new (r + 1) n w h.fr.fresh h0 h1).mono ?_
  rintro e w' ⟨q, o', rfl, F, P⟩
  exact ⟨q, o', rfl, h.fr.trans (F.mono (by omega) (by omega)), fun k hk => (by cases hk; exact P), fun k hk => (h.t_ k hk).keep F (by omega), fun k hk => (h.z_ k hk).keep F (by omega), fun k hk => (h.p_ k hk).keep F (by omega), fun k hk => (h.m1_ k hk).keep F (by omega), fun k hk => (h.m2_ k hk).keep F (by omega), h.ne_⟩
theorem MkE.spill (h : MkE o0 w0 r n lim o w s none z p m1 m2) (h0 : 1 ≤ lim) (h1 : lim ≤ 1073741824) :
    Calls Tryz.prog 87 #[.int .i64 lim] w fun e w' => ∃ k o', e = .returned (.pointer (some ⟨k, 0, none⟩)) ∧ MkE o0 w0 r n lim o' w' s (some k) z p m1 m2 := by
  refine (spill_new (r + 17) lim w h.fr.fresh h0 h1).mono ?_
  rintro e w' ⟨q, o', rfl, F, P⟩
  exact ⟨q, o', rfl, h.fr.trans (F.none r (r + 29)), fun k hk => (h.s_ k hk).keep F (by omega), fun k hk => (by cases hk; exact P), fun k hk => (h.z_ k hk).keep F (by omega), fun k hk => (h.p_ k hk).keep F (by omega), fun k hk => (h.m1_ k hk).keep F (by omega), fun k hk => (h.m2_ k hk).keep F (by omega), h.ne_⟩
theorem MkE.zeros (h : MkE o0 w0 r n lim o w s t none p m1 m2) :
    Calls Tryz.prog 88 #[] w fun e w' => ∃ k o', e = .returned (.pointer (some ⟨k, 0, none⟩)) ∧ MkE o0 w0 r n lim o' w' s t (some k) p m1 m2 := by
  refine (least_new (r + 20) w h.fr.fresh).mono ?_
  rintro e w' ⟨q, o', rfl, F, P⟩
  exact ⟨q, o', rfl, h.fr.trans (F.mono (by omega) (by omega)), fun k hk => (h.s_ k hk).keep F (by omega), fun k hk => (h.t_ k hk).keep F (by omega), fun k hk => (by cases hk; exact P), fun k hk => (h.p_ k hk).keep F (by omega), fun k hk => (h.m1_ k hk).keep F (by omega), fun k hk => (h.m2_ k hk).keep F (by omega), h.ne_⟩
theorem MkE.purple (h : MkE o0 w0 r n lim o w s t z none m1 m2) :
    Calls Tryz.prog 88 #[] w fun e w' => ∃ k o', e = .returned (.pointer (some ⟨k, 0, none⟩)) ∧ MkE o0 w0 r n lim o' w' s t z (some k) m1 m2 := by
  refine (least_new (r + 23) w h.fr.fresh).mono ?_
  rintro e w' ⟨q, o', rfl, F, P⟩
  exact ⟨q, o', rfl, h.fr.trans (F.mono (by omega) (by omega)), fun k hk => (h.s_ k hk).keep F (by omega), fun k hk => (h.t_ k hk).keep F (by omega), fun k hk => (h.z_ k hk).keep F (by omega), fun k hk => (by cases hk; exact P), fun k hk => (h.m1_ k hk).keep F (by omega), fun k hk => (h.m2_ k hk).keep F (by omega), h.ne_⟩
end
/-- A new engine's state. -/
def newEng (n : Nat) (lim : Int) : EngS := { L := newAl n, ob := fun _ => none, lim := lim, tot := fun _ => 0, st := fun _ => false, Z := fun _ => false, Pu := fun _ => false, wat := fun _ => false, weak := fun _ => false, pend := [] }
def newK (n : Nat) (lim : Int) : EngK := { L := newAl n, ob := fun _ => none, lim := lim, ex := fun _ => 0, st := fun _ => false, Z := fun _ => false, Pu := fun _ => false, wat := fun _ => false, weak := fun _ => false, pend := [] }
theorem newK_abs (n : Nat) (lim : Int) : AbsK (newK n lim) (newEng n lim) := ⟨rfl, fun _ => rfl, rfl, fun _ => rfl, rfl, rfl, rfl, rfl, rfl, rfl⟩
def EngNew (o : Own) (w : World) (r n : Nat) (lim : Int) (e : Ending) (w' : World) : Prop :=
  ∃ p o', e = .returned (.pointer (some ⟨p, 0, none⟩)) ∧ Fr r (r + 29) o o' w w' ∧ EngRep o' w' r p (newEng n lim)
theorem MkE.done {o0 : Own} {w0 : World} {r n : Nat} {lim : Int} {o : Own} {w : World} {s t z p a b : Nat} (h : MkE o0 w0 r n lim o w (some s) (some t) (some z) (some p) (some a) (some b)) (A B : Nat) (hAB : (A = a ∧ B = b) ∨ (A = b ∧ B = a)) :
    EngNew o0 w0 r n lim (.returned (.pointer (some ⟨w.heap.size, 0, none⟩))) (w.alloc (.cells #[.pointer (some ⟨s, 0, none⟩), .pointer (some ⟨t, 0, none⟩), .pointer (some ⟨z, 0, none⟩), .pointer (some ⟨p, 0, none⟩), .map (some A), .map (some B), .slice none 0 0] 102)) := by
  have F := (Fr.refl (lo := 0) (hi := 0) h.fr.fresh).give (.cells #[.pointer (some ⟨s, 0, none⟩), .pointer (some ⟨t, 0, none⟩), .pointer (some ⟨z, 0, none⟩), .pointer (some ⟨p, 0, none⟩), .map (some A), .map (some B), .slice none 0 0] 102) r
  have hA : MapBlk o w (r + 26) A (fun _ => none) ∧ MapBlk o w (r + 26) B (fun _ => none) ∧ A ≠ B := by
    have hne := h.ne_ a b rfl rfl
    rcases hAB with ⟨rfl, rfl⟩ | ⟨rfl, rfl⟩
    · exact ⟨h.m1_ _ rfl, h.m2_ _ rfl, hne⟩
    · exact ⟨h.m2_ _ rfl, h.m1_ _ rfl, hne.symm⟩
  exact ⟨_, _, rfl, h.fr.give _ r, s, t, z, p, A, B, .slice none 0 0, newK n lim, ⟨Blk.new _ r, (h.s_ s rfl).keep F (.inr (Nat.zero_le _)), (h.t_ t rfl).keep F (.inr (Nat.zero_le _)), (h.z_ z rfl).keep F (.inr (Nat.zero_le _)), (h.p_ p rfl).keep F (.inr (Nat.zero_le _)), (hA.1.keep F (.inr (Nat.zero_le _))).congr (fun _ => rfl), (hA.2.1.keep F (.inr (Nat.zero_le _))).congr (fun _ => rfl), hA.2.2, Row.nil _, fun g hg => (by cases hg)⟩, newK_abs n lim⟩
set_option maxRecDepth 100000 in
set_option maxHeartbeats 2000000 in
theorem eng_new {o : Own} (r n : Nat) (lim : Int) (w : World) (ho : Owned o w) (h0 : 1 < n) (h1 : n ≤ 4096) (l0 : 1 ≤ lim) (l1 : lim ≤ 1073741824) :
    Calls Tryz.prog 27 #[.int .i64 (n : Nat), .int .i64 0, .int .i64 lim] w (EngNew o w r n lim) := by
  have hmm := @run_makeMap Tryz.prog
  have M0 := Lib.hid (MkE.base ho r n lim)
  have HD := Lib.hid (fun (o1 : Own) (w1 : World) (s t z p a b A B k : Nat) (M : MkE o w r n lim o1 w1 (some s) (some t) (some z) (some p) (some a) (some b)) (e : (A = a ∧ B = b) ∨ (A = b ∧ B = a)) (e3 : w1.heap.size = k) => show EngNew o w r n lim (.returned (.pointer (some ⟨k, 0, none⟩))) (w1.alloc (.cells #[.pointer (some ⟨s, 0, none⟩), .pointer (some ⟨t, 0, none⟩), .pointer (some ⟨z, 0, none⟩), .pointer (some ⟨p, 0, none⟩), .map (some A), .map (some B), .slice none 0 0] 102)) by subst e3; exact M.done A B e)
  have HDD := Lib.hid (fun (e : Ending) (w' : World) (h : EngNew o w r n lim e w') => show EngNew o w r n lim e w'.drew by
    obtain ⟨p, o', h1, h2, h3⟩ := h
    exact ⟨p, o', h1, h2.drew, h3.keep (Fr.refl (lo := 0) (hi := 0) h2.fresh).drew (.inr (Nat.zero_le _))⟩)
  have H0 := Lib.hid h0
  have H1 := Lib.hid h1
  have L0 := Lib.hid l0
  have L1 := Lib.hid l1
  clear h0 h1 l0 l1 ho
  go_enter Tryz.func27, Tryz.ntmps27
  go_wp2_with (first
    | (go_at_call 48; (first | (with_reducible refine (MkE.space (n := n) M0.out H0.out H1.out).mono ?_) | (with_reducible refine (MkE.space (n := n) M0.out.drew H0.out H1.out).mono ?_) | (with_reducible refine (MkE.space (n := n) M0.out.drew.drew H0.out H1.out).mono ?_) | (with_reducible refine (MkE.space (n := n) M0.out.map H0.out H1.out).mono ?_) | (with_reducible refine (MkE.space (n := n) M0.out.map.drew H0.out H1.out).mono ?_) | (with_reducible refine (MkE.space (n := n) M0.out.map.drew.drew H0.out H1.out).mono ?_) | (with_reducible refine (MkE.space (n := n) M0.out.map.map2 H0.out H1.out).mono ?_) | (with_reducible refine (MkE.space (n := n) M0.out.map.map2.drew H0.out H1.out).mono ?_) | (with_reducible refine (MkE.space (n := n) M0.out.map.map2.drew.drew H0.out H1.out).mono ?_) | (with_reducible refine (MkE.space (n := n) M0.out.map2 H0.out H1.out).mono ?_) | (with_reducible refine (MkE.space (n := n) M0.out.map2.drew H0.out H1.out).mono ?_) | (with_reducible refine (MkE.space (n := n) M0.out.map2.drew.drew H0.out H1.out).mono ?_)); rintro e w1 ⟨s, o1, rfl, M1'⟩; have M1 := Lib.hid M1'; clear M1')
    | (go_at_call 87; (first | (with_reducible refine (MkE.spill (lim := lim) M1.out L0.out L1.out).mono ?_) | (with_reducible refine (MkE.spill (lim := lim) M1.out.drew L0.out L1.out).mono ?_) | (with_reducible refine (MkE.spill (lim := lim) M1.out.drew.drew L0.out L1.out).mono ?_) | (with_reducible refine (MkE.spill (lim := lim) M1.out.map L0.out L1.out).mono ?_) | (with_reducible refine (MkE.spill (lim := lim) M1.out.map.drew L0.out L1.out).mono ?_) | (with_reducible refine (MkE.spill (lim := lim) M1.out.map.drew.drew L0.out L1.out).mono ?_) | (with_reducible refine (MkE.spill (lim := lim) M1.out.map.map2 L0.out L1.out).mono ?_) | (with_reducible refine (MkE.spill (lim := lim) M1.out.map.map2.drew L0.out L1.out).mono ?_) | (with_reducible refine (MkE.spill (lim := lim) M1.out.map.map2.drew.drew L0.out L1.out).mono ?_) | (with_reducible refine (MkE.spill (lim := lim) M1.out.map2 L0.out L1.out).mono ?_) | (with_reducible refine (MkE.spill (lim := lim) M1.out.map2.drew L0.out L1.out).mono ?_) | (with_reducible refine (MkE.spill (lim := lim) M1.out.map2.drew.drew L0.out L1.out).mono ?_)); rintro e w2 ⟨t, o2, rfl, M2'⟩; have M2 := Lib.hid M2'; clear M2')
    | (go_at_call 88; (first | (with_reducible refine (MkE.purple M3.out).mono ?_) | (with_reducible refine (MkE.purple M3.out.drew).mono ?_) | (with_reducible refine (MkE.purple M3.out.drew.drew).mono ?_) | (with_reducible refine (MkE.purple M3.out.map).mono ?_) | (with_reducible refine (MkE.purple M3.out.map.drew).mono ?_) | (with_reducible refine (MkE.purple M3.out.map.drew.drew).mono ?_) | (with_reducible refine (MkE.purple M3.out.map.map2).mono ?_) | (with_reducible refine (MkE.purple M3.out.map.map2.drew).mono ?_) | (with_reducible refine (MkE.purple M3.out.map.map2.drew.drew).mono ?_) | (with_reducible refine (MkE.purple M3.out.map2).mono ?_) | (with_reducible refine (MkE.purple M3.out.map2.drew).mono ?_) | (with_reducible refine (MkE.purple M3.out.map2.drew.drew).mono ?_)); rintro e w4 ⟨p, o4, rfl, M4'⟩; have M4 := Lib.hid M4'; clear M4')
    | (go_at_call 88; (first | (with_reducible refine (MkE.zeros M2.out).mono ?_) | (with_reducible refine (MkE.zeros M2.out.drew).mono ?_) | (with_reducible refine (MkE.zeros M2.out.drew.drew).mono ?_) | (with_reducible refine (MkE.zeros M2.out.map).mono ?_) | (with_reducible refine (MkE.zeros M2.out.map.drew).mono ?_) | (with_reducible refine (MkE.zeros M2.out.map.drew.drew).mono ?_) | (with_reducible refine (MkE.zeros M2.out.map.map2).mono ?_) | (with_reducible refine (MkE.zeros M2.out.map.map2.drew).mono ?_) | (with_reducible refine (MkE.zeros M2.out.map.map2.drew.drew).mono ?_) | (with_reducible refine (MkE.zeros M2.out.map2).mono ?_) | (with_reducible refine (MkE.zeros M2.out.map2.drew).mono ?_) | (with_reducible refine (MkE.zeros M2.out.map2.drew.drew).mono ?_)); rintro e w3 ⟨z, o3, rfl, M3'⟩; have M3 := Lib.hid M3'; clear M3'))
  all_goals go_ret
  all_goals (first | exact HD.out _ _ _ _ _ _ _ _ _ _ _ M4.out (by first | exact .inl ⟨by first | rfl | simp, by first | rfl | simp⟩ | exact .inr ⟨by first | rfl | simp, by first | rfl | simp⟩) (by first | rfl | simp) | exact HDD.out _ _ (HD.out _ _ _ _ _ _ _ _ _ _ _ M4.out (by first | exact .inl ⟨by first | rfl | simp, by first | rfl | simp⟩ | exact .inr ⟨by first | rfl | simp, by first | rfl | simp⟩) (by first | rfl | simp)) | exact HDD.out _ _ (HDD.out _ _ (HD.out _ _ _ _ _ _ _ _ _ _ _ M4.out (by first | exact .inl ⟨by first | rfl | simp, by first | rfl | simp⟩ | exact .inr ⟨by first | rfl | simp, by first | rfl | simp⟩) (by first | rfl | simp))) | exact HD.out _ _ _ _ _ _ _ _ _ _ _ M4.out.map (by first | exact .inl ⟨by first | rfl | simp, by first | rfl | simp⟩ | exact .inr ⟨by first | rfl | simp, by first | rfl | simp⟩) (by first | rfl | simp) | exact HDD.out _ _ (HD.out _ _ _ _ _ _ _ _ _ _ _ M4.out.map (by first | exact .inl ⟨by first | rfl | simp, by first | rfl | simp⟩ | exact .inr ⟨by first | rfl | simp, by first | rfl | simp⟩) (by first | rfl | simp)) | exact HDD.out _ _ (HDD.out _ _ (HD.out _ _ _ _ _ _ _ _ _ _ _ M4.out.map (by first | exact .inl ⟨by first | rfl | simp, by first | rfl | simp⟩ | exact .inr ⟨by first | rfl | simp, by first | rfl | simp⟩) (by first | rfl | simp))) | exact HD.out _ _ _ _ _ _ _ _ _ _ _ M4.out.map.map2 (by first | exact .inl ⟨by first | rfl | simp, by first | rfl | simp⟩ | exact .inr ⟨by first | rfl | simp, by first | rfl | simp⟩) (by first | rfl | simp) | exact HDD.out _ _ (HD.out _ _ _ _ _ _ _ _ _ _ _ M4.out.map.map2 (by first | exact .inl ⟨by first | rfl | simp, by first | rfl | simp⟩ | exact .inr ⟨by first | rfl | simp, by first | rfl | simp⟩) (by first | rfl | simp)) | exact HDD.out _ _ (HDD.out _ _ (HD.out _ _ _ _ _ _ _ _ _ _ _ M4.out.map.map2 (by first | exact .inl ⟨by first | rfl | simp, by first | rfl | simp⟩ | exact .inr ⟨by first | rfl | simp, by first | rfl | simp⟩) (by first | rfl | simp))) | exact HD.out _ _ _ _ _ _ _ _ _ _ _ M4.out.map2 (by first | exact .inl ⟨by first | rfl | simp, by first | rfl | simp⟩ | exact .inr ⟨by first | rfl | simp, by first | rfl | simp⟩) (by first | rfl | simp) | exact HDD.out _ _ (HD.out _ _ _ _ _ _ _ _ _ _ _ M4.out.map2 (by first | exact .inl ⟨by first | rfl | simp, by first | rfl | simp⟩ | exact .inr ⟨by first | rfl | simp, by first | rfl | simp⟩) (by first | rfl | simp)) | exact HDD.out _ _ (HDD.out _ _ (HD.out _ _ _ _ _ _ _ _ _ _ _ M4.out.map2 (by first | exact .inl ⟨by first | rfl | simp, by first | rfl | simp⟩ | exact .inr ⟨by first | rfl | simp, by first | rfl | simp⟩) (by first | rfl | simp))))
end Go.Proofs.YtlpklloagaccoaaGreat
