/- The engine of counts (count): what lies where of it; New's parts. No condition. The engine of counts: its reads, and what it writes into headers (count.Kind, Cells, Cell, mark). Conditions: the engine is as one that was made. -/
import Derived.Test.YtlpklloagaccoaaGreatStr
import Derived.Test.YtlpklloagaccoaaGreatSpill
import Derived.Test.YtlpklloagaccoaaGreatLeast3
import Derived.Outline
namespace Go.Proofs.YtlpklloagaccoaaGreat
open Go.RowKit
set_option linter.unusedVariables false

/-- An engine as it lies: what is left to give out, objects with their headers' counts, the limit, extras, who is sticky; zeros, purple, watched, weak ones; what is pending. -/
structure EngK where
  L : Al
  ob : Int → Option Ob
  lim : Int
  ex : Int → Int
  st : Int → Bool
  Z : Int → Bool
  Pu : Int → Bool
  wat : Int → Bool
  weak : Int → Bool
  pend : List Int
/-- A set as a map that says true. -/
def setMap (S : Int → Bool) : Int → Option Value := fun k => if S k = true then some (.bool true) else none
structure Eng (o : Own) (w : World) (r p : Nat) (K : EngK) (ps pt pz pp bw bk : Nat) (v : Value) : Prop where
  blk : Blk o w r p (.cells #[.pointer (some ⟨ps, 0, none⟩), .pointer (some ⟨pt, 0, none⟩), .pointer (some ⟨pz, 0, none⟩), .pointer (some ⟨pp, 0, none⟩), .map (some bw), .map (some bk), v] 102 (0, 0))
  sp : SpaceRep o w (r + 1) ps K.L K.ob
  spill : SpillRep o w (r + 17) pt K.lim K.ex K.st
  zeros : LeastRep o w (r + 20) pz K.Z
  purple : LeastRep o w (r + 23) pp K.Pu
  wat : MapBlk o w (r + 26) bw (setMap K.wat)
  weak : MapBlk o w (r + 26) bk (setMap K.weak)
  wne : bw ≠ bk
  pend : Row w v K.pend
  pown : ∀ g, v.ownBlock = some g → o g = r + 28
def EngKRep (o : Own) (w : World) (r p : Nat) (K : EngK) : Prop := ∃ ps pt pz pp bw bk v, Eng o w r p K ps pt pz pp bw bk v
theorem Eng.keep {lo hi : Nat} {o o' : Own} {w w' : World} {r p : Nat} {K : EngK} {ps pt pz pp bw bk : Nat} {v : Value} (h : Eng o w r p K ps pt pz pp bw bk v) (k : Fr lo hi o o' w w') (hr : r + 29 ≤ lo ∨ hi ≤ r) : Eng o' w' r p K ps pt pz pp bw bk v :=
  ⟨h.blk.keep k (by omega), h.sp.keep k (by omega), h.spill.keep k (by omega), h.zeros.keep k (by omega), h.purple.keep k (by omega), h.wat.keep k (by omega), h.weak.keep k (by omega), h.wne, (h.pend.keepA h.pown k (by omega)).1, (h.pend.keepA h.pown k (by omega)).2⟩
theorem EngKRep.keep {lo hi : Nat} {o o' : Own} {w w' : World} {r p : Nat} {K : EngK} (h : EngKRep o w r p K) (k : Fr lo hi o o' w w') (hr : r + 29 ≤ lo ∨ hi ≤ r) : EngKRep o' w' r p K :=
  let ⟨a, b, c, d, e, f, v, s⟩ := h; ⟨a, b, c, d, e, f, v, s.keep k hr⟩
/-- The space turns. -/
theorem Eng.space {o o' : Own} {w w' : World} {r p : Nat} {K : EngK} {ps pt pz pp bw bk : Nat} {v : Value} (h : Eng o w r p K ps pt pz pp bw bk v) (k : Fr (r + 1) (r + 1 + 16) o o' w w') {L : Al} {ob : Int → Option Ob} (S : SpaceRep o' w' (r + 1) ps L ob) : Eng o' w' r p { K with L := L, ob := ob } ps pt pz pp bw bk v :=
  ⟨h.blk.keep k (by omega), S, h.spill.keep k (by omega), h.zeros.keep k (by omega), h.purple.keep k (by omega), h.wat.keep k (by omega), h.weak.keep k (by omega), h.wne, (h.pend.keepA h.pown k (by omega)).1, (h.pend.keepA h.pown k (by omega)).2⟩
theorem Eng.spillT {o o' : Own} {w w' : World} {r p : Nat} {K : EngK} {ps pt pz pp bw bk : Nat} {v : Value} (h : Eng o w r p K ps pt pz pp bw bk v) (k : Fr (r + 17) (r + 17 + 3) o o' w w') {ex : Int → Int} {st : Int → Bool} (S : SpillRep o' w' (r + 17) pt K.lim ex st) : Eng o' w' r p { K with ex := ex, st := st } ps pt pz pp bw bk v :=
  ⟨h.blk.keep k (by omega), h.sp.keep k (by omega), S, h.zeros.keep k (by omega), h.purple.keep k (by omega), h.wat.keep k (by omega), h.weak.keep k (by omega), h.wne, (h.pend.keepA h.pown k (by omega)).1, (h.pend.keepA h.pown k (by omega)).2⟩
theorem Eng.zerosT {o o' : Own} {w w' : World} {r p : Nat} {K : EngK} {ps pt pz pp bw bk : Nat} {v : Value} (h : Eng o w r p K ps pt pz pp bw bk v) (k : Fr (r + 20) (r + 20 + 3) o o' w w') {Z : Int → Bool} (S : LeastRep o' w' (r + 20) pz Z) : Eng o' w' r p { K with Z := Z } ps pt pz pp bw bk v :=
  ⟨h.blk.keep k (by omega), h.sp.keep k (by omega), h.spill.keep k (by omega), S, h.purple.keep k (by omega), h.wat.keep k (by omega), h.weak.keep k (by omega), h.wne, (h.pend.keepA h.pown k (by omega)).1, (h.pend.keepA h.pown k (by omega)).2⟩
theorem Eng.purpleT {o o' : Own} {w w' : World} {r p : Nat} {K : EngK} {ps pt pz pp bw bk : Nat} {v : Value} (h : Eng o w r p K ps pt pz pp bw bk v) (k : Fr (r + 23) (r + 23 + 3) o o' w w') {Pu : Int → Bool} (S : LeastRep o' w' (r + 23) pp Pu) : Eng o' w' r p { K with Pu := Pu } ps pt pz pp bw bk v :=
  ⟨h.blk.keep k (by omega), h.sp.keep k (by omega), h.spill.keep k (by omega), h.zeros.keep k (by omega), S, h.wat.keep k (by omega), h.weak.keep k (by omega), h.wne, (h.pend.keepA h.pown k (by omega)).1, (h.pend.keepA h.pown k (by omega)).2⟩
theorem Eng.watT {o : Own} {w w' : World} {r p : Nat} {K : EngK} {ps pt pz pp bw bk : Nat} {v : Value} (h : Eng o w r p K ps pt pz pp bw bk v) (ho : Owned o w) (T : MapTurn w w' bw) {wat : Int → Bool} (S : MapIs w' bw (setMap wat)) : Fr r (r + 29) o o w w' ∧ Eng o w' r p { K with wat := wat } ps pt pz pp bw bk v := by
  have k : Fr (r + 26) (r + 27) o o w w' := T.fr ho (by have := h.wat.1; omega)
  exact ⟨k.mono (by omega) (by omega), h.blk.keep k (by omega), h.sp.keep k (by omega), h.spill.keep k (by omega), h.zeros.keep k (by omega), h.purple.keep k (by omega), ⟨h.wat.1, S⟩, ⟨h.weak.1, h.weak.2.of_eq (T.block _ h.wne.symm)⟩, h.wne, (h.pend.keepA h.pown k (by omega)).1, (h.pend.keepA h.pown k (by omega)).2⟩
theorem Eng.weakT {o : Own} {w w' : World} {r p : Nat} {K : EngK} {ps pt pz pp bw bk : Nat} {v : Value} (h : Eng o w r p K ps pt pz pp bw bk v) (ho : Owned o w) (T : MapTurn w w' bk) {weak : Int → Bool} (S : MapIs w' bk (setMap weak)) : Fr r (r + 29) o o w w' ∧ Eng o w' r p { K with weak := weak } ps pt pz pp bw bk v := by
  have k : Fr (r + 26) (r + 27) o o w w' := T.fr ho (by have := h.weak.1; omega)
  exact ⟨k.mono (by omega) (by omega), h.blk.keep k (by omega), h.sp.keep k (by omega), h.spill.keep k (by omega), h.zeros.keep k (by omega), h.purple.keep k (by omega), ⟨h.wat.1, h.wat.2.of_eq (T.block _ h.wne)⟩, ⟨h.weak.1, S⟩, h.wne, (h.pend.keepA h.pown k (by omega)).1, (h.pend.keepA h.pown k (by omega)).2⟩
theorem setMap_upd (S : Int → Bool) (h : Int) (k : Int) : (if k = h then some (Value.bool true) else setMap S k) = setMap (updS S h true) k := by
  unfold setMap updS
  by_cases e : k = h
  · rw [if_pos e, if_pos e, if_pos rfl]
  · rw [if_neg e, if_neg e]
theorem setMap_del (S : Int → Bool) (h : Int) (k : Int) : (if k = h then none else setMap S k) = setMap (updS S h false) k := by
  unfold setMap updS
  by_cases e : k = h
  · rw [if_pos e, if_pos e, if_neg (by decide)]
  · rw [if_neg e, if_neg e]
theorem setMap_get (S : Int → Bool) (k : Int) : (setMap S k).getD (.bool false) = .bool (S k) := by
  unfold setMap
  cases S k <;> rfl
/-- Behind a call on the engine. -/
def EngPost (o : Own) (w : World) (r p : Nat) (K : EngK) (v : Value) (e : Ending) (w' : World) : Prop :=
  e = .returned v ∧ ∃ o', Fr r (r + 29) o o' w w' ∧ EngKRep o' w' r p K
theorem SpaceRep.hrange {o : Own} {w : World} {r p : Nat} {L : Al} {ob : Int → Option Ob} (S : SpaceRep o w r p L ob) {h : Int} {x : Ob} (hx : ob h = some x) : 64 ≤ h ∧ h < 262144 := by
  obtain ⟨pa, A, S⟩ := S
  obtain ⟨a, ha, h64, hr, _⟩ := S.ok.range hx
  obtain ⟨g, q, l, b, v, f, AR⟩ := S.ar
  have := AR.n1
  have := wordsN_pos x.cells x.raw
  have hr' : a + wordsN x.cells x.raw ≤ A.n * 64 := hr
  omega
theorem SpaceRep.obok {o : Own} {w : World} {r p : Nat} {L : Al} {ob : Int → Option Ob} (S : SpaceRep o w r p L ob) {h : Int} {x : Ob} (hx : ob h = some x) : (1 ≤ x.kind ∧ x.kind ≤ 8) ∧ x.cells ≤ 4000 ∧ x.raw ≤ 4000 ∧ x.cnt ≤ 255 := by
  obtain ⟨pa, A, S⟩ := S
  obtain ⟨a, ha, h64, hr, hat⟩ := S.ok.range hx
  exact ⟨hat.k1, hat.c1, hat.r1, hat.n1⟩
end Go.Proofs.YtlpklloagaccoaaGreat
namespace Go.Proofs.YtlpklloagaccoaaGreat
open Go.RowKit
set_option linter.unusedVariables false

theorem Eng.c0 {o : Own} {w : World} {r p : Nat} {K : EngK} {ps pt pz pp bw bk : Nat} {v : Value} (h : Eng o w r p K ps pt pz pp bw bk v) : w.cell? ⟨p, 0, none⟩ = some (.pointer (some ⟨ps, 0, none⟩)) := h.blk.cell 0
theorem Eng.c1 {o : Own} {w : World} {r p : Nat} {K : EngK} {ps pt pz pp bw bk : Nat} {v : Value} (h : Eng o w r p K ps pt pz pp bw bk v) : w.cell? ⟨p, 1, none⟩ = some (.pointer (some ⟨pt, 0, none⟩)) := h.blk.cell 1
theorem Eng.c2 {o : Own} {w : World} {r p : Nat} {K : EngK} {ps pt pz pp bw bk : Nat} {v : Value} (h : Eng o w r p K ps pt pz pp bw bk v) : w.cell? ⟨p, 2, none⟩ = some (.pointer (some ⟨pz, 0, none⟩)) := h.blk.cell 2
theorem Eng.c3 {o : Own} {w : World} {r p : Nat} {K : EngK} {ps pt pz pp bw bk : Nat} {v : Value} (h : Eng o w r p K ps pt pz pp bw bk v) : w.cell? ⟨p, 3, none⟩ = some (.pointer (some ⟨pp, 0, none⟩)) := h.blk.cell 3
theorem Eng.c4 {o : Own} {w : World} {r p : Nat} {K : EngK} {ps pt pz pp bw bk : Nat} {v : Value} (h : Eng o w r p K ps pt pz pp bw bk v) : w.cell? ⟨p, 4, none⟩ = some (.map (some bw)) := h.blk.cell 4
theorem Eng.c5 {o : Own} {w : World} {r p : Nat} {K : EngK} {ps pt pz pp bw bk : Nat} {v : Value} (h : Eng o w r p K ps pt pz pp bw bk v) : w.cell? ⟨p, 5, none⟩ = some (.map (some bk)) := h.blk.cell 5
theorem Eng.c6 {o : Own} {w : World} {r p : Nat} {K : EngK} {ps pt pz pp bw bk : Nat} {v : Value} (h : Eng o w r p K ps pt pz pp bw bk v) : w.cell? ⟨p, 6, none⟩ = some v := h.blk.cell 6
def kindOf (K : EngK) (h : Int) : Nat := match K.ob h with | some x => x.kind | none => 0
def cellsOf (K : EngK) (h : Int) : Nat := match K.ob h with | some x => x.cells | none => 0
theorem ekind_any {o : Own} {r p : Nat} {K : EngK} (h : Int) (w : World) (ho : Owned o w) (E : EngKRep o w r p K) :
    Calls Tryz.prog 33 #[.pointer (some ⟨p, 0, none⟩), .int .i64 h] w fun e w' => e = .returned (.int .i64 (kindOf K h : Nat)) ∧ Below w.heap.size w w' := by
  obtain ⟨ps, pt, pz, pp, bw, bk, v, E⟩ := E
  have c0 := E.c0
  unfold kindOf
  cases hx : K.ob h with
  | some x =>
    have HH := Lib.hid (ohead_yes h x w ho E.sp hx)
    clear E hx
    go_enter Tryz.func33, Tryz.ntmps33
    go_wp2_with fail
    go_at_call 54
    refine HH.out.mono ?_
    rintro e w1 ⟨col, z, hcol, rfl, hb1⟩
    have HB1 := Lib.hid hb1
    clear hb1
    go_wp2_with fail
    go_ret
    exact ⟨rfl, by first | exact HB1.out.alloc HB1.out.size _ | exact HB1.out⟩
  | none =>
    have HH := Lib.hid (ohead_no h w ho E.sp hx)
    clear E hx
    go_enter Tryz.func33, Tryz.ntmps33
    go_wp2_with fail
    go_at_call 54
    refine HH.out.mono ?_
    rintro e w1 ⟨rfl, hb1⟩
    have HB1 := Lib.hid hb1
    clear hb1
    go_wp2_with fail
    go_ret
    exact ⟨rfl, by first | exact HB1.out.alloc HB1.out.size _ | exact HB1.out⟩
theorem ecells_any {o : Own} {r p : Nat} {K : EngK} (h : Int) (w : World) (ho : Owned o w) (E : EngKRep o w r p K) :
    Calls Tryz.prog 32 #[.pointer (some ⟨p, 0, none⟩), .int .i64 h] w fun e w' => e = .returned (.int .i64 (cellsOf K h : Nat)) ∧ Below w.heap.size w w' := by
  obtain ⟨ps, pt, pz, pp, bw, bk, v, E⟩ := E
  have c0 := E.c0
  unfold cellsOf
  cases hx : K.ob h with
  | some x =>
    have HH := Lib.hid (ohead_yes h x w ho E.sp hx)
    clear E hx
    go_enter Tryz.func32, Tryz.ntmps32
    go_wp2_with fail
    go_at_call 54
    refine HH.out.mono ?_
    rintro e w1 ⟨col, z, hcol, rfl, hb1⟩
    have HB1 := Lib.hid hb1
    clear hb1
    go_wp2_with fail
    go_ret
    exact ⟨rfl, by first | exact HB1.out.alloc HB1.out.size _ | exact HB1.out⟩
  | none =>
    have HH := Lib.hid (ohead_no h w ho E.sp hx)
    clear E hx
    go_enter Tryz.func32, Tryz.ntmps32
    go_wp2_with fail
    go_at_call 54
    refine HH.out.mono ?_
    rintro e w1 ⟨rfl, hb1⟩
    have HB1 := Lib.hid hb1
    clear hb1
    go_wp2_with fail
    go_ret
    exact ⟨rfl, by first | exact HB1.out.alloc HB1.out.size _ | exact HB1.out⟩
/-- What Cell answers. -/
def cellAns (K : EngK) (h i : Int) : Value :=
  match K.ob h with
  | none => .tuple #[valV 0 0, .int .i64 3]
  | some x => if i < 0 ∨ (x.cells : Int) ≤ i then .tuple #[valV 0 0, .int .i64 6] else .tuple #[valV (x.val i.toNat).1 (x.val i.toNat).2, .int .i64 0]
theorem ocellv_any {o : Own} {r p : Nat} {K : EngK} (h i : Int) (w : World) (ho : Owned o w) (S : SpaceRep o w r p K.L K.ob) :
    Calls Tryz.prog 59 #[.pointer (some ⟨p, 0, none⟩), .int .i64 h, .int .i64 i] w fun e w' => e = .returned (cellAns K h i) ∧ Below w.heap.size w w' := by
  unfold cellAns
  cases hx : K.ob h with
  | none => exact ocellv_none h i w ho S hx
  | some x =>
    show Calls _ _ _ _ (fun e w' => e = .returned (if i < 0 ∨ (x.cells : Int) ≤ i then _ else _) ∧ _)
    by_cases hi : i < 0 ∨ (x.cells : Int) ≤ i
    · rw [if_pos hi]; exact ocellv_range h i x w ho S hx hi
    · rw [if_neg hi]; exact ocellv_yes h i x i.toNat w ho S hx (by omega) (by omega)
theorem ecell_any {o : Own} {r p : Nat} {K : EngK} (h i : Int) (w : World) (ho : Owned o w) (E : EngKRep o w r p K) :
    Calls Tryz.prog 30 #[.pointer (some ⟨p, 0, none⟩), .int .i64 h, .int .i64 i] w fun e w' => e = .returned (cellAns K h i) ∧ Below w.heap.size w w' := by
  obtain ⟨ps, pt, pz, pp, bw, bk, v, E⟩ := E
  have c0 := E.c0
  have hform : ∃ a b c, cellAns K h i = .tuple #[valV a b, .int .i64 c] := by
    unfold cellAns
    cases K.ob h with
    | none => exact ⟨_, _, _, rfl⟩
    | some x =>
      show ∃ a b c, (if i < 0 ∨ (x.cells : Int) ≤ i then _ else _) = _
      split <;> exact ⟨_, _, _, rfl⟩
  obtain ⟨a, b, c, hf⟩ := hform
  have HH := Lib.hid (fun (w1 : World) (G : Grew o w (.cells #[.int .i64 0, .int .i64 0] 30) w1) => show Calls Tryz.prog 59 #[.pointer (some ⟨ps, 0, none⟩), .int .i64 h, .int .i64 i] w1 fun e w' => e = .returned (.tuple #[valV a b, .int .i64 c]) ∧ Grew o w (.cells #[.int .i64 0, .int .i64 0] 30) w' from
    (ocellv_any (K := K) h i w1 G.fr.fresh (E.sp.keep G.fr (.inr (Nat.zero_le _)))).mono fun e w' h => ⟨by rw [← hf]; exact h.1, G.below h.2⟩)
  have HO := Lib.hid ho
  have hpl := E.blk.lt
  rw [hf]
  clear E hf ho
  go_enter Tryz.func30, Tryz.ntmps30
  go_wp2_with fail
  go_at_call 59
  refine (HH.out _ (by repeat (first | exact Grew.base HO.out _ | refine Grew.drew ?_ | refine Grew.alloc ?_ _))).mono ?_
  rintro e w1 ⟨rfl, G1⟩
  have R1 := G1.x_
  have y0 : w1.cell? ⟨w.heap.size, 0, none⟩ = some (.int .i64 0) := by simp [World.cell?, R1]
  have y1 : w1.cell? ⟨w.heap.size, 1, none⟩ = some (.int .i64 0) := by simp [World.cell?, R1]
  have z0 : w1.frozen? ⟨w.heap.size, 0, none⟩ = false := by simp [World.frozen?, R1]
  have z1 : w1.frozen? ⟨w.heap.size, 1, none⟩ = false := by simp [World.frozen?, R1]
  have HB1 := Lib.hid G1.fr.below0
  clear R1 G1
  go_wp2_with fail
  refine bodyPost_ret (v := .tuple #[valV a b, .int .i64 c]) ?_ rfl ⟨rfl, ?_⟩
  · simp [results, Tryz.results30, go_sem, y0, y1]
  · exact ((HB1.out).setCell (Nat.le_refl _) _).setCell (Nat.le_refl _) _
/-- A header is written anew. -/
def MarkPost (o : Own) (w : World) (r p : Nat) (K : EngK) (ps pt pz pp bw bk : Nat) (v : Value) (e : Ending) (w' : World) : Prop :=
  e = .returned (.tuple #[]) ∧ ∃ o', Fr r (r + 29) o o' w w' ∧ Eng o' w' r p K ps pt pz pp bw bk v
set_option maxRecDepth 100000 in
set_option maxHeartbeats 2000000 in
theorem mark_any {o : Own} {r p : Nat} {K : EngK} {ps pt pz pp bw bk : Nat} {v : Value} (h : Int) (n : Nat) (x : Ob) (ni : Int) (w : World) (ho : Owned o w) (E : Eng o w r p K ps pt pz pp bw bk v) (hx : K.ob h = some x) (hn : n ≤ 255) (hni : ni = n) :
    Calls Tryz.prog 117 #[.pointer (some ⟨p, 0, none⟩), .int .i64 h, .int .i64 ni] w (MarkPost o w r p { K with ob := updI K.ob h (some (setCnt x n)) } ps pt pz pp bw bk v) := by
  subst hni
  have HHd := Lib.hid (fun (w1 : World) (F : Fr 0 0 o o w w1) => show Calls Tryz.prog 54 #[.pointer (some ⟨ps, 0, none⟩), .int .i64 h] w1 fun e w' => ∃ (col : Nat) (z : Bool), e = .returned (.tuple #[hdV x.kind x.cells x.raw x.cnt col z false, .int .i64 0]) ∧ Fr 0 0 o o w w' from
    (ohead_yes h x w1 F.fresh (E.sp.keep F (.inr (Nat.zero_le _))) hx).mono fun e w' h => by
      obtain ⟨c2, z2, _, h1, h2⟩ := h
      exact ⟨c2, z2, h1, F.below h2⟩)
  have HZ := Lib.hid (fun (w1 : World) (F : Fr 0 0 o o w w1) => has_any h w1 (E.zeros.keep F (.inr (Nat.zero_le _))))
  have HP := Lib.hid (fun (w1 : World) (F : Fr 0 0 o o w w1) => has_any h w1 (E.purple.keep F (.inr (Nat.zero_le _))))
  have HS := Lib.hid (fun (w1 : World) (col : Nat) (hcol : col ≤ 3) (z : Bool) (F : Fr 0 0 o o w w1) => show Calls Tryz.prog 64 #[.pointer (some ⟨ps, 0, none⟩), .int .i64 h, hdV x.kind x.cells x.raw n col z false] w1 fun e w' => e = .returned (.int .i64 0) ∧ ∃ o', Fr r (r + 29) o o' w w' ∧ Eng o' w' r p { K with ob := updI K.ob h (some (setCnt x n)) } ps pt pz pp bw bk v from
    (osethead_yes h x n col z w1 F.fresh (E.sp.keep F (.inr (Nat.zero_le _))) hx hn hcol).mono fun e w' hh => by
      obtain ⟨h1, o', F2, S2⟩ := hh
      exact ⟨h1, o', (F.none r (r + 29)).trans (F2.mono (by omega) (by omega)), (E.keep F (.inr (Nat.zero_le _))).space F2 S2⟩)
  have HS0 := Lib.hid (fun (w1 : World) (z : Bool) (F : Fr 0 0 o o w w1) => show Calls Tryz.prog 64 #[.pointer (some ⟨ps, 0, none⟩), .int .i64 h, hdV x.kind x.cells x.raw n 0 z false] w1 fun e w' => e = .returned (.int .i64 0) ∧ ∃ o', Fr r (r + 29) o o' w w' ∧ Eng o' w' r p { K with ob := updI K.ob h (some (setCnt x n)) } ps pt pz pp bw bk v from HS.out w1 0 (by omega) z F)
  have HS3 := Lib.hid (fun (w1 : World) (z : Bool) (F : Fr 0 0 o o w w1) => show Calls Tryz.prog 64 #[.pointer (some ⟨ps, 0, none⟩), .int .i64 h, hdV x.kind x.cells x.raw n 3 z false] w1 fun e w' => e = .returned (.int .i64 0) ∧ ∃ o', Fr r (r + 29) o o' w w' ∧ Eng o' w' r p { K with ob := updI K.ob h (some (setCnt x n)) } ps pt pz pp bw bk v from HS.out w1 3 (by omega) z F)
  have c0 := E.c0
  have c2 := E.c2
  have c3 := E.c3
  have hpl := E.blk.lt
  have HO := Lib.hid ho
  obtain ⟨pu, hpu⟩ : ∃ b, b = K.Pu h := ⟨_, rfl⟩
  rw [← hpu] at HP
  clear E hx hn ho HS hpu
  cases pu
  all_goals
    go_enter Tryz.func117, Tryz.ntmps117
    go_wp2_with fail
    go_at_call 54
    refine (HHd.out _ (by repeat (first | exact Fr.refl HO.out | refine Fr.drew ?_ | refine Fr.alloc ?_ _))).mono ?_
    rintro e w1 ⟨col, z, rfl, F1⟩
    have c0 := F1.cell0 c0
    have c2 := F1.cell0 c2
    have c3 := F1.cell0 c3
    have hp1 : p < w1.heap.size := Nat.lt_of_lt_of_le hpl F1.size
    have HF1 := Lib.hid F1
    clear F1
    go_wp2_with fail
    go_at_call 174
    refine (HZ.out _ (HF1.out.alloc _)).mono ?_
    rintro e w2 ⟨rfl, rfl⟩
    go_wp2_with fail
    go_at_call 174
    refine (HP.out _ (by repeat (first | exact HF1.out | refine Fr.drew ?_ | refine Fr.alloc ?_ _))).mono ?_
    rintro e w2 ⟨rfl, rfl⟩
    go_wp2_with fail
    go_region_with (go_at_call 64; (first | (with_reducible refine (HS0.out _ _ (by repeat (first | exact HF1.out | refine Fr.drew ?_ | refine Fr.alloc ?_ _))).mono ?_) | (with_reducible refine (HS3.out _ _ (by repeat (first | exact HF1.out | refine Fr.drew ?_ | refine Fr.alloc ?_ _))).mono ?_)); rintro e w3 ⟨rfl, o3, F3, E3⟩; have HF3 := Lib.hid F3; clear F3; have HE3 := Lib.hid E3; clear E3)
    all_goals
      go_wp2_with fail
      go_end0
      exact ⟨rfl, o3, HF3.out, HE3.out⟩
end Go.Proofs.YtlpklloagaccoaaGreat
