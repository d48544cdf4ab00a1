/- The arena's state, and what lies where of it; has, Read, Write, used, Size. Conditions: the arena is as one that was made. -/
import Derived.Test.YtlpklloagaccoaaLine
import Derived.Test.YtlpklloagaccoaaArHeap
import Derived.Test.YtlpklloagaccoaaRows2
namespace Go.Proofs.Ytlpklloagaccoaa
open Go.RowKit
set_option linter.unusedVariables false

/-- A block: its length, what was asked for, its state. -/
structure Bl where
  size : Nat
  asked : Nat
  state : Nat
/-- An arena: pages, those that were taken (a mark above all of them, which, the runs), words, blocks, rows of free ones. -/
structure ArS where
  n : Nat
  t : Nat
  pg : Nat → Bool
  R : Runs
  m : Nat → Nat
  bl : Int → Option Bl
  rows : Nat → List Int
  cur : Nat → Nat × Nat
def blCells (x : Bl) : Array Value := #[.int .i64 (x.size : Nat), .int .i64 (x.asked : Nat), .int .i64 (x.state : Nat)]
def arCells (n g q l b : Nat) (v : Nat → Value) : Array Value :=
  #[.slice (some ⟨g, 0, none⟩) (n * 64) (n * 64), .pointer (some ⟨q, 0, none⟩), .pointer (some ⟨l, 0, none⟩), .map (some b), v 0, v 1, v 2, v 3, v 4, .int .i64 0]
structure Arena (o : Own) (w : World) (r p : Nat) (S : ArS) (g q l b : Nat) (v : Nat → Value) (f : Int → Option Nat) : Prop where
  blk : Blk o w r p (.cells (arCells S.n g q l b v) 96 (0, 0))
  gown : o g = r + 1
  ws : WordsB w g (S.n * 64) S.m
  mlt : ∀ i, S.m i < 2 ^ 64
  map : MapBlk o w (r + 2) b (fun k => (f k).map fun a => .pointer (some ⟨a, 0, none⟩))
  bnone : ∀ k, f k = none → S.bl k = none
  bsome : ∀ k a, f k = some a → ∃ x, S.bl k = some x ∧ Blk o w (r + 3) a (.cells (blCells x) 63 (0, 0))
  inj : ∀ k k' a, f k = some a → f k' = some a → k = k'
  row : ∀ c, c < 5 → Row w (v c) (S.rows c)
  rown : ∀ c, c < 5 → ∀ h, (v c).ownBlock = some h → o h = r + 4 + c
  pages : PagesRep o w (r + 9) q S.n S.pg S.R
  line : LineRep o w (r + 13) l
  n1 : 1 ≤ S.n ∧ S.n ≤ 4096
def ArenaRep (o : Own) (w : World) (r p : Nat) (S : ArS) : Prop := ∃ g q l b v f, Arena o w r p S g q l b v f
theorem Arena.keep {lo hi : Nat} {o o' : Own} {w w' : World} {r p : Nat} {S : ArS} {g q l b : Nat} {v : Nat → Value} {f : Int → Option Nat} (h : Arena o w r p S g q l b v f) (k : Fr lo hi o o' w w') (hr : r + 15 ≤ lo ∨ hi ≤ r) : Arena o' w' r p S g q l b v f :=
  ⟨h.blk.keep k (by omega), (k.own g h.ws.lt).trans h.gown, h.ws.of_eq (k.block g h.ws.lt (by rw [h.gown]; omega)), h.mlt, h.map.keep k (by omega), h.bnone,
    fun x a hx => let ⟨y, h1, h2⟩ := h.bsome x a hx; ⟨y, h1, h2.keep k (by omega)⟩, h.inj,
    fun c hc => ((h.row c hc).keepA (h.rown c hc) k (by omega)).1, fun c hc => ((h.row c hc).keepA (h.rown c hc) k (by omega)).2,
    h.pages.keep k (by omega), h.line.keep k (by omega), h.n1⟩
theorem ArenaRep.keep {lo hi : Nat} {o o' : Own} {w w' : World} {r p : Nat} {S : ArS} (h : ArenaRep o w r p S) (k : Fr lo hi o o' w w') (hr : r + 15 ≤ lo ∨ hi ≤ r) : ArenaRep o' w' r p S :=
  let ⟨g, q, l, b, v, f, s⟩ := h; ⟨g, q, l, b, v, f, s.keep k hr⟩
theorem ArenaRep.drewN {o : Own} {w : World} {r p : Nat} {S : ArS} (h : ArenaRep o w r p S) (ho : Owned o w) (k : Nat) : ArenaRep o (w.drewN k) r p S :=
  h.keep ((Fr.refl (lo := 0) (hi := 0) ho).drewN k) (.inr (Nat.zero_le _))
theorem Arena.c0 {o : Own} {w : World} {r p : Nat} {S : ArS} {g q l b : Nat} {v : Nat → Value} {f : Int → Option Nat} (h : Arena o w r p S g q l b v f) : w.cell? ⟨p, 0, none⟩ = some (.slice (some ⟨g, 0, none⟩) (S.n * 64) (S.n * 64)) := h.blk.cell 0
theorem Arena.c1 {o : Own} {w : World} {r p : Nat} {S : ArS} {g q l b : Nat} {v : Nat → Value} {f : Int → Option Nat} (h : Arena o w r p S g q l b v f) : w.cell? ⟨p, 1, none⟩ = some (.pointer (some ⟨q, 0, none⟩)) := h.blk.cell 1
theorem Arena.c2 {o : Own} {w : World} {r p : Nat} {S : ArS} {g q l b : Nat} {v : Nat → Value} {f : Int → Option Nat} (h : Arena o w r p S g q l b v f) : w.cell? ⟨p, 2, none⟩ = some (.pointer (some ⟨l, 0, none⟩)) := h.blk.cell 2
theorem Arena.c3 {o : Own} {w : World} {r p : Nat} {S : ArS} {g q l b : Nat} {v : Nat → Value} {f : Int → Option Nat} (h : Arena o w r p S g q l b v f) : w.cell? ⟨p, 3, none⟩ = some (.map (some b)) := h.blk.cell 3
theorem Arena.fp {o : Own} {w : World} {r p : Nat} {S : ArS} {g q l b : Nat} {v : Nat → Value} {f : Int → Option Nat} (h : Arena o w r p S g q l b v f) (i : Nat) : w.frozen? ⟨p, i, none⟩ = false := h.blk.free i
theorem Arena.cw {o : Own} {w : World} {r p : Nat} {S : ArS} {g q l b : Nat} {v : Nat → Value} {f : Int → Option Nat} (h : Arena o w r p S g q l b v f) {i : Nat} (hi : i < S.n * 64) : w.cell? ⟨g, i, none⟩ = some (.int .u64 (S.m i : Nat)) := h.ws.cell hi

/-! ### has, Read, Write -/
theorem ahas_yes {o : Own} {r p : Nat} {S : ArS} (i : Int) (k : Nat) (w : World) (A : ArenaRep o w r p S) (e : i = k) (hk : k < S.n * 64) :
    Calls Try.prog 51 #[.pointer (some ⟨p, 0, none⟩), .int .i64 i] w fun e w' => e = .returned (.bool true) ∧ w = w' := by
  subst e
  obtain ⟨g, q, l, b, v, f, A⟩ := A
  have c0 := A.c0
  have h0 : (0 : Int) ≤ (k : Int) := by omega
  have h1 : (k : Int) < ((S.n * 64 : Nat) : Int) := by omega
  clear A
  generalize S.n * 64 = N at *
  go_enter Try.func51, Try.ntmps51
  go_wp2
  go_ret
  exact ⟨rfl, rfl⟩
theorem ahas_no {o : Own} {r p : Nat} {S : ArS} (i : Int) (w : World) (A : ArenaRep o w r p S) (hk : i < 0 ∨ (S.n * 64 : Nat) ≤ i) :
    Calls Try.prog 51 #[.pointer (some ⟨p, 0, none⟩), .int .i64 i] w fun e w' => e = .returned (.bool false) ∧ w = w' := by
  obtain ⟨g, q, l, b, v, f, A⟩ := A
  have c0 := A.c0
  clear A
  generalize S.n * 64 = N at *
  rcases hk with hk | hk
  · have h0 : decide ((0 : Int) ≤ i) = false := by simp; omega
    go_enter Try.func51, Try.ntmps51
    go_wp2
    go_ret
    exact ⟨rfl, rfl⟩
  · have h0 : (0 : Int) ≤ i := by omega
    have h1 : ¬ i < (N : Int) := by omega
    go_enter Try.func51, Try.ntmps51
    go_wp2
    go_ret
    exact ⟨ret_bool (by first | rfl | (simp; omega)), rfl⟩
theorem aread_any {o : Own} {r p : Nat} {S : ArS} (i : Int) (k : Nat) (w : World) (A : ArenaRep o w r p S) (e : i = k) (hk : k < S.n * 64) :
    Calls Try.prog 29 #[.pointer (some ⟨p, 0, none⟩), .int .i64 i] w fun e w' => e = .returned (.tuple #[.int .u64 (S.m k : Nat), .int .i64 0]) ∧ w = w' := by
  subst e
  have HH := Lib.hid (ahas_yes (k : Int) k w A rfl hk)
  obtain ⟨g, q, l, b, v, f, A⟩ := A
  have c0 := A.c0
  have cw := A.cw hk
  have h1 : (k : Int) < ((S.n * 64 : Nat) : Int) := by omega
  clear A
  generalize S.m k = x at *
  generalize S.n * 64 = N at *
  go_enter Try.func29, Try.ntmps29
  go_wp2_with (go_at_call 51; refine HH.out.mono ?_; rintro e w1 ⟨rfl, rfl⟩)
  go_ret2
  exact ⟨rfl, rfl⟩
def setW (S : ArS) (k x : Nat) : ArS := { S with m := updN S.m k x }
theorem Arena.write {o : Own} {w : World} {r p : Nat} {S : ArS} {g q l b : Nat} {v : Nat → Value} {f : Int → Option Nat} (A : Arena o w r p S g q l b v f) (ho : Owned o w) (k x : Nat) (hx : x < 2 ^ 64) :
    Fr r (r + 15) o o w (w.setCell ⟨g, k, none⟩ (.int .u64 (x : Nat))) ∧ Arena o (w.setCell ⟨g, k, none⟩ (.int .u64 (x : Nat))) r p (setW S k x) g q l b v f := by
  have F : ∀ lo hi, lo ≤ r + 1 → r + 2 ≤ hi → Fr lo hi o o w (w.setCell ⟨g, k, none⟩ (.int .u64 (x : Nat))) := fun lo hi h1 h2 => (Fr.refl ho).setCell _ _ (.inl ⟨by simp only [A.gown]; omega, by simp only [A.gown]; omega⟩)
  have K := F (r + 1) (r + 2) (by omega) (by omega)
  refine ⟨F r (r + 15) (by omega) (by omega), A.blk.keep K (by omega), A.gown, A.ws.set k x, fun i => ?_, A.map.keep K (by omega), A.bnone, fun y a hy => let ⟨z, h1, h2⟩ := A.bsome y a hy; ⟨z, h1, h2.keep K (by omega)⟩, A.inj,
    fun c hc => ((A.row c hc).keepA (A.rown c hc) K (by omega)).1, fun c hc => ((A.row c hc).keepA (A.rown c hc) K (by omega)).2, A.pages.keep K (by omega), A.line.keep K (by omega), A.n1⟩
  show updN S.m k x i < 2 ^ 64
  unfold updN
  split
  · exact hx
  · exact A.mlt i
/-- Behind a call on the arena that gives a number back. -/
def ArPost (o : Own) (w : World) (r p : Nat) (S : ArS) (v : Value) (e : Ending) (w' : World) : Prop :=
  e = .returned v ∧ ∃ o', Fr r (r + 15) o o' w w' ∧ ArenaRep o' w' r p S
theorem awrite_any {o : Own} {r p : Nat} {S : ArS} (i : Int) (k x : Nat) (w : World) (ho : Owned o w) (A : ArenaRep o w r p S) (e : i = k) (hk : k < S.n * 64) (hx : x < 2 ^ 64) :
    Calls Try.prog 25 #[.pointer (some ⟨p, 0, none⟩), .int .i64 i, .int .u64 (x : Nat)] w (ArPost o w r p (setW S k x) (.int .i64 0)) := by
  subst e
  have HH := Lib.hid (ahas_yes (k : Int) k w A rfl hk)
  obtain ⟨g, q, l, b, v, f, A⟩ := A
  have c0 := A.c0
  have cw := A.cw hk
  have fw := A.ws.free k
  have h1 : (k : Int) < ((S.n * 64 : Nat) : Int) := by omega
  have HW := Lib.hid (A.write ho k x hx)
  clear A
  generalize S.m k = y at *
  generalize S.n * 64 = N at *
  go_enter Try.func25, Try.ntmps25
  go_wp2_with (go_at_call 51; refine HH.out.mono ?_; rintro e w1 ⟨rfl, rfl⟩)
  go_ret
  exact ⟨rfl, o, HW.out.1, _, _, _, _, _, _, HW.out.2⟩

/-! ### used, Size -/
theorem zero_pblock (w : World) : (zeroValue 59).run Try.prog w = .ok (.pointer none) w := by kernel_rfl
theorem Arena.look {o : Own} {w : World} {r p : Nat} {S : ArS} {g q l b : Nat} {v : Nat → Value} {f : Int → Option Nat} (A : Arena o w r p S g q l b v f) (k : Int) (c : Bool) :
    (Instr.lookup 92 (.map (some b)) (.int .i64 k) c).run Try.prog w = .ok (if c then .tuple #[((f k).map fun a => Value.pointer (some ⟨a, 0, none⟩)).getD (.pointer none), .bool ((f k).map fun a => Value.pointer (some ⟨a, 0, none⟩)).isSome] else ((f k).map fun a => Value.pointer (some ⟨a, 0, none⟩)).getD (.pointer none)) w :=
  MapIs.lookup A.map.2 Try.underlying92 Try.underlying3 zero_pblock c k
theorem Arena.f_of {o : Own} {w : World} {r p : Nat} {S : ArS} {g q l b : Nat} {v : Nat → Value} {f : Int → Option Nat} (A : Arena o w r p S g q l b v f) {k : Int} {x : Bl} (h : S.bl k = some x) : ∃ a, f k = some a ∧ Blk o w (r + 3) a (.cells (blCells x) 63 (0, 0)) := by
  cases hf : f k with
  | none => rw [A.bnone k hf] at h; cases h
  | some a =>
    obtain ⟨y, h1, h2⟩ := A.bsome k a hf
    rw [h] at h1; cases h1
    exact ⟨a, rfl, h2⟩
theorem used_yes {o : Own} {r p : Nat} {S : ArS} {g q l b : Nat} {v : Nat → Value} {f : Int → Option Nat} (k : Int) (a : Nat) (x : Bl) (w : World) (A : Arena o w r p S g q l b v f) (hf : f k = some a) (hx : S.bl k = some x) (hs : x.state = 1) :
    Calls Try.prog 27 #[.pointer (some ⟨p, 0, none⟩), .int .i64 k] w fun e w' => e = .returned (.tuple #[.pointer (some ⟨a, 0, none⟩), .bool true]) ∧ ∃ n, w' = w.drewN n := by
  have hl := A.look k true
  rw [hf] at hl
  simp only [Option.map_some, Option.getD_some, Option.isSome_some, if_true] at hl
  obtain ⟨a', ha', B⟩ := A.f_of hx
  have hB := B
  rw [hf] at ha'
  obtain rfl : a = a' := by simpa using ha'
  have c3 := A.c3
  have d2 := B.cell 2
  unfold blCells at d2
  rw [hs] at d2
  simp only [List.getElem?_toArray, List.getElem?_cons_zero, List.getElem?_cons_succ] at d2
  clear A ha' hf hx hs B hB
  go_enter Try.func27, Try.ntmps27
  go_wp2
  go_quiet (fail)
  go_wp2
  go_ret2
  exact ⟨rfl, nq, rfl⟩
theorem asize_yes {o : Own} {r p : Nat} {S : ArS} (k : Int) (x : Bl) (w : World) (A : ArenaRep o w r p S) (hx : S.bl k = some x) (hs : x.state = 1) :
    Calls Try.prog 10 #[.pointer (some ⟨p, 0, none⟩), .int .i64 k] w fun e w' => e = .returned (.tuple #[.int .i64 (x.asked : Nat), .int .i64 0]) ∧ ∃ n, w' = w.drewN n := by
  obtain ⟨g, q, l, b, v, f, A⟩ := A
  obtain ⟨a, hf, B⟩ := A.f_of hx
  have HU := Lib.hid (used_yes k a x w A hf hx hs)
  have d1 := B.cell 1
  unfold blCells at d1
  simp only [List.getElem?_toArray, List.getElem?_cons_zero, List.getElem?_cons_succ] at d1
  clear A hf hx hs B
  go_enter Try.func10, Try.ntmps10
  go_wp2_with (go_at_call 27; refine HU.out.mono ?_; rintro e w1 ⟨rfl, n, rfl⟩)
  go_ret2
  exact ⟨rfl, n, rfl⟩
end Go.Proofs.Ytlpklloagaccoaa
