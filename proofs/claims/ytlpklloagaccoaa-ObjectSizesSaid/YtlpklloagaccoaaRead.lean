/- Words read as headers. Condition: a word of 64 bits. -/
import Derived.Test.YtlpklloagaccoaaHeader
namespace Go.Proofs.Ytlpklloagaccoaa
open Go.RowKit
set_option linter.unusedVariables false

theorem readpart_any (x a n : Nat) (Bw Ba : Nat) (w : World) (cw : w.cell? ⟨Bw, 0, none⟩ = some (.int .u64 (x : Nat))) (ca : w.cell? ⟨Ba, 0, none⟩ = some (.int .i64 (a : Nat))) (fa : w.frozen? ⟨Ba, 0, none⟩ = false) (h0 : x < 2 ^ 64) (h1 : a + n ≤ 64) (h2 : n ≤ 16) :
    Calls Try.prog 69 #[.int .i64 (n : Nat), .pointer (some ⟨Bw, 0, none⟩), .pointer (some ⟨Ba, 0, none⟩)] w fun e w' => e = .returned (.int .i64 (getv x a n : Nat)) ∧ ∃ m, w' = (w.drewN m).setCell ⟨Ba, 0, none⟩ (.int .i64 (a + n : Nat)) := by
  have hg : getv x a n < 65536 := Nat.lt_of_lt_of_le (Nat.mod_lt _ (Nat.two_pow_pos _)) (Nat.pow_le_pow_right (by decide : 1 ≤ 2) h2)
  have hget := Lib.hid (fun W => get_nat x a n h0 h1 (by omega) W)
  generalize getv x a n = v at *
  go_enter Try.func69, Try.ntmps69
  go_wp2_with (go_at_call 32; refine (hget.out _).mono ?_; rintro e w1 ⟨rfl, m, rfl⟩)
  go_ret
  exact ⟨by go_num, _, by go_num⟩
theorem eql_one (v : Nat) : ((v : Int) == 1) = (v == 1) := by
  cases h : v == 1
  · have : ¬ v = 1 := by simpa using h
    simp; omega
  · have : v = 1 := by simpa using h
    subst this; rfl
/-- The header in a word. -/
def rdV (x : Nat) : Value := hdV (getv x 0 4 : Nat) (getv x 4 16 : Nat) (getv x 20 16 : Nat) (getv x 36 8 : Nat) (getv x 44 2 : Nat) (getv x 46 1 == 1) (getv x 47 1 == 1)
/-- What lies between two of Read's calls. -/
structure RdI (w0 W : World) (x : Nat) (a : Int) (hs : Array Value) : Prop where
  below : Below w0.heap.size w0 W
  bx : W.heap[w0.heap.size]? = some (.cells #[.int .u64 (x : Nat)] 57 (0, 0))
  br : W.heap[w0.heap.size + 1]? = some (.cells #[.int .i64 0, .int .i64 0, .int .i64 0, .int .i64 0, .int .i64 0, .bool false, .bool false] 53 (0, 0))
  ba : W.heap[w0.heap.size + 1 + 1]? = some (.cells #[.int .i64 a] 3 (0, 0))
  bh : W.heap[w0.heap.size + 1 + 1 + 1]? = some (.cells hs 53 (0, 0))
theorem RdI.set {w0 W : World} {x : Nat} {a : Int} {hs : Array Value} (h : RdI w0 W x a hs) (i : Nat) (v : Value) : RdI w0 (W.setCell ⟨w0.heap.size + 1 + 1 + 1, i, none⟩ v) x a (hs.setIfInBounds i v) := by
  have ho : ∀ b, b ≠ w0.heap.size + 1 + 1 + 1 → (W.setCell ⟨w0.heap.size + 1 + 1 + 1, i, none⟩ v).heap[b]? = W.heap[b]? := fun b hb => Below.heap_setCell _ _ _ _ hb
  exact ⟨h.below.setCell (by simp; omega) _, (ho _ (by omega)).trans h.bx, (ho _ (by omega)).trans h.br, (ho _ (by omega)).trans h.ba, heap_set h.bh i v⟩
theorem readpart_int (x a n : Nat) (ai ni ri : Int) (e1 : ai = a) (e2 : ni = n) (e3 : ri = (a + n : Nat)) (h0 : x < 2 ^ 64) (h1 : a + n ≤ 64) (h2 : n ≤ 16) {w0 w : World} {hs : Array Value} (h : RdI w0 w x ai hs) :
    Calls Try.prog 69 #[.int .i64 ni, .pointer (some ⟨w0.heap.size, 0, none⟩), .pointer (some ⟨w0.heap.size + 1 + 1, 0, none⟩)] w fun e w' => e = .returned (.int .i64 (getv x a n : Nat)) ∧ RdI w0 w' x ri hs := by
  subst e1 e2 e3
  refine (readpart_any x a n _ _ w (by simp [World.cell?, h.bx]) (by simp [World.cell?, h.ba]) (by simp [World.frozen?, h.ba]) h0 h1 h2).mono ?_
  rintro e w' ⟨rfl, m, rfl⟩
  have ho : ∀ b, b ≠ w0.heap.size + 1 + 1 → ((w.drewN m).setCell ⟨w0.heap.size + 1 + 1, 0, none⟩ (.int .i64 (a + n : Nat))).heap[b]? = w.heap[b]? := fun b hb => Below.heap_setCell _ _ _ _ hb
  have hs := heap_set (w := w.drewN m) h.ba 0 (.int .i64 (a + n : Nat))
  exact ⟨rfl, (below_drewN h.below m).setCell (by simp; omega) _, (ho _ (by omega)).trans h.bx, (ho _ (by omega)).trans h.br, hs, (ho _ (by omega)).trans h.bh⟩
theorem results_cell {fn : Func} {p : Tmp} {ty : TypeId} (h : fn.results = #[.cell p ty]) (tmps : Array Value) (P : Program) (w : World) :
    (results fn tmps).run P w = ((asAddr (tmps.getD p undef)).run P w).andThen fun a w₁ => (loadVar ty a).run P w₁ := by
  simp only [results, h]
  simp [Sem.run_bind, Result.andThen]
set_option maxRecDepth 100000 in
set_option maxHeartbeats 1000000 in
theorem read_any (x : Nat) (h0 : x < 2 ^ 64) (w : World) : Calls Try.prog 54 #[.int .u64 (x : Nat)] w fun e w' => e = .returned (rdV x) ∧ Below w.heap.size w w' := by
  have hmf : ∀ (fn : Fn) (first cap : Array Value) (w : World), (Instr.makeFunc fn first cap).run Try.prog w = .ok (.func fn first cap) w := fun _ _ _ _ => rfl
  have P1 := Lib.hid (fun (w0 w' : World) (hs : Array Value) (h : RdI w0 w' x 0 hs) => readpart_int x 0 4 0 4 4 rfl rfl rfl h0 (by omega) (by omega) h)
  have P2 := Lib.hid (fun (w0 w' : World) (hs : Array Value) (h : RdI w0 w' x 4 hs) => readpart_int x 4 16 4 16 20 rfl rfl rfl h0 (by omega) (by omega) h)
  have P3 := Lib.hid (fun (w0 w' : World) (hs : Array Value) (h : RdI w0 w' x 20 hs) => readpart_int x 20 16 20 16 36 rfl rfl rfl h0 (by omega) (by omega) h)
  have P4 := Lib.hid (fun (w0 w' : World) (hs : Array Value) (h : RdI w0 w' x 36 hs) => readpart_int x 36 8 36 8 44 rfl rfl rfl h0 (by omega) (by omega) h)
  have P5 := Lib.hid (fun (w0 w' : World) (hs : Array Value) (h : RdI w0 w' x 44 hs) => readpart_int x 44 2 44 2 46 rfl rfl rfl h0 (by omega) (by omega) h)
  have P6 := Lib.hid (fun (w0 w' : World) (hs : Array Value) (h : RdI w0 w' x 46 hs) => readpart_int x 46 1 46 1 47 rfl rfl rfl h0 (by omega) (by omega) h)
  have P7 := Lib.hid (fun (w0 w' : World) (hs : Array Value) (h : RdI w0 w' x 47 hs) => readpart_int x 47 1 47 1 48 rfl rfl rfl h0 (by omega) (by omega) h)
  obtain ⟨V1, hv1⟩ : ∃ v, v = getv x 0 4 := ⟨_, rfl⟩
  obtain ⟨V2, hv2⟩ : ∃ v, v = getv x 4 16 := ⟨_, rfl⟩
  obtain ⟨V3, hv3⟩ : ∃ v, v = getv x 20 16 := ⟨_, rfl⟩
  obtain ⟨V4, hv4⟩ : ∃ v, v = getv x 36 8 := ⟨_, rfl⟩
  obtain ⟨V5, hv5⟩ : ∃ v, v = getv x 44 2 := ⟨_, rfl⟩
  obtain ⟨V6, hv6⟩ : ∃ v, v = getv x 46 1 := ⟨_, rfl⟩
  obtain ⟨V7, hv7⟩ : ∃ v, v = getv x 47 1 := ⟨_, rfl⟩
  have HR := Lib.hid (show rdV x = hdV V1 V2 V3 V4 V5 ((V6 : Int) == 1) ((V7 : Int) == 1) by rw [eql_one, eql_one, hv1, hv2, hv3, hv4, hv5, hv6, hv7]; rfl)
  rw [← hv1] at P1
  rw [← hv2] at P2
  rw [← hv3] at P3
  rw [← hv4] at P4
  rw [← hv5] at P5
  rw [← hv6] at P6
  rw [← hv7] at P7
  clear hv1 hv2 hv3 hv4 hv5 hv6 hv7
  go_enter Try.func54, Try.ntmps54
  go_wp2_with fail
  go_at_call 69
  have hI : RdI w ((((w.alloc (.cells #[.int .u64 (x : Nat)] 57)).alloc (.cells #[.int .i64 0, .int .i64 0, .int .i64 0, .int .i64 0, .int .i64 0, .bool false, .bool false] 53)).alloc (.cells #[.int .i64 0] 3)).alloc (.cells #[.int .i64 0, .int .i64 0, .int .i64 0, .int .i64 0, .int .i64 0, .bool false, .bool false] 53)) x 0 #[.int .i64 0, .int .i64 0, .int .i64 0, .int .i64 0, .int .i64 0, .bool false, .bool false] := by
    have sz : ∀ (W : World) (o : Obj) (n : Nat), n < W.heap.size → (W.alloc o).heap[n]? = W.heap[n]? := fun W o n h => Below.heap_alloc W o n h
    have nw : ∀ (W : World) (o : Obj) (n : Nat), n = W.heap.size → (W.alloc o).heap[n]? = some o := fun W o n h => by subst h; exact heap_alloc_new W o
    refine ⟨by repeat (first | exact Below.refl _ _ | refine Below.alloc ?_ (by first | omega | (simp; done) | (simp; omega)) _), ?_, ?_, ?_, ?_⟩
    · rw [sz _ _ _ (by simp only [World.size_alloc]; omega), sz _ _ _ (by simp only [World.size_alloc]; omega), sz _ _ _ (by simp only [World.size_alloc]; omega)]; exact nw _ _ _ rfl
    · rw [sz _ _ _ (by simp only [World.size_alloc]; omega), sz _ _ _ (by simp only [World.size_alloc]; omega)]; exact nw _ _ _ (by simp only [World.size_alloc])
    · rw [sz _ _ _ (by simp only [World.size_alloc]; omega)]; exact nw _ _ _ (by simp only [World.size_alloc])
    · exact nw _ _ _ (by simp only [World.size_alloc])
  refine (P1.out _ _ _ hI).mono ?_
  clear hI
  rintro e w1 ⟨rfl, hI1⟩
  have c1 : w1.cell? ⟨w.heap.size + 1 + 1 + 1, 0, none⟩ = some (.int .i64 0) := by simp [World.cell?, hI1.bh]
  have d1 : w1.frozen? ⟨w.heap.size + 1 + 1 + 1, 0, none⟩ = false := by simp [World.frozen?, hI1.bh]
  go_wp2_with fail
  go_at_call 69
  have hI := hI1.set 0 (.int .i64 V1)
  refine (P2.out _ _ _ hI).mono ?_
  clear hI
  rintro e w2 ⟨rfl, hI2⟩
  clear hI1
  have c2 : w2.cell? ⟨w.heap.size + 1 + 1 + 1, 1, none⟩ = some (.int .i64 0) := by simp [World.cell?, hI2.bh]
  have d2 : w2.frozen? ⟨w.heap.size + 1 + 1 + 1, 1, none⟩ = false := by simp [World.frozen?, hI2.bh]
  go_wp2_with fail
  go_at_call 69
  have hI := hI2.set 1 (.int .i64 V2)
  refine (P3.out _ _ _ hI).mono ?_
  clear hI
  rintro e w3 ⟨rfl, hI3⟩
  clear hI2
  have c3 : w3.cell? ⟨w.heap.size + 1 + 1 + 1, 2, none⟩ = some (.int .i64 0) := by simp [World.cell?, hI3.bh]
  have d3 : w3.frozen? ⟨w.heap.size + 1 + 1 + 1, 2, none⟩ = false := by simp [World.frozen?, hI3.bh]
  go_wp2_with fail
  go_at_call 69
  have hI := hI3.set 2 (.int .i64 V3)
  refine (P4.out _ _ _ hI).mono ?_
  clear hI
  rintro e w4 ⟨rfl, hI4⟩
  clear hI3
  have c4 : w4.cell? ⟨w.heap.size + 1 + 1 + 1, 3, none⟩ = some (.int .i64 0) := by simp [World.cell?, hI4.bh]
  have d4 : w4.frozen? ⟨w.heap.size + 1 + 1 + 1, 3, none⟩ = false := by simp [World.frozen?, hI4.bh]
  go_wp2_with fail
  go_at_call 69
  have hI := hI4.set 3 (.int .i64 V4)
  refine (P5.out _ _ _ hI).mono ?_
  clear hI
  rintro e w5 ⟨rfl, hI5⟩
  clear hI4
  have c5 : w5.cell? ⟨w.heap.size + 1 + 1 + 1, 4, none⟩ = some (.int .i64 0) := by simp [World.cell?, hI5.bh]
  have d5 : w5.frozen? ⟨w.heap.size + 1 + 1 + 1, 4, none⟩ = false := by simp [World.frozen?, hI5.bh]
  go_wp2_with fail
  go_at_call 69
  have hI := hI5.set 4 (.int .i64 V5)
  refine (P6.out _ _ _ hI).mono ?_
  clear hI
  rintro e w6 ⟨rfl, hI6⟩
  clear hI5
  have c6 : w6.cell? ⟨w.heap.size + 1 + 1 + 1, 5, none⟩ = some (.bool false) := by simp [World.cell?, hI6.bh]
  have d6 : w6.frozen? ⟨w.heap.size + 1 + 1 + 1, 5, none⟩ = false := by simp [World.frozen?, hI6.bh]
  go_wp2_with fail
  go_at_call 69
  have hI := hI6.set 5 (.bool ((V6 : Int) == 1))
  refine (P7.out _ _ _ hI).mono ?_
  clear hI
  rintro e w7 ⟨rfl, hI7⟩
  clear hI6
  have c7 : w7.cell? ⟨w.heap.size + 1 + 1 + 1, 6, none⟩ = some (.bool false) := by simp [World.cell?, hI7.bh]
  have d7 : w7.frozen? ⟨w.heap.size + 1 + 1 + 1, 6, none⟩ = false := by simp [World.frozen?, hI7.bh]
  have x0 : w7.cell? ⟨w.heap.size + 1 + 1 + 1, 0, none⟩ = some (.int .i64 V1) := by simp [World.cell?, hI7.bh]
  have x1 : w7.cell? ⟨w.heap.size + 1 + 1 + 1, 1, none⟩ = some (.int .i64 V2) := by simp [World.cell?, hI7.bh]
  have x2 : w7.cell? ⟨w.heap.size + 1 + 1 + 1, 2, none⟩ = some (.int .i64 V3) := by simp [World.cell?, hI7.bh]
  have x3 : w7.cell? ⟨w.heap.size + 1 + 1 + 1, 3, none⟩ = some (.int .i64 V4) := by simp [World.cell?, hI7.bh]
  have x4 : w7.cell? ⟨w.heap.size + 1 + 1 + 1, 4, none⟩ = some (.int .i64 V5) := by simp [World.cell?, hI7.bh]
  have x5 : w7.cell? ⟨w.heap.size + 1 + 1 + 1, 5, none⟩ = some (.bool ((V6 : Int) == 1)) := by simp [World.cell?, hI7.bh]
  have y0 : w7.cell? ⟨w.heap.size + 1, 0, none⟩ = some (.int .i64 0) := by simp [World.cell?, hI7.br]
  have z0 : w7.frozen? ⟨w.heap.size + 1, 0, none⟩ = false := by simp [World.frozen?, hI7.br]
  have y1 : w7.cell? ⟨w.heap.size + 1, 1, none⟩ = some (.int .i64 0) := by simp [World.cell?, hI7.br]
  have z1 : w7.frozen? ⟨w.heap.size + 1, 1, none⟩ = false := by simp [World.frozen?, hI7.br]
  have y2 : w7.cell? ⟨w.heap.size + 1, 2, none⟩ = some (.int .i64 0) := by simp [World.cell?, hI7.br]
  have z2 : w7.frozen? ⟨w.heap.size + 1, 2, none⟩ = false := by simp [World.frozen?, hI7.br]
  have y3 : w7.cell? ⟨w.heap.size + 1, 3, none⟩ = some (.int .i64 0) := by simp [World.cell?, hI7.br]
  have z3 : w7.frozen? ⟨w.heap.size + 1, 3, none⟩ = false := by simp [World.frozen?, hI7.br]
  have y4 : w7.cell? ⟨w.heap.size + 1, 4, none⟩ = some (.int .i64 0) := by simp [World.cell?, hI7.br]
  have z4 : w7.frozen? ⟨w.heap.size + 1, 4, none⟩ = false := by simp [World.frozen?, hI7.br]
  have y5 : w7.cell? ⟨w.heap.size + 1, 5, none⟩ = some (.bool false) := by simp [World.cell?, hI7.br]
  have z5 : w7.frozen? ⟨w.heap.size + 1, 5, none⟩ = false := by simp [World.frozen?, hI7.br]
  have y6 : w7.cell? ⟨w.heap.size + 1, 6, none⟩ = some (.bool false) := by simp [World.cell?, hI7.br]
  have z6 : w7.frozen? ⟨w.heap.size + 1, 6, none⟩ = false := by simp [World.frozen?, hI7.br]
  have hI := hI7.below
  clear hI7
  have HB := Lib.hid hI
  clear hI
  go_wp2
  refine bodyPost_ret (v := hdV V1 V2 V3 V4 V5 ((V6 : Int) == 1) ((V7 : Int) == 1)) ?_ rfl ⟨congrArg Ending.returned HR.out.symm, ?_⟩
  · rw [results_cell (p := 2) (ty := 53) rfl]
    go_simp
  · iterate 8 refine Below.setCell ?_ (by first | (simp; done) | (simp; omega)) _
    exact HB.out
end Go.Proofs.Ytlpklloagaccoaa
