/- A block is freed (arena.Free), where nothing may wait. Conditions: the block is in use, nobody wrote behind it. -/
import Derived.Test.YtlpklloagaccoaaGreatOpen
import Derived.Outline
namespace Go.Proofs.YtlpklloagaccoaaGreat
open Go.RowKit
set_option linter.unusedVariables false

theorem of_any {o : Own} {r p : Nat} {S : ArS} {g q l b : Nat} {v : Nat → Value} {f : Int → Option Nat} (ki : Int) (a ba : Nat) (x : Bl) (w : World) (A : Arena o w r p S g q l b v f) (hk : ki = a) (hfa : f ki = some ba) (hx : S.bl ki = some x) (hr : a + x.size ≤ S.n * 64) (h0 : 0 < x.size) :
    Calls Tryz.prog 200 #[.pointer (some ⟨p, 0, none⟩), .int .i64 ki, .pointer (some ⟨ba, 0, none⟩)] w fun e w' => e = .returned (.slice (some ⟨g, a, none⟩) x.size (S.n * 64 - a)) ∧ ∃ n, w' = w.drewN n := by
  subst hk
  obtain ⟨a', ha', B⟩ := A.f_of hx
  rw [hfa] at ha'
  obtain rfl : ba = a' := by simpa using ha'
  have d0 := B.cell 0
  unfold blCells at d0
  simp only [List.getElem?_toArray, List.getElem?_cons_zero] at d0
  have c0 := A.c0
  have hn4 := A.n1
  have h1 : (a : Int) + (x.size : Int) ≤ ((S.n * 64 : Nat) : Int) := by omega
  have h2 : S.n * 64 ≤ 262144 := by omega
  have hna : ¬ S.n * 64 = a := by omega
  clear A hfa hx ha' B hn4 h0
  generalize S.n * 64 = N at *
  generalize x.size = sz at *
  go_enter Tryz.func200, Tryz.ntmps200
  go_wp2
  go_quiet (fail)
  go_wp2
  go_ret
  exact ⟨by simp, nq, rfl⟩
theorem kept_yes {o : Own} {r p : Nat} {S : ArS} {g q l b : Nat} {v : Nat → Value} {f : Int → Option Nat} (ki : Int) (a ba : Nat) (x : Bl) (w : World) (ho : Owned o w) (A : Arena o w r p S g q l b v f) (hk : ki = a) (hfa : f ki = some ba) (hx : S.bl ki = some x) (hr : a + x.size ≤ S.n * 64) (hs : x.asked ≤ x.size) (h0 : 0 < x.size)
    (hc : ∀ i, a + x.asked ≤ i → i < a + x.size → S.m i = canW (i : Int)) :
    Calls Tryz.prog 170 #[.pointer (some ⟨p, 0, none⟩), .int .i64 ki, .pointer (some ⟨ba, 0, none⟩)] w fun e w' => e = .returned (.bool true) ∧ ∃ n, w' = w.drewN n := by
  subst hk
  have hn4 := A.n1
  have HF := Lib.hid (fun (W : World) (F : Fr 0 0 o o w W) => of_any (a : Int) a ba x W (A.keep F (.inr (Nat.zero_le _))) rfl hfa hx hr h0)
  have hw : wholeB S.m (a + x.asked) (x.size - x.asked) ((a : Int) + (x.asked : Int)) false = true := by
    unfold wholeB
    rw [decide_eq_true_eq]
    intro i hi
    rw [hc (a + x.asked + i) (by omega) (by omega), if_neg (by decide)]
    congr 1
  have hw0 : wholeB S.m a 0 ((a : Int) + (x.asked : Int)) false = true := by
    unfold wholeB
    rw [decide_eq_true_eq]
    intro i hi
    omega
  have HW := Lib.hid (fun (cap : Nat) (W : World) (F : Fr 0 0 o o w W) => show Calls Tryz.prog 199 #[.slice (if S.n * 64 - a = x.asked then some ⟨g, a, none⟩ else some ⟨g, a + x.asked, none⟩) (x.size - x.asked) cap, .int .i64 ((a : Int) + (x.asked : Int)), .bool false] W fun e w' => e = .returned (.bool true) ∧ w' = W from by
    by_cases hz : S.n * 64 - a = x.asked
    · rw [if_pos hz, show x.size - x.asked = 0 by omega, ← hw0]
      exact (whole_any g (S.n * 64) a 0 cap S.m _ false W (A.keep F (.inr (Nat.zero_le _))).ws (by omega) (by omega) (by omega) (by omega)).mono fun _ _ h => ⟨h.1, h.2.symm⟩
    · rw [if_neg hz, ← hw]
      exact (whole_any g (S.n * 64) (a + x.asked) (x.size - x.asked) cap S.m _ false W (A.keep F (.inr (Nat.zero_le _))).ws (by omega) (by omega) (by omega) (by omega)).mono fun _ _ h => ⟨h.1, h.2.symm⟩)
  have HO := Lib.hid ho
  obtain ⟨a', ha', B⟩ := A.f_of hx
  rw [hfa] at ha'
  obtain rfl : ba = a' := by simpa using ha'
  have d1 := B.cell 1
  unfold blCells at d1
  simp only [List.getElem?_toArray, List.getElem?_cons_zero, List.getElem?_cons_succ] at d1
  have h1 : (x.asked : Int) ≤ (x.size : Int) := by omega
  have h2 : (a : Int) + (x.size : Int) ≤ 262144 := by omega
  have h3 : x.size ≤ S.n * 64 - a := by omega
  clear A hfa hx ha' B hn4 hw hw0 hc hr ho
  generalize S.n * 64 = N at *
  generalize x.size = sz at *
  generalize x.asked = sk at *
  go_enter Tryz.func170, Tryz.ntmps170
  go_wp2
  go_quiet ((first
    | (go_at_call 200; exact Calls.quiet_of (HF.out _ ((Fr.refl HO.out).drewN _)))
    | (go_at_call 199; exact Calls.quiet_of_same (HW.out _ _ ((Fr.refl HO.out).drewN _)))))
  go_wp2
  all_goals
    go_ret
    exact ⟨rfl, nq, rfl⟩
/-- While a block is written over. -/
def poiI (m : Nat → Nat) (a i : Nat) : Nat → Nat := fun j => if a ≤ j ∧ j < i then poiW j else m j
theorem poiI_succ (m : Nat → Nat) {a k : Nat} (h : a ≤ k) : updN (poiI m a k) k (poiW k) = poiI m a (k + 1) := by
  funext j
  unfold updN poiI
  by_cases h1 : j = k
  · subst h1; rw [if_pos rfl, if_pos (by omega)]
  · rw [if_neg h1]
    by_cases h2 : a ≤ j ∧ j < k
    · rw [if_pos h2, if_pos (by omega)]
    · rw [if_neg h2, if_neg (by omega)]
theorem poiI_zero (m : Nat → Nat) (a : Nat) : poiI m a a = m := by
  funext j; unfold poiI; rw [if_neg (by omega)]
theorem poiW_lt (a : Int) : poiW a < 2 ^ 64 := by
  have := xor_range (IntKind.u64.wrap a) 16045690675887209166
  unfold poiW
  omega
/-- What a block that was freed leaves. -/
structure Freed (S : ArS) (k : Int) (a sz : Nat) (S' : ArS) : Prop where
  n : S'.n = S.n
  t : S'.t = S.t
  cur : S'.cur = S.cur
  m : ∀ i, ¬ (a ≤ i ∧ i < a + sz) → S'.m i = S.m i
  oth : ∀ j, j ≠ k → S'.bl j = S.bl j
  at_ : ∀ y, S'.bl k = some y → y.state = 3 ∧ y.size = sz ∧ y.asked ≤ sz
  rows : RowsOk S'
def FreePost (o : Own) (w : World) (r p : Nat) (S : ArS) (k : Int) (a sz : Nat) (e : Ending) (w' : World) : Prop :=
  e = .returned (.int .i64 0) ∧ ∃ o' S', Fr r (r + 15) o o' w w' ∧ ArenaRep o' w' r p S' ∧ Freed S k a sz S'
theorem Freed.ok {S S' : ArS} {k : Int} {a sz : Nat} (F : Freed S k a sz S') (h : ArOk S) {x : Bl} (hx : S.bl k = some x) (hs : x.size = sz) : ArOk S' := by
  have hb : ∀ j y, S'.bl j = some y → ∃ z, S.bl j = some z ∧ z.size = y.size ∧ y.asked ≤ y.size := fun j y hy => by
    by_cases e : j = k
    · subst e
      obtain ⟨_, h2, h3⟩ := F.at_ y hy
      exact ⟨x, hx, by omega, by omega⟩
    · rw [F.oth j e] at hy
      obtain ⟨_, _, _, _, h4, _⟩ := h.nat j y hy
      exact ⟨y, hy, rfl, h4⟩
  refine ⟨by rw [F.n, F.t]; exact h.tn, fun j y hy => ?_, fun j j' y y' hy hy' hlt => ?_⟩
  · obtain ⟨z, h1, h2, h3⟩ := hb j y hy
    obtain ⟨a', e1, e2, e3, e4, e5⟩ := h.nat j z h1
    exact ⟨a', e1, e2, by rw [F.t]; omega, h3, by omega⟩
  · obtain ⟨z, h1, h2, _⟩ := hb j y hy
    obtain ⟨z', h1', h2', _⟩ := hb j' y' hy'
    have := h.disj j j' z z' h1 h1' hlt
    omega
theorem Arena.lined {o o' : Own} {w w' : World} {r p : Nat} {S : ArS} {g q l b : Nat} {v : Nat → Value} {f : Int → Option Nat} (A : Arena o w r p S g q l b v f) (F : Fr (r + 13) (r + 15) o o' w w') (L : LineRep o' w' (r + 13) l) : Arena o' w' r p S g q l b v f :=
  ⟨A.blk.keep F (by omega), (F.own g A.ws.lt).trans A.gown, A.ws.of_eq (F.block g A.ws.lt (by rw [A.gown]; omega)), A.mlt, A.map.keep F (by omega), A.bnone, fun y a hy => let ⟨z, h1, h2⟩ := A.bsome y a hy; ⟨z, h1, h2.keep F (by omega)⟩, A.inj,
    fun c hc => ((A.row c hc).keepA (A.rown c hc) F (by omega)).1, fun c hc => ((A.row c hc).keepA (A.rown c hc) F (by omega)).2, A.pages.keep F (by omega), L, A.n1⟩
theorem ArOk.state {S : ArS} (h : ArOk S) {k : Int} {x : Bl} (hb : S.bl k = some x) (st : Nat) (m : Nat → Nat) : ArOk { S with m := m, bl := updI S.bl k (some ⟨x.size, x.asked, st⟩) } := by
  refine ⟨h.tn, fun j y hk => ?_, fun j j' y y' hk hk' hlt => ?_⟩
  · revert hk
    show updI S.bl _ _ j = some y → ∃ b : Nat, j = (b : Int) ∧ 64 ≤ b ∧ b + y.size ≤ S.t * 64 ∧ _
    unfold updI
    split
    · rename_i e; subst e
      intro e; cases e
      obtain ⟨b, h1, h2, h3, h4⟩ := h.nat _ _ hb
      exact ⟨b, h1, h2, h3, h4⟩
    · exact h.nat j y
  · revert hk hk'
    show updI S.bl _ _ j = some y → updI S.bl _ _ j' = some y' → _
    unfold updI
    split
    · rename_i e; subst e
      intro e; cases e
      split
      · omega
      · intro e; exact h.disj _ _ x _ hb e hlt
    · intro e
      split
      · rename_i e'; subst e'
        intro e'; cases e'
        exact h.disj _ _ _ x e hb hlt
      · intro e'; exact h.disj _ _ _ _ e e' hlt
theorem RowsOk.state {S : ArS} (h : RowsOk S) {k : Int} {x : Bl} (hb : S.bl k = some x) (hs : x.state = 1) (y : Bl) (m : Nat → Nat) : RowsOk { S with m := m, bl := updI S.bl k (some y) } := by
  refine ⟨h.nd, fun c hc j hj => ?_⟩
  show ∃ z, updI S.bl k (some y) j = some z ∧ _
  unfold updI
  rw [if_neg (fun e => h.notin hb (.inr hs) hc (by rw [← e]; exact hj))]
  exact h.free c hc j hj
theorem Freed.of_open {S S' : ArS} {k : Int} {a : Nat} {x : Bl} (O : Opened { S with m := poiI S.m a (a + x.size), bl := updI S.bl k (some ⟨x.size, x.asked, 2⟩) } k S') (hs : x.asked ≤ x.size) : Freed S k a x.size S' := by
  refine ⟨O.n, O.t, O.cur, fun i hi => ?_, fun j hj => ?_, fun y hy => ?_, O.rows⟩
  · rw [O.m]; exact if_neg hi
  · rw [O.oth j hj]; exact if_neg hj
  · obtain ⟨h1, z, h2, h3, h4⟩ := O.at_ y hy
    have h2' : updI S.bl k (some ⟨x.size, x.asked, 2⟩) k = some z := h2
    unfold updI at h2'
    rw [if_pos rfl] at h2'
    cases h2'
    exact ⟨h1, h3, by simp only at h4; omega⟩
def FreeRel (o1 : Own) (w1 : World) (r p : Nat) (T : ArS) (a i : Nat) (g q l b : Nat) (v : Nat → Value) (f : Int → Option Nat) (wr : World) : Prop :=
  Fr r (r + 15) o1 o1 w1 wr ∧ Arena o1 wr r p { T with m := poiI T.m a i } g q l b v f
theorem poison_int (ii : Int) (i : Nat) (e : ii = i) (w : World) : Calls Tryz.prog 171 #[.int .i64 ii] w fun e w' => e = .returned (.int .u64 (poiW i : Nat)) ∧ w = w' := by
  subst e; exact poison_any _ w
set_option maxRecDepth 100000 in
set_option maxHeartbeats 2000000 in
theorem afree_yes {o : Own} {r p : Nat} {S : ArS} (ki : Int) (a : Nat) (x : Bl) (w : World) (ho : Owned o w) (A : ArenaRep o w r p S) (ok : ArOk S) (hR : RowsOk S) (hk : ki = a) (hx : S.bl ki = some x) (hs : x.state = 1)
    (hc : ∀ i, a + x.asked ≤ i → i < a + x.size → S.m i = canW (i : Int)) :
    Calls Tryz.prog 115 #[.pointer (some ⟨p, 0, none⟩), .int .i64 ki] w (FreePost o w r p S ki a x.size) := by
  obtain ⟨a', ha', h64, hsz, hask, hs2⟩ := ok.nat ki x hx
  obtain rfl : a' = a := by omega
  subst hk
  have htn := ok.tn
  obtain ⟨g, q, l, b, v, f, A⟩ := A
  have hn4 := A.n1
  obtain ⟨ba, hfa, hB⟩ := A.f_of hx
  have HU := Lib.hid (used_yes (a' : Int) ba x w A hfa hx hs)
  have HK := Lib.hid (fun (n : Nat) => kept_yes (a' : Int) a' ba x (w.drewN n) (show Owned o (w.drewN n) from ho) (A.keep ((Fr.refl (lo := 0) (hi := 0) ho).drewN n) (.inr (Nat.zero_le _))) rfl hfa hx (by omega) hask (by omega) hc)
  have HA := Lib.hid A
  have HO := Lib.hid ho
  have HX := Lib.hid hx
  have HST := Lib.hid hs
  have HAK := Lib.hid hask
  have HFA := Lib.hid hfa
  have HOK := Lib.hid ok
  have HR := Lib.hid hR
  have hpb : ¬ p = ba := fun e => by have h1 := A.blk.1; have h2 := hB.1; rw [e] at h1; omega
  have hN3 : (a' : Int) + (x.size : Int) ≤ 262144 := by omega
  have HN := Lib.hid (show a' + x.size ≤ S.n * 64 by omega)
  have HS := Lib.hid hs2
  clear A hB hx hfa ok hR hs ho hc htn h64 hsz hs2 hn4 ha' hask
  go_enter Tryz.func115, Tryz.ntmps115
  go_wp2_with fail
  go_at_call 164
  refine HU.out.mono ?_
  rintro e w1 ⟨rfl, n1, rfl⟩
  go_wp2_with fail
  go_at_call 170
  refine (HK.out n1).mono ?_
  rintro e w1 ⟨rfl, n2, rfl⟩
  have HA2 := Lib.hid (show Arena o ((w.drewN n1).drewN n2) r p S g q l b v f from HA.out.keep (((Fr.refl (lo := 0) (hi := 0) HO.out).drewN n1).drewN n2) (.inr (Nat.zero_le _)))
  have HF2 := Lib.hid (show Fr r (r + 15) o o w ((w.drewN n1).drewN n2) from ((Fr.refl HO.out).drewN n1).drewN n2)
  generalize (w.drewN n1).drewN n2 = w2 at *
  have HR0 := Lib.hid (show FreeRel o w2 r p S a' a' g q l b v f w2 from ⟨Fr.refl HF2.out.fresh, by rw [poiI_zero]; exact HA2.out⟩)
  go_wp2_with fail
  go_loopw [7] (fun iv wr => ∃ k : Nat, a' ≤ k ∧ k ≤ a' + x.size ∧ iv = .int .i64 k ∧ FreeRel o w2 r p S a' k g q l b v f wr) (fun iv _ => a' + x.size - (intOf iv).toNat)
  case atStart => exact ⟨a', by omega, by omega, rfl, HR0.out⟩
  case round =>
    obtain ⟨k, hk1, hk2, rfl, F4, A4⟩ := hrel
    have hB := HX.out
    obtain ⟨ba', hfa', B4⟩ := A4.f_of (k := (a' : Int)) (x := x) hB
    rw [HFA.out] at hfa'
    obtain rfl : ba = ba' := by simpa using hfa'
    have d0 := B4.cell 0
    have d2 := B4.cell 2
    have g2 := B4.free 2
    unfold blCells at d0 d2
    simp only [List.getElem?_toArray, List.getElem?_cons_zero, List.getElem?_cons_succ] at d0 d2
    by_cases hk : k < a' + x.size
    · have hk' : (k : Int) < (a' : Int) + (x.size : Int) := by omega
      have hkN : k < S.n * 64 := by have := HN.out; omega
      have hkN' : (k : Int) < ((S.n * 64 : Nat) : Int) := by omega
      have e1 : wr.cell? ⟨p, 0, none⟩ = some (.slice (some ⟨g, 0, none⟩) (S.n * 64) (S.n * 64)) := A4.c0
      have e2 := A4.cw (i := k) hkN
      have e3 := A4.ws.free k
      have HW4 := Lib.hid (A4.write F4.fresh k (poiW k) (poiW_lt k))
      have HF4 := Lib.hid F4
      clear A4 F4 B4 hfa' hB
      generalize ({ S with m := poiI S.m a' k } : ArS).m k = y at e2
      generalize S.n * 64 = N at *
      go_wp2_with fail
      go_region_with (go_at_call 171; refine (poison_int _ k rfl _).mono ?_; rintro e w5 ⟨rfl, rfl⟩)
      all_goals
        have HREL : FreeRel o w2 r p S a' (k + 1) g q l b v f (wr.setCell ⟨g, k, none⟩ (.int .u64 (poiW k : Nat))).drew := by
          refine ⟨(HF4.out.trans HW4.out.1).drew, ?_⟩
          have h := HW4.out.2.keep ((Fr.refl (lo := 0) (hi := 0) HW4.out.1.fresh).drew) (.inr (Nat.zero_le _))
          exact h.congr rfl (poiI_succ _ hk1).symm rfl (fun _ _ => rfl) (fun _ _ => rfl) h.pages
        have HRH := Lib.hid HREL
        clear HREL
        go_wp2_with fail
        exact ⟨⟨k + 1, by omega, by omega, by go_num, HRH.out⟩, by simp [intOf]; omega⟩
    · have hk' : ¬ (k : Int) < (a' : Int) + (x.size : Int) := by omega
      obtain rfl : k = a' + x.size := by omega
      go_wp2_with fail
      have hx2 : (wr.setCell ⟨ba, 2, none⟩ (.int .i64 2)).heap[ba]? = some (.cells (blCells ⟨x.size, x.asked, 2⟩) 169 (0, 0)) := heap_set B4.2 2 _
      obtain ⟨F5, A5⟩ := A4.reblk F4.fresh HFA.out ⟨x.size, x.asked, 2⟩ (OnlyBlk.set wr ba 2 _) hx2
      have k2 := A5.c2
      have k0 : (wr.setCell ⟨ba, 2, none⟩ (.int .i64 2)).cell? ⟨ba, 0, none⟩ = some (.int .i64 (x.size : Nat)) := by simp only [World.cell?, hx2]; rfl
      have HF5 := Lib.hid ((HF2.out.trans F4).trans F5)
      have HA5 := Lib.hid A5
      have hsz : 1 ≤ x.size ∧ x.size ≤ 262144 := by have := HS.out; omega
      have HAd := Lib.hid (fun (W : World) (F : Fr 0 0 o o (wr.setCell ⟨ba, 2, none⟩ (.int .i64 2)) W) => show Calls Tryz.prog 172 #[.pointer (some ⟨l, 0, none⟩), .int .i64 (a' : Nat), .int .i64 (x.size : Nat)] W fun e w' => ∃ v o', e = .returned v ∧ Fr (r + 13) (r + 15) o o' W w' ∧ LineRep o' w' (r + 13) l ∧ RowNew W o' w' v [((a' : Nat) : Int)] from
        ladd_any (a' : Int) x.size W F.fresh (A5.line.keep F (.inr (Nat.zero_le _))) hsz.1 (by omega))
      have HOp := Lib.hid (fun (W w6 : World) (o6 : Own) (v6 : Value) (F : Fr 0 0 o o (wr.setCell ⟨ba, 2, none⟩ (.int .i64 2)) W) (F6 : Fr (r + 13) (r + 15) o o6 W w6) (L6 : LineRep o6 w6 (r + 13) l) (R6 : RowNew W o6 w6 v6 [((a' : Nat) : Int)]) => show ∃ A1 cap, v6 = .slice A1 1 cap ∧ Calls Tryz.prog 160 #[.pointer (some ⟨p, 0, none⟩), v6] w6 (OpenPost o6 w6 r p { S with m := poiI S.m a' (a' + x.size), bl := updI S.bl ((a' : Nat) : Int) (some ⟨x.size, x.asked, 2⟩) } ((a' : Nat) : Int)) from by
        obtain ⟨A1, cap, hv, hR1⟩ := R6.row.rd
        refine ⟨A1, cap, hv, ?_⟩
        have A6 : ArenaRep o6 w6 r p { S with m := poiI S.m a' (a' + x.size), bl := updI S.bl ((a' : Nat) : Int) (some ⟨x.size, x.asked, 2⟩) } :=
          ⟨_, _, _, _, _, _, (A5.keep F (.inr (Nat.zero_le _))).lined F6 L6⟩
        have okk : ArOk { S with m := poiI S.m a' (a' + x.size), bl := updI S.bl ((a' : Nat) : Int) (some ⟨x.size, x.asked, 2⟩) } := HOK.out.state HX.out 2 _
        have hrr : RowsOk { S with m := poiI S.m a' (a' + x.size), bl := updI S.bl ((a' : Nat) : Int) (some ⟨x.size, x.asked, 2⟩) } := HR.out.state HX.out HST.out _ _
        rw [hv]
        exact opens_one ((a' : Nat) : Int) a' ⟨x.size, x.asked, 2⟩ A1 cap _ w6 F6.fresh A6 okk hrr rfl (if_pos rfl) rfl hR1)
      clear A4 F4 B4 F5 A5 hfa' hB hx2 d0 d2 g2
      generalize wr.setCell ⟨ba, 2, none⟩ (.int .i64 2) = W5 at *
      go_region_with (first
        | (go_at_call 172; refine (HAd.out _ (by repeat (first | exact Fr.refl HF5.out.fresh | refine Fr.drew ?_ | refine Fr.alloc ?_ _))).mono ?_; rintro e w6 ⟨v6, o6, rfl, F6, L6, R6⟩; obtain ⟨A6, cap6, rfl, HO6⟩ := HOp.out _ w6 o6 v6 (by repeat (first | exact Fr.refl HF5.out.fresh | refine Fr.drew ?_ | refine Fr.alloc ?_ _)) F6 L6 R6; have HF6 := Lib.hid F6; have HO6 := Lib.hid HO6; clear F6 L6 R6)
        | (go_at_call 160; refine HO6.out.mono ?_; rintro e w7 ⟨rfl, o7, S7, F7, A7, O7⟩; have H7 := Lib.hid (And.intro F7 (And.intro A7 O7)); clear F7 A7 O7))
      all_goals
        go_wp2_with fail
        go_ret
        refine ⟨rfl, o7, S7, (HF5.out.trans (((Fr.refl HF5.out.fresh).drew).trans (HF6.out.mono (by omega) (by omega)))).trans H7.out.1, H7.out.2.1, ?_⟩
        exact Freed.of_open H7.out.2.2 HAK.out
end Go.Proofs.YtlpklloagaccoaaGreat
