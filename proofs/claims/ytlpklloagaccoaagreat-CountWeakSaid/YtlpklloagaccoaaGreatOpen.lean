/- A block that was freed goes back into its row, or its pages do (arena.open, arena.opens). Conditions: the arena is as one that was made. -/
import Derived.Test.YtlpklloagaccoaaGreatGive
import Derived.Test.YtlpklloagaccoaaGreatSpaceW
import Derived.Test.YtlpklloagaccoaaGreatLeast3
import Derived.Outline
namespace Go.Proofs.YtlpklloagaccoaaGreat
open Go.RowKit
set_option linter.unusedVariables false

/-- A block is no more. -/
theorem Arena.del {o : Own} {w w' : World} {r p : Nat} {S : ArS} {g q l b : Nat} {v : Nat → Value} {f : Int → Option Nat} (A : Arena o w r p S g q l b v f) (ho : Owned o w) (k : Int)
    (hm : MapIs w' b (fun j => if j = k then none else (f j).map fun a => .pointer (some ⟨a, 0, none⟩))) (ht : MapTurn w w' b) : Fr r (r + 15) o o w w' ∧ Arena o w' r p { S with bl := updI S.bl k none } g q l b v (updI f k none) := by
  have F := ht.fr (lo := r + 2) (hi := r + 3) ho (by rw [A.map.1]; omega)
  refine ⟨F.mono (by omega) (by omega), A.blk.keep F (by omega), A.gown, A.ws.of_eq (F.block g A.ws.lt (by rw [A.gown]; omega)), A.mlt, ⟨A.map.1, hm.congr fun j => ?_⟩, fun j hj => ?_, fun j a hj => ?_, fun j j' a hj hj' => ?_,
    fun c hc => ((A.row c hc).keepA (A.rown c hc) F (by omega)).1, A.rown, A.pages.keep F (by omega), A.line.keep F (by omega), A.n1⟩
  · unfold updI
    split
    · rfl
    · rfl
  · revert hj
    show updI f k none j = none → updI S.bl k none j = none
    unfold updI
    split
    · intro _; rfl
    · exact A.bnone j
  · revert hj
    show updI f k none j = some a → ∃ y, updI S.bl k none j = some y ∧ _
    unfold updI
    split
    · intro h; cases h
    · intro h
      obtain ⟨y, h1, h2⟩ := A.bsome j a h
      exact ⟨y, h1, h2.keep F (by omega)⟩
  · revert hj hj'
    unfold updI
    split
    · intro h; cases h
    · intro h
      split
      · intro h'; cases h'
      · intro h'; exact A.inj j j' a h h'
/-- What stays, and what turns, where a block that waited is free. -/
structure Opened (S : ArS) (k : Int) (S' : ArS) : Prop where
  n : S'.n = S.n
  t : S'.t = S.t
  cur : S'.cur = S.cur
  m : S'.m = S.m
  oth : ∀ j, j ≠ k → S'.bl j = S.bl j
  at_ : ∀ y, S'.bl k = some y → y.state = 3 ∧ ∃ x, S.bl k = some x ∧ y.size = x.size ∧ y.asked = x.asked
  rows : RowsOk S'
def OpenPost (o : Own) (w : World) (r p : Nat) (S : ArS) (k : Int) (e : Ending) (w' : World) : Prop :=
  e = .returned (.tuple #[]) ∧ ∃ o' S', Fr r (r + 15) o o' w w' ∧ ArenaRep o' w' r p S' ∧ Opened S k S'
theorem RowsOk.notin {S : ArS} (h : RowsOk S) {k : Int} {x : Bl} (hx : S.bl k = some x) (hs : x.state = 2 ∨ x.state = 1) {c : Nat} (hc : c < 5) : k ∉ S.rows c := fun hm => by
  obtain ⟨y, h1, h2⟩ := h.free c hc k hm
  rw [hx] at h1; cases h1; omega
theorem RowsOk.len {S : ArS} (h : RowsOk S) (ok : ArOk S) (hn : S.n ≤ 4096) {c : Nat} (hc : c < 5) : (S.rows c).length ≤ 1048576 :=
  nodup_len (h.nd c hc) fun k hk => by
    obtain ⟨x, h1, _⟩ := h.free c hc k hk
    obtain ⟨a, rfl, h2, h3, _⟩ := ok.nat k x h1
    have := ok.tn
    unfold KB
    omega
/-- .. into a row. -/
theorem Opened.small {S : ArS} {k : Int} {x : Bl} (hR : RowsOk S) (hx : S.bl k = some x) (hs : x.state = 2) {c : Nat} (hc : c < 5) {ys : List Int} (hp : ys.Perm (S.rows c ++ [k])) (cu : Nat → Nat × Nat) (hcu : cu = S.cur) :
    Opened S k { S with bl := updI S.bl k (some ⟨x.size, x.asked, 3⟩), rows := updF S.rows c ys, cur := cu } := by
  have hk : ∀ {c : Nat}, c < 5 → k ∉ S.rows c := fun hc => hR.notin hx (.inl hs) hc
  refine ⟨rfl, rfl, hcu, rfl, fun j hj => if_neg hj, fun y hy => ?_, ⟨fun d hd => ?_, fun d hd j hj => ?_⟩⟩
  · have hy' : updI S.bl k (some ⟨x.size, x.asked, 3⟩) k = some y := hy
    unfold updI at hy'
    rw [if_pos rfl] at hy'
    cases hy'
    exact ⟨rfl, x, hx, rfl, rfl⟩
  · show (updF S.rows c ys d).Nodup
    unfold updF
    split
    · refine hp.nodup_iff.2 (List.nodup_append.2 ⟨hR.nd c hc, by simp, fun a ha b hb e => ?_⟩)
      simp only [List.mem_singleton] at hb
      subst hb; subst e
      exact hk hc ha
    · exact hR.nd d hd
  · have hj' : j ∈ updF S.rows c ys d := hj
    show ∃ x', updI S.bl k _ j = some x' ∧ _
    unfold updI
    by_cases e : j = k
    · rw [if_pos e]; exact ⟨_, rfl, .inr rfl⟩
    · rw [if_neg e]
      unfold updF at hj'
      split at hj'
      · have := hp.mem_iff.1 hj'
        simp only [List.mem_append, List.mem_singleton] at this
        rcases this with h | h
        · exact hR.free c hc j h
        · exact absurd h e
      · exact hR.free d hd j hj'
theorem Opened.great {S : ArS} {k : Int} {x : Bl} (hR : RowsOk S) (hx : S.bl k = some x) (hs : x.state = 2) (pg : Nat → Bool) (R : Runs) : Opened S k { S with bl := updI S.bl k none, pg := pg, R := R } := by
  refine ⟨rfl, rfl, rfl, rfl, fun j hj => if_neg hj, fun y hy => ?_, ⟨hR.nd, fun d hd j hj => ?_⟩⟩
  · have hy' : updI S.bl k none k = some y := hy
    unfold updI at hy'
    rw [if_pos rfl] at hy'
    cases hy'
  · show ∃ x', updI S.bl k none j = some x' ∧ _
    unfold updI
    rw [if_neg (fun e => hR.notin hx (.inl hs) hd (by rw [← e]; exact hj))]
    exact hR.free d hd j hj
theorem updI_twice {α : Type} (f : Int → α) (k : Int) (a b : α) : updI (updI f k a) k b = updI f k b := by
  funext i; unfold updI; split <;> rfl
set_option maxRecDepth 100000 in
set_option maxHeartbeats 1000000 in
theorem open_any {o : Own} {r p : Nat} {S : ArS} (k : Int) (a : Nat) (x : Bl) (w : World) (ho : Owned o w) (A : ArenaRep o w r p S) (ok : ArOk S) (hR : RowsOk S) (hk : k = (a : Nat)) (hx : S.bl k = some x) (hs : x.state = 2) :
    Calls Tryz.prog 196 #[.pointer (some ⟨p, 0, none⟩), .int .i64 k] w (OpenPost o w r p S k) := by
  obtain ⟨a', ha', h64, hsz, _, hs2⟩ := ok.nat k x hx
  obtain rfl : a' = a := by omega
  obtain ⟨g, q, l, b, v, f, A⟩ := A
  have hn4 := A.n1
  have htn := ok.tn
  obtain ⟨ba, hfa, hB⟩ := A.f_of hx
  have hl := A.look k false
  rw [hfa] at hl
  simp only [Option.map_some, Option.getD_some, Bool.false_eq_true, if_false] at hl
  have c3 := A.c3
  have d0 := hB.cell 0
  have d2 := hB.cell 2
  have f2 := hB.free 2
  unfold blCells at d0 d2
  simp only [List.getElem?_toArray, List.getElem?_cons_zero, List.getElem?_cons_succ] at d0 d2
  have hpb : ¬ p = ba := fun e => by have h1 := A.blk.1; have h2 := hB.1; rw [e] at h1; omega
  -- behind the store of the state
  have hx2 : (w.setCell ⟨ba, 2, none⟩ (.int .i64 3)).heap[ba]? = some (.cells (blCells ⟨x.size, x.asked, 3⟩) 169 (0, 0)) := heap_set hB.2 2 _
  have hT := A.reblk ho hfa ⟨x.size, x.asked, 3⟩ (OnlyBlk.set w ba 2 _) hx2
  have HT := Lib.hid hT
  have hsz1 : ((x.size : Nat) : Int) - 1 = ((x.size - 1 : Nat) : Int) := by omega
  have HS := Lib.hid (fun (W : World) => show Calls Tryz.prog 158 #[.int .i64 ((x.size : Int) - 1)] W fun e w' => e = .returned (.tuple #[.int .i64 (classN (x.size - 1) : Nat), .int .i64 (sizeN (x.size - 1) : Nat)]) ∧ W = w' from by rw [hsz1]; exact sizes_any (x.size - 1) W (by omega) (by omega))
  have hle := class_le (x.size - 1)
  have c1 := A.c1
  have hdiv : ((a' : Nat) : Int).tdiv 64 = ((a' / 64 : Nat) : Int) := by rw [Int.tdiv_eq_ediv_of_nonneg (by omega)]; omega
  have hka : (0 : Int) ≤ (a' : Int) := by omega
  have hka2 : (a' : Int) ≤ 262144 := by omega
  have hrl := fun (c : Nat) (hc : c < 5) => hR.len ok hn4.2 hc
  have hsz0 : (2 : Int) ≤ (x.size : Int) := by omega
  have hsz3 : (x.size : Int) ≤ 262144 := by omega
  subst hk
  by_cases h5 : classN (x.size - 1) = 5
  · have hO : ∀ pg R, Opened S ((a' : Nat) : Int) { S with bl := updI S.bl ((a' : Nat) : Int) none, pg := pg, R := R } := fun pg R => Opened.great hR hx hs pg R
    have HO := Lib.hid hO
    have HA := Lib.hid A
    rw [h5] at HS
    have hg := Lib.hid (fun (w1 : World) (ho1 : Owned o w1) (P : PagesRep o w1 (r + 9) q S.n S.pg S.R) => give_any (((a' : Nat) : Int) / 64) (a' / 64) (by omega) w1 ho1 P)
    clear A hB hfa hx hs ok hR hT hsz1 hle hrl hO h5 ho htn hn4 h64 ha' hsz hs2 hx2
    generalize x.size = sz at *
    generalize sizeN (sz - 1) = szn at *
    have HD := Lib.hid hdiv
    clear hdiv
    go_enter Tryz.func196, Tryz.ntmps196
    go_wp2_with fail
    go_at_call 158
    refine (HS.out _).mono ?_
    rintro e w1 ⟨rfl, rfl⟩
    go_wp2_with fail
    go_at_call 213
    refine (hg.out _ HT.out.1.fresh HT.out.2.pages).mono ?_
    rintro e w2 ⟨⟨bb, rfl⟩, F2, pg, R, P2⟩
    obtain ⟨F3, A3⟩ := HT.out.2.paged F2 P2 S.t S.cur
    have c3' := A3.c3
    have HA3 := Lib.hid A3
    have HF3 := Lib.hid (HT.out.1.trans F3)
    clear F2 P2 F3 A3 c3 c1
    go_wp2_with (at_delete; refine wpList_delete_is _ rfl _ _ 117 3 rfl 167 Tryz.underlying117 Tryz.underlying3 b _ (by exact HA3.out.map.2) rfl ((a' : Nat) : Int) rfl ?_; intro w4 hm4 ht4; have HT4 := Lib.hid (HA3.out.del HF3.out.fresh ((a' : Nat) : Int) hm4 ht4); clear hm4 ht4)
    go_end0
    refine ⟨rfl, o, _, HF3.out.trans HT4.out.1, ⟨_, _, _, _, _, _, HT4.out.2⟩, ?_⟩
    have := HO.out pg R
    rw [← updI_twice S.bl ((a' : Nat) : Int) (some ⟨sz, x.asked, 3⟩) none] at this
    exact this
  · have hc : classN (x.size - 1) < 5 := by omega
    have hO : ∀ ys cu, ys.Perm (S.rows (classN (x.size - 1)) ++ [((a' : Nat) : Int)]) → cu = S.cur → Opened S ((a' : Nat) : Int) { S with bl := updI S.bl ((a' : Nat) : Int) (some ⟨x.size, x.asked, 3⟩), rows := updF S.rows (classN (x.size - 1)) ys, cur := cu } := fun ys cu hp hcu => Opened.small hR hx hs hc hp cu hcu
    have HO := Lib.hid hO
    have hps := Lib.hid (HT.out.2.pushed HT.out.1.fresh hc ((a' : Nat) : Int) (by have := hrl _ hc; show (S.rows (classN (x.size - 1))).length < _; omega))
    have hne : ((classN (x.size - 1) : Int) == 5) = false := by simp; omega
    have hcn : (classN (x.size - 1) : Int) < 5 := by omega
    have d4 := HT.out.2.fp 0
    clear A hB hfa hx hs ok hR hT hsz1 hle hrl hO ho htn hn4 h64 ha' hsz hs2 hx2 hc h5 hdiv
    generalize x.size = sz at *
    generalize sizeN (sz - 1) = szn at *
    generalize classN (sz - 1) = cl at *
    go_enter Tryz.func196, Tryz.ntmps196
    go_wp2_with fail
    go_at_call 158
    refine (HS.out _).mono ?_
    rintro e w1 ⟨rfl, rfl⟩
    go_wp2_with fail
    go_at_call 173
    refine hps.out.mono ?_
    rintro e w5 ⟨rfl, ys, o5, v5, hys, _, F5, A5⟩
    have HF5 := Lib.hid (HT.out.1.trans F5)
    have HA5 := Lib.hid (A5 S.cur)
    have HO5 := Lib.hid (HO.out ys S.cur hys rfl)
    clear F5 A5 hys
    go_wp2_with fail
    go_end0
    exact ⟨rfl, o5, _, HF5.out, ⟨_, _, _, _, _, _, HA5.out⟩, HO5.out⟩
theorem opens_one {o : Own} {r p : Nat} {S : ArS} (k : Int) (a : Nat) (x : Bl) (A1 : Option Addr) (cap B : Nat) (w : World) (ho : Owned o w) (A : ArenaRep o w r p S) (ok : ArOk S) (hR : RowsOk S) (hk : k = (a : Nat)) (hx : S.bl k = some x) (hs : x.state = 2) (hl : RdS w B .i64 A1 1 [k]) :
    Calls Tryz.prog 160 #[.pointer (some ⟨p, 0, none⟩), .slice A1 1 cap] w (OpenPost o w r p S k) := by
  have HO := Lib.hid (open_any k a x w ho A ok hR hk hx hs)
  obtain ⟨b1, f1, h1, _, hc1⟩ := hl.at_ (i := 0) (by omega)
  have hc1' : w.cell? ⟨b1, f1, none⟩ = some (.int .i64 k) := hc1
  subst h1
  clear hc1 A ok hR hk hx hs hl ho
  go_enter Tryz.func160, Tryz.ntmps160
  go_wp2_with fail
  refine wp_loop_rounds 2 ?_
  rw [rounds_succ]
  go_wp2_with fail
  go_at_call 196
  refine HO.out.mono ?_
  rintro e w1 ⟨rfl, o1, S1, F1, A1, O1⟩
  have H := Lib.hid (And.intro F1 (And.intro A1 O1))
  clear F1 A1 O1
  go_wp2_with fail
  rw [rounds_succ]
  go_wp2_with fail
  go_end0
  exact ⟨rfl, o1, S1, H.out.1, H.out.2.1, H.out.2.2⟩
end Go.Proofs.YtlpklloagaccoaaGreat
