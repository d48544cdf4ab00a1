/- The blocks in use, all objects (arena.Live, object.All, count.All). Conditions: the arena, the space, the engine are as ones that were made. Rows of structs that are new, and nobody's; append to them. Condition: the struct's own sizes. All objects of an engine (count.All). Conditions: the engine is as one that was made. -/
import Derived.Test.YtlpklloagaccoaaGreatZeros
import Derived.Test.YtlpklloagaccoaaGreatRefs
import Derived.Test.YtlpklloagaccoaaGreatDelF
import Derived.Outline
import Derived.Test.YtlpklloagaccoaaGreatSl
namespace Go.Proofs.YtlpklloagaccoaaGreat
open Go.RowKit
set_option linter.unusedVariables false

theorem MapIs.rng {w : World} {b : Nat} {f : Int → Option Value} (h : MapIs w b f) {k : Int} {u : Value} (hk : f k = some u) : 0 ≤ k ∧ k < KB := by
  obtain ⟨es, clock, hb, ok, hf⟩ := h
  have h1 := (mget_mem ok.keys).1 ⟨u, (hf k).trans hk⟩
  obtain ⟨e, he, h2⟩ := List.mem_map.1 h1
  obtain ⟨k', h3, h4, h5⟩ := ok.keys e he
  rw [h3] at h2
  cases h2
  exact ⟨h4, h5⟩
theorem SetL.len {S : Int → Bool} {xs : List Int} (h : SetL S xs) (hr : ∀ k, S k = true → 0 ≤ k ∧ k < KB) : xs.length ≤ 1048576 :=
  nodup_len (h.sorted.imp fun h e => by omega) fun k hk => hr k ((h.mem k).1 hk)
def liveB (S : ArS) (k : Int) : Bool := match S.bl k with | some x => x.state == 1 | none => false
theorem ArenaRep.rng {o : Own} {w : World} {r p : Nat} {S : ArS} (A : ArenaRep o w r p S) {k : Int} (h : liveB S k = true) : 0 ≤ k ∧ k < KB := by
  obtain ⟨g, q, l, b, v, f, A⟩ := A
  cases hf : f k with
  | none => unfold liveB at h; rw [A.bnone k hf] at h; cases h
  | some a => exact A.map.2.rng (k := k) (by rw [hf]; rfl)
theorem inuse_call {o : Own} {w : World} {r ba : Nat} {k : Int} {x : Bl} (hB : Blk o w r ba (.cells (blCells x) 169 (0, 0))) :
    Calls Tryz.prog 167 #[.int .i64 k, .pointer (some ⟨ba, 0, none⟩)] w fun e w' => e = .returned (.bool (x.state == 1)) ∧ w = w' := by
  have d2 := hB.cell 2
  unfold blCells at d2
  simp only [List.getElem?_toArray, List.getElem?_cons_zero, List.getElem?_cons_succ] at d2
  have hq : ((x.state : Int) == 1) = (x.state == 1) := by
    rw [Bool.eq_iff_iff, beq_iff_eq, beq_iff_eq]; omega
  have HQ := Lib.hid hq
  clear hB hq
  generalize x.state = s at *
  go_enter Tryz.func167, Tryz.ntmps167
  go_wp2_with fail
  go_ret
  exact ⟨ret_bool HQ.out, rfl⟩
set_option maxRecDepth 100000 in
set_option maxHeartbeats 1000000 in
theorem such_live {o : Own} {r p : Nat} {S : ArS} (w : World) (ho : Owned o w) (A : ArenaRep o w r p S) :
    Calls Tryz.prog 166 #[.pointer (some ⟨p, 0, none⟩), .func (.func 167) #[] #[]] w (SetPost o w (liveB S)) := by
  obtain ⟨g, q, l, b, v, f, A⟩ := A
  have c3 := A.c3
  have hpl := A.blk.lt
  have HK := Lib.hid (fun (w1 : World) => keysP_call b w1)
  have HS := Lib.hid (sortedP_call ho A.map.2)
  have HP := Lib.hid (fun (w1 : World) (F : Fr 0 0 o o w w1) => show w1.cell? ⟨p, 3, none⟩ = some (.map (some b)) ∧ p < w1.heap.size from ⟨F.cell0 c3, Nat.lt_of_lt_of_le hpl F.size⟩)
  have HA := Lib.hid A
  have HO := Lib.hid ho
  clear A ho
  go_enter Tryz.func166, Tryz.ntmps166
  go_wp2_with fail
  go_at_call 198
  refine (HK.out _).mono ?_
  rintro e w1 ⟨rfl, rfl⟩
  go_wp2_with fail
  go_at_call 126
  refine HS.out.mono ?_
  rintro e w2 ⟨vk, ks, rfl, hK, F2, R2⟩
  have HKK := Lib.hid hK
  have HF2 := Lib.hid F2
  obtain ⟨Ak, capk, hvk, hRk⟩ := R2.row.rd
  have HRk := Lib.hid hRk
  have hkl : (ks.length : Int) ≤ 1048576 := by have := hK.len; omega
  subst hvk
  clear hK F2 R2 hRk
  go_wp2_with fail
  go_loopw [5, 15] (fun vv iv wr => ∃ i : Nat, i ≤ ks.length ∧ iv = .int .i64 i ∧ Fr 0 0 o o w2 wr ∧ RowNew w2 o wr vv ((ks.take i).filter (liveB S))) (fun _ iv _ => ks.length - (intOf iv).toNat)
  case atStart => exact ⟨0, by omega, rfl, Fr.refl HF2.out.fresh, RowNew.nil _ _ _⟩
  case round =>
    obtain ⟨i, hi, rfl, Fi, Ri⟩ := hrel
    by_cases hin : i < ks.length
    · have hin' : (i : Int) < ((ks.length : Nat) : Int) := by omega
      obtain ⟨bk, fk, hAk, hbk, hck⟩ := (HRk.out.keep (w' := wr) fun g hg => Fi.block g hg (.inr (Nat.zero_le _))).at_ hin
      have hbk' : bk < wr.heap.size := Nat.lt_of_lt_of_le hbk Fi.size
      obtain ⟨c0, hpl'⟩ := HP.out wr (HF2.out.trans Fi)
      have AK := HA.out.keep (HF2.out.trans Fi) (.inr (Nat.zero_le _))
      have hmem : ∃ u, ((f (ks.getD i 0)).map fun a => Value.pointer (some ⟨a, 0, none⟩)) = some u := (HKK.out.mem _).1 (by
        rw [show ks.getD i 0 = ks[i] from by simp [List.getD, hin]]; exact List.getElem_mem hin)
      obtain ⟨ba, hfa⟩ : ∃ ba, f (ks.getD i 0) = some ba := by
        obtain ⟨u, hu⟩ := hmem
        cases hf : f (ks.getD i 0) with
        | none => rw [hf] at hu; cases hu
        | some a => exact ⟨a, rfl⟩
      obtain ⟨x, hx, hB⟩ := AK.bsome _ _ hfa
      have hl := AK.look (ks.getD i 0) false
      rw [hfa] at hl
      simp only [Option.map_some, Option.getD_some, Bool.false_eq_true, if_false] at hl
      have hlv : liveB S (ks.getD i 0) = (x.state == 1) := by unfold liveB; rw [hx]
      have HU := Lib.hid (inuse_call (k := ks.getD i 0) hB)
      have HSuc := Lib.hid (filter_take_succ (liveB S) ks hin)
      have HFi := Lib.hid Fi
      have HRi := Lib.hid Ri
      have HLt := Lib.hid (show ((ks.take i).filter (liveB S)).length ≤ 1048576 from Nat.le_trans (List.length_filter_le _ _) (by rw [List.length_take]; omega))
      subst hAk
      clear Fi Ri hi AK hmem hfa hx hB
      rw [← hlv] at HU
      clear hlv
      by_cases hs : liveB S (ks.getD i 0) = true
      · rw [hs] at HU
        have HS2 := Lib.hid (show (ks.take (i + 1)).filter (liveB S) = (ks.take i).filter (liveB S) ++ [ks.getD i 0] by rw [HSuc.out, if_pos hs])
        clear hs
        generalize ks.getD i 0 = k at *
        go_wp2_with fail
        go_at_call 167
        refine HU.out.mono ?_
        rintro e w' ⟨rfl, rfl⟩
        go_wp2_with (at_builtin; refine wpList_append_new _ rfl _ _ _ rfl Tryz.underlying38 (w0 := w2) (o0 := o) (own := o) (lo := 0) (hi := 0) (by repeat (first | exact HFi.out | refine Fr.drew ?_ | refine Fr.alloc ?_ _)) rfl (HRi.out.keep (lo := 0) (hi := 0) (by repeat (first | exact Fr.refl HFi.out.fresh | refine Fr.drew ?_ | refine Fr.alloc ?_ _)) (.inr rfl)) rfl (RdS.one _ .i64 _ k (by simp)) (by have := HLt.out; omega) ?_; intro v3 w3 F3 R3 G3; have HF3 := Lib.hid F3; have HR3 := Lib.hid R3; clear F3 R3 G3)
        rw [← HS2.out] at HR3
        exact ⟨⟨i + 1, by omega, by go_num, HF3.out, HR3.out⟩, by simp [intOf]; omega⟩
      · have hs' : liveB S (ks.getD i 0) = false := by simpa using hs
        rw [hs'] at HU
        have HS2 := Lib.hid (show (ks.take (i + 1)).filter (liveB S) = (ks.take i).filter (liveB S) by rw [HSuc.out, if_neg hs, List.append_nil])
        clear hs hs'
        generalize ks.getD i 0 = k at *
        go_wp2_with fail
        go_at_call 167
        refine HU.out.mono ?_
        rintro e w' ⟨rfl, rfl⟩
        go_wp2_with fail
        have HR3 := HRi.out
        rw [← HS2.out] at HR3
        exact ⟨⟨i + 1, by omega, by go_num, HFi.out, HR3⟩, by simp [intOf]; omega⟩
    · have hin' : ¬ (i : Int) < ((ks.length : Nat) : Int) := by omega
      obtain rfl : i = ks.length := by omega
      have HFi := Lib.hid (HF2.out.trans Fi)
      have HRi := Lib.hid (show RowNew w o wr _ (ks.filter (liveB S)) from ⟨by have := Ri.row; rw [List.take_length] at this; exact this, fun g hg => Nat.le_trans HF2.out.size (Ri.new g hg)⟩)
      have HSL := Lib.hid (show SetL (liveB S) (ks.filter (liveB S)) from ⟨HKK.out.sorted.filter _, fun k => by
        rw [List.mem_filter, HKK.out.mem k]
        constructor
        · exact fun h => h.2
        · intro h
          refine ⟨?_, h⟩
          cases hf : f k with
          | none =>
            have hb := HA.out.bnone k hf
            unfold liveB at h
            rw [hb] at h; cases h
          | some a => exact ⟨_, rfl⟩⟩)
      clear Fi Ri hi hin
      go_wp2_with fail
      go_ret
      exact ⟨_, _, rfl, HSL.out, HFi.out, HRi.out⟩
theorem alive_call {o : Own} {r p : Nat} {S : ArS} (w : World) (ho : Owned o w) (A : ArenaRep o w r p S) :
    Calls Tryz.prog 109 #[.pointer (some ⟨p, 0, none⟩)] w (SetPost o w (liveB S)) := by
  have HS := Lib.hid (such_live w ho A)
  clear A ho
  go_enter Tryz.func109, Tryz.ntmps109
  go_wp2_with fail
  go_at_call 166
  refine HS.out.mono ?_
  rintro e w1 ⟨v, xs, rfl, h1, h2, h3⟩
  have H := Lib.hid (And.intro h1 (And.intro h2 h3))
  clear h1 h2 h3
  go_wp2_with fail
  go_ret
  exact ⟨v, xs, rfl, H.out.1, H.out.2.1, H.out.2.2⟩
set_option maxRecDepth 100000 in
set_option maxHeartbeats 1000000 in
theorem oall_any {o : Own} {r p pa : Nat} {A : ArS} (w : World) (ho : Owned o w) (c0 : w.cell? ⟨p, 0, none⟩ = some (.pointer (some ⟨pa, 0, none⟩))) (R : ArenaRep o w r pa A) (G : Int → Bool)
    (HH : ∀ k, liveB A k = true → ∀ w1, Fr 0 0 o o w w1 → Calls Tryz.prog 54 #[.pointer (some ⟨p, 0, none⟩), .int .i64 k] w1 fun e w' => ∃ a b c d col z dn, e = .returned (.tuple #[hdV a b c d col z dn, .int .i64 (if G k = true then 0 else 3)]) ∧ Fr 0 0 o o w1 w') :
    Calls Tryz.prog 58 #[.pointer (some ⟨p, 0, none⟩)] w (SetPost o w fun k => liveB A k && G k) := by
  have HL := Lib.hid (alive_call w ho R)
  have HHd := Lib.hid HH
  have HRg := Lib.hid (fun (k : Int) (h : liveB A k = true) => R.rng h)
  have hpl := World.block_lt_of_cell? _ _ c0
  simp only at hpl
  have HO := Lib.hid ho
  clear R HH ho
  go_enter Tryz.func58, Tryz.ntmps58
  go_wp2_with fail
  go_at_call 109
  refine HL.out.mono ?_
  rintro e w2 ⟨vk, ks, rfl, hK, F2, R2⟩
  have HKK := Lib.hid hK
  have HF2 := Lib.hid F2
  obtain ⟨Ak, capk, hvk, hRk⟩ := R2.row.rd
  have HRk := Lib.hid hRk
  subst hvk
  have HLen := Lib.hid (hK.len HRg.out)
  have hkl : (ks.length : Int) ≤ 1048576 := by have := HLen.out; omega
  clear hK F2 R2 hRk
  go_wp2_with fail
  go_loopw [3, 14] (fun vv iv wr => ∃ i : Nat, i ≤ ks.length ∧ iv = .int .i64 i ∧ Fr 0 0 o o w2 wr ∧ RowNew w2 o wr vv ((ks.take i).filter G)) (fun _ iv _ => ks.length - (intOf iv).toNat)
  case atStart => exact ⟨0, by omega, rfl, Fr.refl HF2.out.fresh, RowNew.nil _ _ _⟩
  case round =>
    obtain ⟨i, hi, rfl, Fi, Ri⟩ := hrel
    by_cases hin : i < ks.length
    · have hin' : (i : Int) < ((ks.length : Nat) : Int) := by omega
      obtain ⟨bk, fk, hAk, hbk, hck⟩ := (HRk.out.keep (w' := wr) fun g hg => Fi.block g hg (.inr (Nat.zero_le _))).at_ hin
      have hbk' : bk < wr.heap.size := Nat.lt_of_lt_of_le hbk Fi.size
      have hlive : liveB A (ks.getD i 0) = true := (HKK.out.mem _).1 (by
        rw [show ks.getD i 0 = ks[i] from by simp [List.getD, hin]]; exact List.getElem_mem hin)
      have HHk := Lib.hid (HHd.out _ hlive wr (HF2.out.trans Fi))
      have HSuc := Lib.hid (filter_take_succ G ks hin)
      have HFi := Lib.hid Fi
      have HRi := Lib.hid Ri
      have HLt := Lib.hid (show ((ks.take i).filter G).length ≤ 1048576 from Nat.le_trans (List.length_filter_le _ _) (by rw [List.length_take]; omega))
      subst hAk
      clear Fi Ri hi hlive
      by_cases hs : G (ks.getD i 0) = true
      · rw [if_pos hs] at HHk
        have HS2 := Lib.hid (show (ks.take (i + 1)).filter G = (ks.take i).filter G ++ [ks.getD i 0] by rw [HSuc.out, if_pos hs])
        clear hs
        generalize ks.getD i 0 = k at *
        go_wp2_with fail
        go_at_call 54
        refine HHk.out.mono ?_
        rintro e w3 ⟨a, b, c, d, col, z, dn, rfl, F3⟩
        have HF3 := Lib.hid (HFi.out.trans F3)
        have HR3 := Lib.hid (HRi.out.keep F3 (.inr rfl))
        clear F3
        go_wp2_with (at_builtin; refine wpList_append_new _ rfl _ _ _ rfl Tryz.underlying38 (w0 := w2) (o0 := o) (own := o) (lo := 0) (hi := 0) (by repeat (first | exact HF3.out | refine Fr.drew ?_ | refine Fr.alloc ?_ _)) rfl (HR3.out.keep (lo := 0) (hi := 0) (by repeat (first | exact Fr.refl HF3.out.fresh | refine Fr.drew ?_ | refine Fr.alloc ?_ _)) (.inr rfl)) rfl (RdS.one _ .i64 _ k (by simp)) (by have := HLt.out; omega) ?_; intro v4 w4 F4 R4 G4; have HF4 := Lib.hid F4; have HR4 := Lib.hid R4; clear F4 R4 G4)
        rw [← HS2.out] at HR4
        exact ⟨⟨i + 1, by omega, by go_num, HF4.out, HR4.out⟩, by simp [intOf]; omega⟩
      · rw [if_neg hs] at HHk
        have HS2 := Lib.hid (show (ks.take (i + 1)).filter G = (ks.take i).filter G by rw [HSuc.out, if_neg hs, List.append_nil])
        clear hs
        generalize ks.getD i 0 = k at *
        go_wp2_with fail
        go_at_call 54
        refine HHk.out.mono ?_
        rintro e w3 ⟨a, b, c, d, col, z, dn, rfl, F3⟩
        have HF3 := Lib.hid (HFi.out.trans F3)
        have HR3 := Lib.hid (HRi.out.keep F3 (.inr rfl))
        clear F3
        rw [← HS2.out] at HR3
        go_wp2_with fail
        exact ⟨⟨i + 1, by omega, by go_num, HF3.out.alloc _, HR3.out.keep (lo := 0) (hi := 0) ((Fr.refl HF3.out.fresh).alloc _) (.inr rfl)⟩, by simp [intOf]; omega⟩
    · have hin' : ¬ (i : Int) < ((ks.length : Nat) : Int) := by omega
      obtain rfl : i = ks.length := by omega
      have HFi := Lib.hid (HF2.out.trans Fi)
      have HRi := Lib.hid (show RowNew w o wr _ (ks.filter G) from ⟨by have := Ri.row; rw [List.take_length] at this; exact this, fun g hg => Nat.le_trans HF2.out.size (Ri.new g hg)⟩)
      have HSL := Lib.hid (show SetL (fun k => liveB A k && G k) (ks.filter G) from ⟨HKK.out.sorted.filter _, fun k => by
        rw [List.mem_filter, HKK.out.mem k, Bool.and_eq_true]⟩)
      clear Fi Ri hi hin
      go_wp2_with fail
      go_ret
      exact ⟨_, _, rfl, HSL.out, HFi.out, HRi.out⟩
/-- Is there an object? -/
def isOb (ob : Int → Option Ob) (k : Int) : Bool := (ob k).isSome
theorem oall {o : Own} {r p : Nat} {L : Al} {ob : Int → Option Ob} (w : World) (ho : Owned o w) (S : SpaceRep o w r p L ob) :
    Calls Tryz.prog 58 #[.pointer (some ⟨p, 0, none⟩)] w (SetPost o w (isOb ob)) := by
  have S0 := S
  obtain ⟨pa, A, S⟩ := S
  have hl : ∀ k, liveB A k = isOb ob k := fun k => by
    unfold liveB isOb
    cases hb : A.bl k with
    | none =>
      cases hx : ob k with
      | none => rfl
      | some x =>
        obtain ⟨a, sz, _, h2, _⟩ := S.ok.loc k x hx
        have h2' : A.bl k = _ := h2
        rw [hb] at h2'; cases h2'
    | some y =>
      by_cases hs : y.state = 1
      · obtain ⟨x, hx⟩ := S.ok.all k y hb hs
        have hx' : ob k = some x := hx
        rw [hx']; simp [hs]
      · cases hx : ob k with
        | none => simp [hs]
        | some x =>
          obtain ⟨a, sz, _, h2, _⟩ := S.ok.loc k x hx
          have h2' : A.bl k = _ := h2
          rw [hb] at h2'; cases h2'
          exact absurd rfl hs
  have := oall_any w ho S.c0 S.ar (fun _ => true) (fun k hk w1 F => by
    rw [hl] at hk
    obtain ⟨x, hx⟩ := Option.isSome_iff_exists.1 (show (ob k).isSome = true from hk)
    refine (ohead_yes k x w1 F.fresh (S0.keep F (.inr (Nat.zero_le _))) hx).mono fun e w' hh => ?_
    obtain ⟨c2, z2, _, h1, h2⟩ := hh
    exact ⟨_, _, _, _, _, _, _, h1, (Fr.refl F.fresh).below h2⟩)
  refine this.mono fun e w' hh => ?_
  obtain ⟨v, xs, h1, h2, h3⟩ := hh
  exact ⟨v, xs, h1, ⟨h2.sorted, fun k => by rw [h2.mem k, hl, Bool.and_true]⟩, h3⟩
end Go.Proofs.YtlpklloagaccoaaGreat
namespace Go.Proofs.YtlpklloagaccoaaGreat
open Go.RowKit
set_option linter.unusedVariables false

structure ElS (e : TypeId) (z : Value) (size bytes : Nat) : Prop where
  info : ∃ i, Tryz.prog.info? e = some i ∧ i.zero = some z ∧ i.size = size ∧ i.bytes = bytes
  zc : z.cells.size = size
  pos : 0 < size
  small : bytes ≤ 128
structure RowS (e : TypeId) (size : Nat) (w0 : World) (o : Own) (w : World) (v : Value) (n : Nat) (cs : List Value) : Prop where
  own : w.ownsRow 0 e size v n cs
  new : ∀ g, v.ownBlock = some g → w0.heap.size ≤ g ∧ o g = 0
section
variable {e : TypeId} {z : Value} {size bytes : Nat} {w0 w w' : World} {o o' : Own} {v : Value} {n : Nat} {cs : List Value}
theorem RowS.nil (e : TypeId) (size : Nat) (w0 : World) (o : Own) (w : World) : RowS e size w0 o w (.slice none 0 0) 0 [] := ⟨World.ownsRow_nil w 0 e size, fun g h => by cases h⟩
theorem RowS.form (h : RowS e size w0 o w v n cs) : (v = .slice none 0 0 ∧ n = 0) ∨ ∃ g cap, v = .slice (some ⟨g, 0, none⟩) n cap ∧ g < w.heap.size ∧ ∀ j u, cs[j]? = some u → w.cell? ⟨g, j, none⟩ = some u := by
  rcases h.own.2 with h1 | ⟨g, cap, cur, h1, _, h3, _, _, _, h7⟩
  · exact .inl h1
  · refine .inr ⟨g, cap, h1, lt_of_block h3, fun j u hu => ?_⟩
    have hj : j < cs.length := by
      refine Nat.lt_of_not_le fun hl => ?_
      rw [List.getElem?_eq_none hl] at hu; cases hu
    rw [← h7, List.getElem?_take_of_lt (by rw [← h.own.1]; exact hj)] at hu
    simp only [World.cell?, h3]
    simpa using hu
theorem RowS.keep {lo hi : Nat} (h : RowS e size w0 o w v n cs) (k : Fr lo hi o o' w w') (hr : 0 < lo ∨ hi = 0) : RowS e size w0 o' w' v n cs := by
  obtain ⟨h1, h2⟩ := h.own
  refine ⟨⟨h1, ?_⟩, fun g hg => ?_⟩
  · rcases h2 with h2 | ⟨g, cap, cur, hv, h3, h4, h5⟩
    · exact .inl h2
    · have hn := h.new g (by rw [hv]; rfl)
      exact .inr ⟨g, cap, cur, hv, h3, (k.block g (lt_of_block h4) (by rw [hn.2]; omega)).trans h4, h5⟩
  · have hn := h.new g hg
    refine ⟨hn.1, ?_⟩
    rcases h2 with h2 | ⟨g', cap, cur, hv, h3, h4, h5⟩
    · rw [h2.1] at hg; cases hg
    · rw [hv] at hg
      simp only [Value.ownBlock, Option.some.injEq] at hg
      subst hg
      rw [k.own _ (lt_of_block h4)]; exact hn.2
theorem run_append_rowS {t : TypeId} (I : ElS e z size bytes) (ht : Tryz.prog.underlying t = some (.slice e)) {o0 : Own} {lo hi : Nat} (F : Fr lo hi o0 o w0 w) (hown : RowS e size w0 o w v n cs)
    (ad : Addr) (c : Nat) (news : List Value) (hl : news.length = size) (hnews : ∀ j u, news[j]? = some u → w.cell? (ad.add j) = some u) (h1 : ∀ u ∈ news, u.oneCell' = true) (hn : n ≤ 1048576) (ty : TypeId) :
    ∃ v' w', (Builtin.append_ #[t, t] ty #[v, .slice (some ad) 1 c]).run Tryz.prog w = .ok v' w' ∧ Fr lo hi o0 o w0 w' ∧ RowS e size w0 o w' v' (n + 1) (cs ++ news) ∧ w.grownBy w' v.ownBlock := by
  obtain ⟨i, hi', hz, hs, hb⟩ := I.info
  have hby : (n + 1) * bytes ≤ 140737488355328 := by
    have := Nat.mul_le_mul_left (n + 1) I.small
    omega
  obtain ⟨v', w', hrun, h2, h3, _, h5⟩ := run_append_own_at (P := Tryz.prog) w 0 t ty e i z size bytes ht hi' hz hs hb I.zc I.pos v n cs hown.own ad 1 c news (by rw [hl, Nat.one_mul]) hnews h1 (by unfold maxLen; omega) hby (Nat.zero_le _)
  have hO := F.fresh
  refine ⟨v', w', hrun, ⟨h3.os.trans F.os, h3.tape.trans F.tape, h3.output.trans F.output, Nat.le_trans F.size h3.size, fun b hb hor => ?_, F.own, fun b hb => hO b (Nat.le_trans h3.size hb)⟩, ⟨h2, fun g hg => ?_⟩, h3⟩
  · rw [h3.block b (Nat.lt_of_lt_of_le hb F.size) (fun e => by have := (hown.new b e.symm).1; omega)]
    exact F.block b hb hor
  · rcases h5 with h5 | h5
    · exact hown.new g (by rw [← h5]; exact hg)
    · rw [h5] at hg
      obtain rfl := Option.some.inj hg
      exact ⟨F.size, hO _ (Nat.le_refl _)⟩
theorem wpList_append_rowS {ops : Array Oper} {rest : List Oper} {oo : Oper} {a : Act} {Q : Exit → Act → World → Prop} (w : World) (hgd : oo.guard = none) (s x : Operand) (t : TypeId)
    (hop : oo.op = .call { callee := .builtin .append, args := #[s, x], argTypes := #[t, t] }) (I : ElS e z size bytes) (ht : Tryz.prog.underlying t = some (.slice e)) {o0 : Own} {lo hi : Nat} (F : Fr lo hi o0 o w0 w) (hs : a.eval s = v) (hown : RowS e size w0 o w v n cs)
    {ad : Addr} {c : Nat} (hx : a.eval x = .slice (some ad) 1 c) (news : List Value) (hl : news.length = size) (hnews : ∀ j u, news[j]? = some u → w.cell? (ad.add j) = some u) (h1 : ∀ u ∈ news, u.oneCell' = true) (hn : n ≤ 1048576)
    (hK : ∀ v' w', Fr lo hi o0 o w0 w' → RowS e size w0 o w' v' (n + 1) (cs ++ news) → w.grownBy w' v.ownBlock → wpList Tryz.prog ops Q rest (a.put oo.dst v') w') : wpList Tryz.prog ops Q (oo :: rest) a w := by
  refine wpList_plain hgd fun K' hK' => ?_
  obtain ⟨v', w', hrun, h2, h3, h4⟩ := run_append_rowS I ht F hown ad c news hl hnews h1 hn oo.type
  unfold Oper.wp execOp
  simp only [hop, resolve, invoke, builtin, Sem.run_bind, Sem.run_pure, Result.andThen_ok, List.map_toArray, List.map_cons, List.map_nil, hs, hx, hrun, Oper.upon_value]
  exact hK' _ _ (hK v' w' h2 h3 h4)
end
end Go.Proofs.YtlpklloagaccoaaGreat
namespace Go.Proofs.YtlpklloagaccoaaGreat
open Go.RowKit
set_option linter.unusedVariables false

theorem elObj : ElS 89 (.agg #[.int .i64 0, .int .i64 0, .int .i64 0, .bool false, .slice none 0 0]) 5 56 :=
  ⟨info_parts (show (Tryz.prog.info? 89).map (fun i => (i.zero, i.size, i.bytes)) = some (some (.agg #[.int .i64 0, .int .i64 0, .int .i64 0, .bool false, .slice none 0 0]), 5, 56) from by kernel_rfl), by decide, by decide, by decide⟩
/-- All objects: how many, and where the first numbers stand. -/
def AllPost (o : Own) (w : World) (S : EngS) (e : Ending) (w' : World) : Prop :=
  ∃ (A : Option Addr) (cap : Nat) (hs : List Int), e = .returned (.slice A hs.length cap) ∧ SetL (isOb S.ob) hs ∧ Fr 0 0 o o w w' ∧ hs.length ≤ 1048576 ∧ ∀ i, i < hs.length → ∃ g, A = some ⟨g, 0, none⟩ ∧ g < w'.heap.size ∧ w'.cell? ⟨g, 5 * i, none⟩ = some (.int .i64 (hs.getD i 0))
set_option maxRecDepth 100000 in
set_option maxHeartbeats 1000000 in
theorem rall {o : Own} {r p : Nat} {S : EngS} (w : World) (hr : 1 ≤ r) (ho : Owned o w) (E : EngRep o w r p S) :
    Calls Tryz.prog 74 #[.pointer (some ⟨p, 0, none⟩)] w (AllPost o w S) := by
  obtain ⟨ps, pt, pz, pp, bw, bk, v, K, E0, A⟩ := E
  have E : EngRep o w r p S := ⟨ps, pt, pz, pp, bw, bk, v, K, E0, A⟩
  have hio : isOb K.ob = isOb S.ob := by
    funext k
    unfold isOb
    rw [A.ob k]
    cases K.ob k <;> rfl
  have HA := Lib.hid (show Calls Tryz.prog 58 #[.pointer (some ⟨ps, 0, none⟩)] w (SetPost o w (isOb S.ob)) from by rw [← hio]; exact oall w ho E0.sp)
  have c0 := E0.c0
  have hpl := E0.blk.lt
  have HRg := Lib.hid (fun (k : Int) (h : isOb S.ob k = true) => show 0 ≤ k ∧ k < KB from by
    rw [← hio] at h
    obtain ⟨x, hx⟩ := Option.isSome_iff_exists.1 (show (K.ob k).isSome = true from h)
    have := E0.sp.hrange hx
    unfold KB
    omega)
  have HC := Lib.hid (fun (k : Int) (h : isOb S.ob k = true) (w1 : World) (F : Fr 0 0 o o w w1) => show Calls Tryz.prog 39 #[.pointer (some ⟨p, 0, none⟩), .int .i64 k] w1 fun e w' => e = .returned (.tuple #[.int .i64 (S.tot k), .bool (S.st k)]) ∧ Fr 0 0 o o w1 w' from by
    obtain ⟨x, hx⟩ := Option.isSome_iff_exists.1 (show (S.ob k).isSome = true from h)
    exact (rcount k x w1 F.fresh (E.keep F (.inr (Nat.zero_le _))) hx).mono fun e w' hh => ⟨hh.1, (Fr.refl F.fresh).below hh.2⟩)
  have HKd := Lib.hid (fun (k : Int) (w1 : World) (F : Fr 0 0 o o w w1) => show Calls Tryz.prog 33 #[.pointer (some ⟨p, 0, none⟩), .int .i64 k] w1 fun e w' => e = .returned (.int .i64 (kindA S k : Nat)) ∧ Fr 0 0 o o w1 w' from
    (rkind k w1 F.fresh (E.keep F (.inr (Nat.zero_le _)))).mono fun e w' hh => ⟨hh.1, (Fr.refl F.fresh).below hh.2⟩)
  have HRf := Lib.hid (fun (k : Int) (w1 : World) (F : Fr 0 0 o o w w1) => show Calls Tryz.prog 38 #[.pointer (some ⟨p, 0, none⟩), .int .i64 k] w1 fun e w' => ∃ A n cap, e = .returned (.slice A n cap) ∧ Fr 0 0 o o w1 w' from
    (rrefs k w1 hr F.fresh (E.keep F (.inr (Nat.zero_le _)))).mono fun e w' hh => by
      obtain ⟨v, h1, h2, h3⟩ := hh
      obtain ⟨A, cap, hv, _⟩ := h3.row.rd
      exact ⟨A, _, cap, by rw [h1, hv], h2⟩)
  have HO := Lib.hid ho
  clear E E0 A ho hio hr
  go_enter Tryz.func74, Tryz.ntmps74
  go_wp2_with fail
  go_at_call 58
  refine HA.out.mono ?_
  rintro e w2 ⟨vk, ks, rfl, hK, F2, R2⟩
  have HKK := Lib.hid hK
  have HF2 := Lib.hid F2
  obtain ⟨Ak, capk, hvk, hRk⟩ := R2.row.rd
  have HRk := Lib.hid hRk
  subst hvk
  have HLen := Lib.hid (hK.len HRg.out)
  have hkl : (ks.length : Int) ≤ 1048576 := by have := HLen.out; omega
  clear hK F2 R2 hRk c0 hpl
  go_wp2_with fail
  go_loopw [3, 14] (fun vv iv wr => ∃ (i : Nat) (cs : List Value), i ≤ ks.length ∧ iv = .int .i64 i ∧ Fr 0 0 o o w2 wr ∧ RowS 89 5 w2 o wr vv i cs ∧ ∀ j, j < i → cs[5 * j]? = some (.int .i64 (ks.getD j 0))) (fun _ iv _ => ks.length - (intOf iv).toNat)
  case atStart => exact ⟨0, [], by omega, rfl, Fr.refl HF2.out.fresh, RowS.nil _ _ _ _ _, fun j hj => absurd hj (Nat.not_lt_zero _)⟩
  case round =>
    obtain ⟨i, cs, hi, rfl, Fi, Ri, hcs⟩ := hrel
    by_cases hin : i < ks.length
    · have hin' : (i : Int) < ((ks.length : Nat) : Int) := by omega
      obtain ⟨bk, fk, hAk, hbk, hck⟩ := (HRk.out.keep (w' := wr) fun g hg => Fi.block g hg (.inr (Nat.zero_le _))).at_ hin
      have hbk' : bk < wr.heap.size := Nat.lt_of_lt_of_le hbk Fi.size
      have hob : isOb S.ob (ks.getD i 0) = true := (HKK.out.mem _).1 (by
        rw [show ks.getD i 0 = ks[i] from by simp [List.getD, hin]]; exact List.getElem_mem hin)
      have HCk := Lib.hid (HC.out _ hob)
      have HFi := Lib.hid Fi
      have HRi := Lib.hid Ri
      have HCs := Lib.hid hcs
      have HLi := Lib.hid (show cs.length = i * 5 from Ri.own.1)
      have HIl := Lib.hid hin
      subst hAk
      clear Fi Ri hi hob hcs
      generalize hk : ks.getD i 0 = k at *
      have HK := Lib.hid hk
      clear hk
      go_wp2_with fail
      go_at_call 39
      refine (HCk.out _ (HF2.out.trans HFi.out)).mono ?_
      rintro e w3 ⟨rfl, F3⟩
      have HF3 := Lib.hid (HFi.out.trans F3)
      have HR3 := Lib.hid (HRi.out.keep F3 (.inr rfl))
      clear F3
      generalize S.tot k = tk at *
      generalize S.st k = sk at *
      go_wp2_with fail
      go_at_call 33
      refine (HKd.out _ _ (HF2.out.trans HF3.out)).mono ?_
      rintro e w4 ⟨rfl, F4⟩
      have HF4 := Lib.hid (HF3.out.trans F4)
      have HR4 := Lib.hid (HR3.out.keep F4 (.inr rfl))
      clear F4
      generalize ((kindA S k : Nat) : Int) = kk at *
      go_wp2_with fail
      go_at_call 38
      refine (HRf.out _ _ (HF2.out.trans HF4.out)).mono ?_
      rintro e w5 ⟨Af, nf, capf, rfl, F5⟩
      have HF5 := Lib.hid (HF4.out.trans F5)
      have HR5 := Lib.hid (HR4.out.keep F5 (.inr rfl))
      clear F5
      go_wp2_with (at_builtin; refine wpList_append_rowS _ rfl _ _ _ rfl elObj Tryz.underlying84 (w0 := w2) (o0 := o) (o := o) (lo := 0) (hi := 0) (by repeat (first | exact HF5.out | refine Fr.drew ?_ | refine Fr.alloc ?_ _)) rfl (HR5.out.keep (lo := 0) (hi := 0) (by repeat (first | exact Fr.refl HF5.out.fresh | refine Fr.drew ?_ | refine Fr.alloc ?_ _)) (.inr rfl)) rfl [.int .i64 k, .int .i64 kk, .int .i64 tk, .bool sk, .slice Af nf capf] rfl (World.news_of_block (heap_alloc_new _ _)) (by intro u hu; simp only [List.mem_cons, List.not_mem_nil, or_false] at hu; rcases hu with rfl | rfl | rfl | rfl | rfl <;> rfl) (by have := HLen.out; have := HIl.out; omega) ?_; intro v6 w6 F6 R6 G6; have HF6 := Lib.hid F6; have HR6 := Lib.hid R6; clear F6 R6 G6)
      exact ⟨⟨i + 1, _, by omega, by go_num, HF6.out, HR6.out, fun j hj => by
        have hl := HLi.out
        by_cases e : j = i
        · subst e
          rw [List.getElem?_append_right (by omega), show 5 * j - cs.length = 0 by omega, HK.out]; rfl
        · rw [List.getElem?_append_left (by omega)]; exact HCs.out j (by omega)⟩, by simp [intOf]; omega⟩
    · have hin' : ¬ (i : Int) < ((ks.length : Nat) : Int) := by omega
      obtain rfl : i = ks.length := by omega
      have HFi := Lib.hid (HF2.out.trans Fi)
      have HRi := Lib.hid Ri
      have HCs := Lib.hid hcs
      clear Fi Ri hi hin hcs
      go_wp2_with fail
      go_ret
      rcases HRi.out.form with ⟨hv, hn⟩ | ⟨g, cap, hv, hg, hc⟩
      · refine ⟨none, 0, ks, ?_, HKK.out, HFi.out, HLen.out, fun j hj => by omega⟩
        rw [hn]; exact congrArg Ending.returned hv
      · refine ⟨some ⟨g, 0, none⟩, cap, ks, congrArg Ending.returned hv, HKK.out, HFi.out, HLen.out, fun j hj => ⟨g, rfl, hg, hc _ _ (HCs.out j hj)⟩⟩
end Go.Proofs.YtlpklloagaccoaaGreat
