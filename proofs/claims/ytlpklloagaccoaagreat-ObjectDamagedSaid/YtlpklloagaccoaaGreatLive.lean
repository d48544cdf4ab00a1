/- The blocks in use, all objects (arena.Live, object.All, count.All). Conditions: the arena, the space, the engine are as ones that were made. -/
import Derived.Test.YtlpklloagaccoaaGreatZeros
import Derived.Test.YtlpklloagaccoaaGreatRefs
import Derived.Test.YtlpklloagaccoaaGreatDelF
import Derived.Outline
namespace Go.Proofs.YtlpklloagaccoaaGreat
open Go.RowKit
set_option linter.unusedVariables false

theorem MapIs.rng {w : World} {b : Nat} {f : Int → Option Value} (h : MapIs w b f) {k : Int} {u : Value} (hk : f k = some u) : 0 ≤ k ∧ k < KB := by
  obtain ⟨es, clock, hb, ok, hf⟩ := h
  have h1 := (mget_mem ok.keys).1 ⟨u, (hf k).trans hk⟩
  obtain ⟨e, he, h2⟩ := List.mem_map.1 h1
  obtain ⟨k', h3, h4, h5⟩ := ok.keys e he
  rw [h3] at h2
  cases h2
  exact ⟨h4, h5⟩
theorem SetL.len {S : Int → Bool} {xs : List Int} (h : SetL S xs) (hr : ∀ k, S k = true → 0 ≤ k ∧ k < KB) : xs.length ≤ 1048576 :=
  nodup_len (h.sorted.imp fun h e => by omega) fun k hk => hr k ((h.mem k).1 hk)
def liveB (S : ArS) (k : Int) : Bool := match S.bl k with | some x => x.state == 1 | none => false
theorem ArenaRep.rng {o : Own} {w : World} {r p : Nat} {S : ArS} (A : ArenaRep o w r p S) {k : Int} (h : liveB S k = true) : 0 ≤ k ∧ k < KB := by
  obtain ⟨g, q, l, b, v, f, A⟩ := A
  cases hf : f k with
  | none => unfold liveB at h; rw [A.bnone k hf] at h; cases h
  | some a => exact A.map.2.rng (k := k) (by rw [hf]; rfl)
theorem inuse_call {o : Own} {w : World} {r ba : Nat} {k : Int} {x : Bl} (hB : Blk o w r ba (.cells (blCells x) 169 (0, 0))) :
    Calls Tryz.prog 167 #[.int .i64 k, .pointer (some ⟨ba, 0, none⟩)] w fun e w' => e = .returned (.bool (x.state == 1)) ∧ w = w' := by
  have d2 := hB.cell 2
  unfold blCells at d2
  simp only [List.getElem?_toArray, List.getElem?_cons_zero, List.getElem?_cons_succ] at d2
  have hq : ((x.state : Int) == 1) = (x.state == 1) := by
    rw [Bool.eq_iff_iff, beq_iff_eq, beq_iff_eq]; omega
  have HQ := Lib.hid hq
  clear hB hq
  generalize x.state = s at *
  go_enter Tryz.func167, Tryz.ntmps167
  go_wp2_with fail
  go_ret
  exact ⟨ret_bool HQ.out, rfl⟩
set_option maxRecDepth 100000 in
set_option maxHeartbeats 1000000 in
theorem such_live {o : Own} {r p : Nat} {S : ArS} (w : World) (ho : Owned o w) (A : ArenaRep o w r p S) :
    Calls Tryz.prog 166 #[.pointer (some ⟨p, 0, none⟩), .func (.func 167) #[] #[]] w (SetPost o w (liveB S)) := by
  obtain ⟨g, q, l, b, v, f, A⟩ := A
  have c3 := A.c3
  have hpl := A.blk.lt
  have HK := Lib.hid (fun (w1 : World) => keysP_call b w1)
  have HS := Lib.hid (sortedP_call ho A.map.2)
  have HP := Lib.hid (fun (w1 : World) (F : Fr 0 0 o o w w1) => show w1.cell? ⟨p, 3, none⟩ = some (.map (some b)) ∧ p < w1.heap.size from ⟨F.cell0 c3, Nat.lt_of_lt_of_le hpl F.size⟩)
  have HA := Lib.hid A
  have HO := Lib.hid ho
  clear A ho
  go_enter Tryz.func166, Tryz.ntmps166
  go_wp2_with fail
  go_at_call 198
  refine (HK.out _).mono ?_
  rintro e w1 ⟨rfl, rfl⟩
  go_wp2_with fail
  go_at_call 126
  refine HS.out.mono ?_
  rintro e w2 ⟨vk, ks, rfl, hK, F2, R2⟩
  have HKK := Lib.hid hK
  have HF2 := Lib.hid F2
  obtain ⟨Ak, capk, hvk, hRk⟩ := R2.row.rd
  have HRk := Lib.hid hRk
  have hkl : (ks.length : Int) ≤ 1048576 := by have := hK.len; omega
  subst hvk
  clear hK F2 R2 hRk
  go_wp2_with fail
  go_loopw [5, 15] (fun vv iv wr => ∃ i : Nat, i ≤ ks.length ∧ iv = .int .i64 i ∧ Fr 0 0 o o w2 wr ∧ RowNew w2 o wr vv ((ks.take i).filter (liveB S))) (fun _ iv _ => ks.length - (intOf iv).toNat)
  case atStart => exact ⟨0, by omega, rfl, Fr.refl HF2.out.fresh, RowNew.nil _ _ _⟩
  case round =>
    obtain ⟨i, hi, rfl, Fi, Ri⟩ := hrel
    by_cases hin : i < ks.length
    · have hin' : (i : Int) < ((ks.length : Nat) : Int) := by omega
      obtain ⟨bk, fk, hAk, hbk, hck⟩ := (HRk.out.keep (w' := wr) fun g hg => Fi.block g hg (.inr (Nat.zero_le _))).at_ hin
      have hbk' : bk < wr.heap.size := Nat.lt_of_lt_of_le hbk Fi.size
      obtain ⟨c0, hpl'⟩ := HP.out wr (HF2.out.trans Fi)
      have AK := HA.out.keep (HF2.out.trans Fi) (.inr (Nat.zero_le _))
      have hmem : ∃ u, ((f (ks.getD i 0)).map fun a => Value.pointer (some ⟨a, 0, none⟩)) = some u := (HKK.out.mem _).1 (by
        rw [show ks.getD i 0 = ks[i] from by simp [List.getD, hin]]; exact List.getElem_mem hin)
      obtain ⟨ba, hfa⟩ : ∃ ba, f (ks.getD i 0) = some ba := by
        obtain ⟨u, hu⟩ := hmem
        cases hf : f (ks.getD i 0) with
        | none => rw [hf] at hu; cases hu
        | some a => exact ⟨a, rfl⟩
      obtain ⟨x, hx, hB⟩ := AK.bsome _ _ hfa
      have hl := AK.look (ks.getD i 0) false
      rw [hfa] at hl
      simp only [Option.map_some, Option.getD_some, Bool.false_eq_true, if_false] at hl
      have hlv : liveB S (ks.getD i 0) = (x.state == 1) := by unfold liveB; rw [hx]
      have HU := Lib.hid (inuse_call (k := ks.getD i 0) hB)
      have HSuc := Lib.hid (filter_take_succ (liveB S) ks hin)
      have HFi := Lib.hid Fi
      have HRi := Lib.hid Ri
      have HLt := Lib.hid (show ((ks.take i).filter (liveB S)).length ≤ 1048576 from Nat.le_trans (List.length_filter_le _ _) (by rw [List.length_take]; omega))
      subst hAk
      clear Fi Ri hi AK hmem hfa hx hB
      rw [← hlv] at HU
      clear hlv
      by_cases hs : liveB S (ks.getD i 0) = true
      · rw [hs] at HU
        have HS2 := Lib.hid (show (ks.take (i + 1)).filter (liveB S) = (ks.take i).filter (liveB S) ++ [ks.getD i 0] by rw [HSuc.out, if_pos hs])
        clear hs
        generalize ks.getD i 0 = k at *
        go_wp2_with fail
        go_at_call 167
        refine HU.out.mono ?_
        rintro e w' ⟨rfl, rfl⟩
        go_wp2_with (at_builtin; refine wpList_append_new _ rfl _ _ _ rfl Tryz.underlying38 (w0 := w2) (o0 := o) (own := o) (lo := 0) (hi := 0) (by repeat (first | exact HFi.out | refine Fr.drew ?_ | refine Fr.alloc ?_ _)) rfl (HRi.out.keep (lo := 0) (hi := 0) (by repeat (first | exact Fr.refl HFi.out.fresh | refine Fr.drew ?_ | refine Fr.alloc ?_ _)) (.inr rfl)) rfl (RdS.one _ .i64 _ k (by simp)) (by have := HLt.out; omega) ?_; intro v3 w3 F3 R3 G3; have HF3 := Lib.hid F3; have HR3 := Lib.hid R3; clear F3 R3 G3)
        rw [← HS2.out] at HR3
        exact ⟨⟨i + 1, by omega, by go_num, HF3.out, HR3.out⟩, by simp [intOf]; omega⟩
      · have hs' : liveB S (ks.getD i 0) = false := by simpa using hs
        rw [hs'] at HU
        have HS2 := Lib.hid (show (ks.take (i + 1)).filter (liveB S) = (ks.take i).filter (liveB S) by rw [HSuc.out, if_neg hs, List.append_nil])
        clear hs hs'
        generalize ks.getD i 0 = k at *
        go_wp2_with fail
        go_at_call 167
        refine HU.out.mono ?_
        rintro e w' ⟨rfl, rfl⟩
        go_wp2_with fail
        have HR3 := HRi.out
        rw [← HS2.out] at HR3
        exact ⟨⟨i + 1, by omega, by go_num, HFi.out, HR3⟩, by simp [intOf]; omega⟩
    · have hin' : ¬ (i : Int) < ((ks.length : Nat) : Int) := by omega
      obtain rfl : i = ks.length := by omega
      have HFi := Lib.hid (HF2.out.trans Fi)
      have HRi := Lib.hid (show RowNew w o wr _ (ks.filter (liveB S)) from ⟨by have := Ri.row; rw [List.take_length] at this; exact this, fun g hg => Nat.le_trans HF2.out.size (Ri.new g hg)⟩)
      have HSL := Lib.hid (show SetL (liveB S) (ks.filter (liveB S)) from ⟨HKK.out.sorted.filter _, fun k => by
        rw [List.mem_filter, HKK.out.mem k]
        constructor
        · exact fun h => h.2
        · intro h
          refine ⟨?_, h⟩
          cases hf : f k with
          | none =>
            have hb := HA.out.bnone k hf
            unfold liveB at h
            rw [hb] at h; cases h
          | some a => exact ⟨_, rfl⟩⟩)
      clear Fi Ri hi hin
      go_wp2_with fail
      go_ret
      exact ⟨_, _, rfl, HSL.out, HFi.out, HRi.out⟩
theorem alive_call {o : Own} {r p : Nat} {S : ArS} (w : World) (ho : Owned o w) (A : ArenaRep o w r p S) :
    Calls Tryz.prog 109 #[.pointer (some ⟨p, 0, none⟩)] w (SetPost o w (liveB S)) := by
  have HS := Lib.hid (such_live w ho A)
  clear A ho
  go_enter Tryz.func109, Tryz.ntmps109
  go_wp2_with fail
  go_at_call 166
  refine HS.out.mono ?_
  rintro e w1 ⟨v, xs, rfl, h1, h2, h3⟩
  have H := Lib.hid (And.intro h1 (And.intro h2 h3))
  clear h1 h2 h3
  go_wp2_with fail
  go_ret
  exact ⟨v, xs, rfl, H.out.1, H.out.2.1, H.out.2.2⟩
set_option maxRecDepth 100000 in
set_option maxHeartbeats 1000000 in
theorem oall_any {o : Own} {r p pa : Nat} {A : ArS} (w : World) (ho : Owned o w) (c0 : w.cell? ⟨p, 0, none⟩ = some (.pointer (some ⟨pa, 0, none⟩))) (R : ArenaRep o w r pa A) (G : Int → Bool)
    (HH : ∀ k, liveB A k = true → ∀ w1, Fr 0 0 o o w w1 → Calls Tryz.prog 54 #[.pointer (some ⟨p, 0, none⟩), .int .i64 k] w1 fun e w' => ∃ a b c d col z dn, e = .returned (.tuple #[hdV a b c d col z dn, .int .i64 (if G k = true then 0 else 3)]) ∧ Fr 0 0 o o w1 w') :
    Calls Tryz.prog 58 #[.pointer (some ⟨p, 0, none⟩)] w (SetPost o w fun k => liveB A k && G k) := by
  have HL := Lib.hid (alive_call w ho R)
  have HHd := Lib.hid HH
  have HRg := Lib.hid (fun (k : Int) (h : liveB A k = true) => R.rng h)
  have hpl := World.block_lt_of_cell? _ _ c0
  simp only at hpl
  have HO := Lib.hid ho
  clear R HH ho
  go_enter Tryz.func58, Tryz.ntmps58
  go_wp2_with fail
  go_at_call 109
  refine HL.out.mono ?_
  rintro e w2 ⟨vk, ks, rfl, hK, F2, R2⟩
  have HKK := Lib.hid hK
  have HF2 := Lib.hid F2
  obtain ⟨Ak, capk, hvk, hRk⟩ := R2.row.rd
  have HRk := Lib.hid hRk
  subst hvk
  have HLen := Lib.hid (hK.len HRg.out)
  have hkl : (ks.length : Int) ≤ 1048576 := by have := HLen.out; omega
  clear hK F2 R2 hRk
  go_wp2_with fail
  go_loopw [3, 14] (fun vv iv wr => ∃ i : Nat, i ≤ ks.length ∧ iv = .int .i64 i ∧ Fr 0 0 o o w2 wr ∧ RowNew w2 o wr vv ((ks.take i).filter G)) (fun _ iv _ => ks.length - (intOf iv).toNat)
  case atStart => exact ⟨0, by omega, rfl, Fr.refl HF2.out.fresh, RowNew.nil _ _ _⟩
  case round =>
    obtain ⟨i, hi, rfl, Fi, Ri⟩ := hrel
    by_cases hin : i < ks.length
    · have hin' : (i : Int) < ((ks.length : Nat) : Int) := by omega
      obtain ⟨bk, fk, hAk, hbk, hck⟩ := (HRk.out.keep (w' := wr) fun g hg => Fi.block g hg (.inr (Nat.zero_le _))).at_ hin
      have hbk' : bk < wr.heap.size := Nat.lt_of_lt_of_le hbk Fi.size
      have hlive : liveB A (ks.getD i 0) = true := (HKK.out.mem _).1 (by
        rw [show ks.getD i 0 = ks[i] from by simp [List.getD, hin]]; exact List.getElem_mem hin)
      have HHk := Lib.hid (HHd.out _ hlive wr (HF2.out.trans Fi))
      have HSuc := Lib.hid (filter_take_succ G ks hin)
      have HFi := Lib.hid Fi
      have HRi := Lib.hid Ri
      have HLt := Lib.hid (show ((ks.take i).filter G).length ≤ 1048576 from Nat.le_trans (List.length_filter_le _ _) (by rw [List.length_take]; omega))
      subst hAk
      clear Fi Ri hi hlive
      by_cases hs : G (ks.getD i 0) = true
      · rw [if_pos hs] at HHk
        have HS2 := Lib.hid (show (ks.take (i + 1)).filter G = (ks.take i).filter G ++ [ks.getD i 0] by rw [HSuc.out, if_pos hs])
        clear hs
        generalize ks.getD i 0 = k at *
        go_wp2_with fail
        go_at_call 54
        refine HHk.out.mono ?_
        rintro e w3 ⟨a, b, c, d, col, z, dn, rfl, F3⟩
        have HF3 := Lib.hid (HFi.out.trans F3)
        have HR3 := Lib.hid (HRi.out.keep F3 (.inr rfl))
        clear F3
        go_wp2_with (at_builtin; refine wpList_append_new _ rfl _ _ _ rfl Tryz.underlying38 (w0 := w2) (o0 := o) (own := o) (lo := 0) (hi := 0) (by repeat (first | exact HF3.out | refine Fr.drew ?_ | refine Fr.alloc ?_ _)) rfl (HR3.out.keep (lo := 0) (hi := 0) (by repeat (first | exact Fr.refl HF3.out.fresh | refine Fr.drew ?_ | refine Fr.alloc ?_ _)) (.inr rfl)) rfl (RdS.one _ .i64 _ k (by simp)) (by have := HLt.out; omega) ?_; intro v4 w4 F4 R4 G4; have HF4 := Lib.hid F4; have HR4 := Lib.hid R4; clear F4 R4 G4)
        rw [← HS2.out] at HR4
        exact ⟨⟨i + 1, by omega, by go_num, HF4.out, HR4.out⟩, by simp [intOf]; omega⟩
      · rw [if_neg hs] at HHk
        have HS2 := Lib.hid (show (ks.take (i + 1)).filter G = (ks.take i).filter G by rw [HSuc.out, if_neg hs, List.append_nil])
        clear hs
        generalize ks.getD i 0 = k at *
        go_wp2_with fail
        go_at_call 54
        refine HHk.out.mono ?_
        rintro e w3 ⟨a, b, c, d, col, z, dn, rfl, F3⟩
        have HF3 := Lib.hid (HFi.out.trans F3)
        have HR3 := Lib.hid (HRi.out.keep F3 (.inr rfl))
        clear F3
        rw [← HS2.out] at HR3
        go_wp2_with fail
        exact ⟨⟨i + 1, by omega, by go_num, HF3.out.alloc _, HR3.out.keep (lo := 0) (hi := 0) ((Fr.refl HF3.out.fresh).alloc _) (.inr rfl)⟩, by simp [intOf]; omega⟩
    · have hin' : ¬ (i : Int) < ((ks.length : Nat) : Int) := by omega
      obtain rfl : i = ks.length := by omega
      have HFi := Lib.hid (HF2.out.trans Fi)
      have HRi := Lib.hid (show RowNew w o wr _ (ks.filter G) from ⟨by have := Ri.row; rw [List.take_length] at this; exact this, fun g hg => Nat.le_trans HF2.out.size (Ri.new g hg)⟩)
      have HSL := Lib.hid (show SetL (fun k => liveB A k && G k) (ks.filter G) from ⟨HKK.out.sorted.filter _, fun k => by
        rw [List.mem_filter, HKK.out.mem k, Bool.and_eq_true]⟩)
      clear Fi Ri hi hin
      go_wp2_with fail
      go_ret
      exact ⟨_, _, rfl, HSL.out, HFi.out, HRi.out⟩
/-- Is there an object? -/
def isOb (ob : Int → Option Ob) (k : Int) : Bool := (ob k).isSome
theorem oall {o : Own} {r p : Nat} {L : Al} {ob : Int → Option Ob} (w : World) (ho : Owned o w) (S : SpaceRep o w r p L ob) :
    Calls Tryz.prog 58 #[.pointer (some ⟨p, 0, none⟩)] w (SetPost o w (isOb ob)) := by
  have S0 := S
  obtain ⟨pa, A, S⟩ := S
  have hl : ∀ k, liveB A k = isOb ob k := fun k => by
    unfold liveB isOb
    cases hb : A.bl k with
    | none =>
      cases hx : ob k with
      | none => rfl
      | some x =>
        obtain ⟨a, sz, _, h2, _⟩ := S.ok.loc k x hx
        have h2' : A.bl k = _ := h2
        rw [hb] at h2'; cases h2'
    | some y =>
      by_cases hs : y.state = 1
      · obtain ⟨x, hx⟩ := S.ok.all k y hb hs
        have hx' : ob k = some x := hx
        rw [hx']; simp [hs]
      · cases hx : ob k with
        | none => simp [hs]
        | some x =>
          obtain ⟨a, sz, _, h2, _⟩ := S.ok.loc k x hx
          have h2' : A.bl k = _ := h2
          rw [hb] at h2'; cases h2'
          exact absurd rfl hs
  have := oall_any w ho S.c0 S.ar (fun _ => true) (fun k hk w1 F => by
    rw [hl] at hk
    obtain ⟨x, hx⟩ := Option.isSome_iff_exists.1 (show (ob k).isSome = true from hk)
    refine (ohead_yes k x w1 F.fresh (S0.keep F (.inr (Nat.zero_le _))) hx).mono fun e w' hh => ?_
    obtain ⟨c2, z2, _, h1, h2⟩ := hh
    exact ⟨_, _, _, _, _, _, _, h1, (Fr.refl F.fresh).below h2⟩)
  refine this.mono fun e w' hh => ?_
  obtain ⟨v, xs, h1, h2, h3⟩ := hh
  exact ⟨v, xs, h1, ⟨h2.sorted, fun k => by rw [h2.mem k, hl, Bool.and_true]⟩, h3⟩
end Go.Proofs.YtlpklloagaccoaaGreat
