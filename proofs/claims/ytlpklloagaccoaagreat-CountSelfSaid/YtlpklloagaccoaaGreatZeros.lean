/- slices.Sorted(maps.Keys(m)) over maps with whole numbers as keys. No condition. A set's numbers, rising (least.List; count.Zeros). Conditions: the set, the engine are as ones that were made. -/
import Derived.Test.YtlpklloagaccoaaGreatShelf
import Derived.Test.YtlpklloagaccoaaGreatSl
import Derived.Test.YtlpklloagaccoaaGreatRoom
import Derived.Outline
namespace Go.Proofs.YtlpklloagaccoaaGreat
open Go.RowKit Go.Shelf Go.Maps Go.Sort
set_option linter.unusedVariables false

/-- A map's keys, rising. -/
structure KeysOf (f : Int → Option Value) (xs : List Int) : Prop where
  sorted : xs.Pairwise (· < ·)
  mem : ∀ k, k ∈ xs ↔ ∃ v, f k = some v
  len : xs.length ≤ 1048576
theorem nodup_lenN : ∀ (n : Nat) (l : List Int), l.Nodup → (∀ x ∈ l, 0 ≤ x ∧ x < (n : Int)) → l.length ≤ n
  | 0, l, _, h => by
    cases l with
    | nil => exact Nat.le_refl _
    | cons x xs => have := h x (by simp); omega
  | n + 1, l, hn, h => by
    have h1 := nodup_lenN n (l.erase (n : Int)) (hn.erase _) (fun x hx => by
      have hx2 := (List.Nodup.mem_erase_iff hn).1 hx
      have := h x hx2.2
      have : x ≠ (n : Int) := hx2.1
      omega)
    have h2 := List.length_erase (a := (n : Int)) (l := l)
    split at h2 <;> omega
def rdU : Value → Option (DataW Unit × List MemPlace) := fun _ => some (.nil, [])
theorem mget_mem {l : List MapEntry} {k : Int} (hk : ∀ x ∈ l, ∃ k : Int, x.key = .int .i64 k ∧ 0 ≤ k ∧ k < KB) : (∃ v, mget l k = some v) ↔ Value.int .i64 k ∈ l.map (·.key) := by
  constructor
  · rintro ⟨v, hv⟩
    unfold mget at hv
    cases hm : mfind l k 0 with
    | none => rw [hm] at hv; cases hv
    | some p =>
      obtain ⟨n, e, _, he, hke, _⟩ := mfind_some (v := p.2) (j := p.1) (by rw [hm])
      have hmem := List.mem_of_getElem? he
      exact List.mem_map.2 ⟨e, hmem, key_of_num (hk e hmem) hke⟩
  · intro h
    obtain ⟨e, he, hke⟩ := List.mem_map.1 h
    unfold mget
    cases hm : mfind l k 0 with
    | none => exact absurd (by rw [hke]; rfl) (mfind_none.1 hm e he)
    | some p => exact ⟨p.2, rfl⟩
theorem insert_perm {H : Type} (x : Lit × DataW H) : ∀ l : List (Lit × DataW H), (DataW.insert x l).Perm (x :: l)
  | [] => List.Perm.refl _
  | y :: r => by
    unfold DataW.insert
    split
    · exact List.Perm.refl _
    · exact ((insert_perm x r).cons y).trans (List.Perm.swap _ _ _)
theorem foldr_insert_perm {H : Type} : ∀ l : List (Lit × DataW H), (l.foldr DataW.insert []).Perm l
  | [] => List.Perm.refl _
  | x :: l => (insert_perm x _).trans ((foldr_insert_perm l).cons x)
theorem wf_key {k : Int} (h0 : 0 ≤ k) (h1 : k < KB) : (Lit.int .i64 k).wf = true := by
  simp only [KB] at h1
  simp [Lit.wf, IntKind.min, IntKind.max, IntKind.signed, IntKind.bits]; omega
theorem rd_ent {x : MapEntry} {k : Int} (hx : x.key = .int .i64 k) (h0 : 0 ≤ k) (h1 : k < KB) : Go.WideElems.rd Tryz.prog 3 rdU x = some (.int .i64 k, .nil) := by
  unfold Go.WideElems.rd rdU
  have : keyOf Tryz.prog 3 x.key = some (.int .i64 k) := by
    rw [hx]
    simp [keyOf, mapKey, Tryz.underlying3, wf_key h0 h1]
  rw [this]; rfl
theorem rg_ent {x : MapEntry} {k : Int} (hx : x.key = .int .i64 k) (h0 : 0 ≤ k) (h1 : k < KB) : Go.WideElems.rg Tryz.prog 3 rdU x = (.int .i64 k, .nil) := by
  unfold Go.WideElems.rg
  rw [rd_ent hx h0 h1]; rfl
def keyNums (es : List MapEntry) : List Int := es.map fun e => keyNum e.key
/-- A map as the shelf has it. -/
theorem MapIs.owns {w : World} {b : Nat} {f : Int → Option Value} (h : MapIs w b f) : ∃ nn D0, w.ownsMap (H := Unit) Tryz.prog 3 rdU b nn D0 ∧ Maps.size D0 ≤ 1048576 ∧ ∀ ss : List Int, ss.Perm (intKeys D0) → KeysOf f (ss.mergeSort fun x y => decide (x ≤ y)) ∧ ss.length ≤ 1048576 := by
  obtain ⟨es, clock, hb, ok, hf⟩ := h
  have hkey : ∀ x ∈ es.toList, ∃ k : Int, x.key = .int .i64 k ∧ 0 ≤ k ∧ k < KB := ok.keys
  have hnk : es.toList.map (·.key) = (keyNums es.toList).map (Value.int .i64) := by
    unfold keyNums
    rw [List.map_map]
    apply List.map_congr_left
    intro x hx
    obtain ⟨k, h1, _⟩ := hkey x hx
    show x.key = .int .i64 (keyNum x.key)
    rw [h1]; rfl
  have hnd : (keyNums es.toList).Nodup := by
    have := ok.stamped.2.2
    rw [hnk] at this
    exact (List.pairwise_map.1 this).imp fun {a b} h e => h (by rw [e])
  have hrng : ∀ x ∈ keyNums es.toList, 0 ≤ x ∧ x < ((1048576 : Nat) : Int) := fun x hx => by
    obtain ⟨e, he, rfl⟩ := List.mem_map.1 hx
    obtain ⟨k, h1, h2, h3⟩ := hkey e he
    simp only [KB] at h3
    rw [h1]
    exact ⟨h2, h3⟩
  have hlen := nodup_lenN 1048576 _ hnd hrng
  have hkl : (keyNums es.toList).length = es.size := by simp [keyNums]
  have hsz : es.size ≤ maxLen := by unfold maxLen; omega
  have hI : (intKeys (H := Unit) (.map ((es.toList.map (Go.WideElems.rg Tryz.prog 3 rdU)).foldr DataW.insert []))).Perm (keyNums es.toList) := by
    have h1 := (foldr_insert_perm (es.toList.map (Go.WideElems.rg Tryz.prog 3 rdU))).map fun p => Go.intOf p.1
    refine h1.trans ?_
    rw [List.map_map]
    refine List.Perm.of_eq (List.map_congr_left fun x hx => ?_)
    obtain ⟨k, g1, g2, g3⟩ := hkey x hx
    rw [Function.comp_apply, rg_ent g1 g2 g3, g1]; rfl
  refine ⟨es.size, _, ⟨es, clock, hb, ⟨hsz, ok.stamped, fun x hx => ?_⟩, Nat.le_refl _, rfl⟩, ?_, fun ss hss => ⟨⟨?_, fun k => ?_, ?_⟩, ?_⟩⟩
  · obtain ⟨k, g1, g2, g3⟩ := hkey x hx
    exact ⟨_, rd_ent g1 g2 g3⟩
  · rw [Maps.size_eq, (foldr_insert_perm _).length_eq, List.length_map]
    simp; omega
  · have hp := hss.trans hI
    have tr : ∀ a b c : Int, decide (a ≤ b) = true → decide (b ≤ c) = true → decide (a ≤ c) = true := fun a b c h1 h2 => by simp only [decide_eq_true_eq] at *; omega
    have to : ∀ a b : Int, (decide (a ≤ b) || decide (b ≤ a)) = true := fun a b => by simp only [Bool.or_eq_true, decide_eq_true_eq]; omega
    have h1 := List.pairwise_mergeSort tr to ss
    have h2 : (ss.mergeSort fun x y => decide (x ≤ y)).Nodup := (((List.mergeSort_perm ss _).trans hp).nodup_iff).2 hnd
    refine (List.Pairwise.and h1 h2).imp fun {a b} h => ?_
    have := of_decide_eq_true h.1
    have := h.2
    omega
  · have hp := (List.mergeSort_perm ss fun x y => decide (x ≤ y)).trans (hss.trans hI)
    rw [hp.mem_iff, ← hf k, mget_mem hkey, hnk]
    constructor
    · intro h; exact List.mem_map.2 ⟨k, h, rfl⟩
    · intro h
      obtain ⟨x, hx, e⟩ := List.mem_map.1 h
      cases e; exact hx
  · rw [List.length_mergeSort, (hss.trans hI).length_eq]; exact hlen
  · rw [(hss.trans hI).length_eq]; exact hlen
/-- slices.Sort's two contracts. -/
theorem sortsI (m : Nat) : AnyZI.SortsIn Tryz.prog sortedI_ren Fence.wide m :=
  ⟨fun blk off cap ss W hH hblk hsz => callsIn_wide.2 (AnyM.slices_Sort_int sortI blk off cap ss W hH hblk hsz),
   fun p cap W => callsIn_wide.2 (AnyM.slices_Sort_int_none sortI p cap W)⟩
/-- What slices.Sorted gives of a map's keys. -/
def SortedPost (o : Own) (w : World) (f : Int → Option Value) (e : Ending) (w' : World) : Prop := ∃ v xs, e = .returned v ∧ KeysOf f xs ∧ Fr 0 0 o o w w' ∧ RowNew w o w' v xs
theorem sorted_post {o : Own} {w w' : World} {f : Int → Option Value} {v : Value} {n : Nat} {xs : List Int} {x : Obj} (ho : Owned o w) (hK : KeysOf f xs) (hrow : w'.ownsRow (w.alloc x).heap.size 3 1 v n (xs.map encZ)) (hl : xs.length = n) (hb : Below (w.alloc x).heap.size (w.alloc x) w') : SortedPost o w f (.returned v) w' := by
  have F : Fr 0 0 o o w w' := ((Fr.refl ho).alloc x).below hb
  subst hl
  refine ⟨v, xs, rfl, hK, F, ⟨⟨?_, fun g hg => ?_⟩, fun g hg => ?_⟩⟩
  · obtain ⟨h1, h2⟩ := hrow
    refine ⟨h1, ?_⟩
    rcases h2 with h2 | ⟨g, cap, cur, hv, _, h3⟩
    · exact .inl h2
    · exact .inr ⟨g, cap, cur, hv, Nat.zero_le _, h3⟩
  all_goals
    rcases hrow.2 with ⟨rfl, _⟩ | ⟨g', cap, cur, rfl, hge, hblk, _⟩
    · cases hg
    · simp only [Value.ownBlock, Option.some.injEq] at hg
      subst hg
      have hge' : w.heap.size ≤ g' := Nat.le_trans (by simp) hge
      first
      | exact hge'
      | exact ho _ hge'
theorem keysB_call (b : Nat) (w : World) : Calls Tryz.prog 127 #[.map (some b)] w fun e w' => e = .returned (.func (.func 180) #[] #[.pointer (some ⟨w.heap.size, 0, none⟩)]) ∧ w' = w.alloc (.cells #[.map (some b)] 100) :=
  (callsIn_wide (n := 5)).1 (AnyZI.keys_in keysB Fence.wide 5 trivial rfl (some b) w)
set_option maxHeartbeats 1000000 in
theorem sortedB_call {o : Own} {w : World} {b : Nat} {f : Int → Option Value} (ho : Owned o w) (h : MapIs w b f) :
    Calls Tryz.prog 126 #[.func (.func 180) #[] #[.pointer (some ⟨w.heap.size, 0, none⟩)]] (w.alloc (.cells #[.map (some b)] 100)) (SortedPost o w f) := by
  obtain ⟨nn, D0, hown, hsz, hK⟩ := h.owns
  have hbl := hown.lt
  have hseq : SeqGives Fence.wide 2 Tryz.prog 180 #[.pointer (some ⟨w.heap.size, 0, none⟩)] encZ (fun ss => ss.Perm (intKeys D0)) (Maps.size D0) (w.alloc (.cells #[.map (some b)] 100)) :=
    AnyZI.keys_gives (ρ := keysB_ren) { keysB with } Fence.wide _ trivial rfl (by omega) w.heap.size b nn D0 _ (by simp) (by simp) (by
      obtain ⟨es, clock, hb, Ft, hs, hD⟩ := hown
      exact ⟨es, clock, (Below.heap_alloc _ _ b hbl).trans hb, Ft, hs, hD⟩)
  have cS := AnyZI.sorted_in sortedI Fence.wide 5 trivial trivial trivial trivial rfl (by omega) (sortsI _) (enters_of Tryz.func179 (by kernel_rfl) rfl) 180 #[.pointer (some ⟨w.heap.size, 0, none⟩)] trivial (enters_of Tryz.func180 (by kernel_rfl) rfl) _ _ (by unfold maxLen; omega) (by omega) _ hseq
  refine ((callsIn_wide (n := 5)).1 cS).mono ?_
  rintro e w' ⟨v, ss, rfl, hS, hrow, _, hb⟩
  exact sorted_post ho (hK ss hS).1 hrow (List.length_mergeSort ss) hb
theorem keysP_call (b : Nat) (w : World) : Calls Tryz.prog 198 #[.map (some b)] w fun e w' => e = .returned (.func (.func 214) #[] #[.pointer (some ⟨w.heap.size, 0, none⟩)]) ∧ w' = w.alloc (.cells #[.map (some b)] 117) :=
  (callsIn_wide (n := 5)).1 (AnyZI.keys_in keysP Fence.wide 5 trivial rfl (some b) w)
set_option maxHeartbeats 1000000 in
theorem sortedP_call {o : Own} {w : World} {b : Nat} {f : Int → Option Value} (ho : Owned o w) (h : MapIs w b f) :
    Calls Tryz.prog 126 #[.func (.func 214) #[] #[.pointer (some ⟨w.heap.size, 0, none⟩)]] (w.alloc (.cells #[.map (some b)] 117)) (SortedPost o w f) := by
  obtain ⟨nn, D0, hown, hsz, hK⟩ := h.owns
  have hbl := hown.lt
  have hseq : SeqGives Fence.wide 2 Tryz.prog 214 #[.pointer (some ⟨w.heap.size, 0, none⟩)] encZ (fun ss => ss.Perm (intKeys D0)) (Maps.size D0) (w.alloc (.cells #[.map (some b)] 117)) :=
    AnyZI.keys_gives (ρ := keysP_ren) { keysP with } Fence.wide _ trivial rfl (by omega) w.heap.size b nn D0 _ (by simp) (by simp) (by
      obtain ⟨es, clock, hb, Ft, hs, hD⟩ := hown
      exact ⟨es, clock, (Below.heap_alloc _ _ b hbl).trans hb, Ft, hs, hD⟩)
  have cS := AnyZI.sorted_in sortedI Fence.wide 5 trivial trivial trivial trivial rfl (by omega) (sortsI _) (enters_of Tryz.func179 (by kernel_rfl) rfl) 214 #[.pointer (some ⟨w.heap.size, 0, none⟩)] trivial (enters_of Tryz.func214 (by kernel_rfl) rfl) _ _ (by unfold maxLen; omega) (by omega) _ hseq
  refine ((callsIn_wide (n := 5)).1 cS).mono ?_
  rintro e w' ⟨v, ss, rfl, hS, hrow, _, hb⟩
  exact sorted_post ho (hK ss hS).1 hrow (List.length_mergeSort ss) hb
theorem keysI_call (b : Nat) (w : World) : Calls Tryz.prog 186 #[.map (some b)] w fun e w' => e = .returned (.func (.func 206) #[] #[.pointer (some ⟨w.heap.size, 0, none⟩)]) ∧ w' = w.alloc (.cells #[.map (some b)] 148) :=
  (callsIn_wide (n := 5)).1 (AnyZI.keys_in keysI Fence.wide 5 trivial rfl (some b) w)
set_option maxHeartbeats 1000000 in
theorem sortedI_call {o : Own} {w : World} {b : Nat} {f : Int → Option Value} (ho : Owned o w) (h : MapIs w b f) :
    Calls Tryz.prog 126 #[.func (.func 206) #[] #[.pointer (some ⟨w.heap.size, 0, none⟩)]] (w.alloc (.cells #[.map (some b)] 148)) (SortedPost o w f) := by
  obtain ⟨nn, D0, hown, hsz, hK⟩ := h.owns
  have hbl := hown.lt
  have hseq : SeqGives Fence.wide 2 Tryz.prog 206 #[.pointer (some ⟨w.heap.size, 0, none⟩)] encZ (fun ss => ss.Perm (intKeys D0)) (Maps.size D0) (w.alloc (.cells #[.map (some b)] 148)) :=
    AnyZI.keys_gives (ρ := keysI_ren) { keysI with } Fence.wide _ trivial rfl (by omega) w.heap.size b nn D0 _ (by simp) (by simp) (by
      obtain ⟨es, clock, hb, Ft, hs, hD⟩ := hown
      exact ⟨es, clock, (Below.heap_alloc _ _ b hbl).trans hb, Ft, hs, hD⟩)
  have cS := AnyZI.sorted_in sortedI Fence.wide 5 trivial trivial trivial trivial rfl (by omega) (sortsI _) (enters_of Tryz.func179 (by kernel_rfl) rfl) 206 #[.pointer (some ⟨w.heap.size, 0, none⟩)] trivial (enters_of Tryz.func206 (by kernel_rfl) rfl) _ _ (by unfold maxLen; omega) (by omega) _ hseq
  refine ((callsIn_wide (n := 5)).1 cS).mono ?_
  rintro e w' ⟨v, ss, rfl, hS, hrow, _, hb⟩
  exact sorted_post ho (hK ss hS).1 hrow (List.length_mergeSort ss) hb
end Go.Proofs.YtlpklloagaccoaaGreat
namespace Go.Proofs.YtlpklloagaccoaaGreat
open Go.RowKit
set_option linter.unusedVariables false

/-- A set as a rising list. -/
structure SetL (S : Int → Bool) (xs : List Int) : Prop where
  sorted : xs.Pairwise (· < ·)
  mem : ∀ k, k ∈ xs ↔ S k = true
def SetPost (o : Own) (w : World) (S : Int → Bool) (e : Ending) (w' : World) : Prop := ∃ v xs, e = .returned v ∧ SetL S xs ∧ Fr 0 0 o o w w' ∧ RowNew w o w' v xs
theorem filter_take_succ (S : Int → Bool) (ks : List Int) {i : Nat} (hi : i < ks.length) : (ks.take (i + 1)).filter S = (ks.take i).filter S ++ (if S (ks.getD i 0) = true then [ks.getD i 0] else []) := by
  rw [List.take_succ_eq_append_getElem hi, List.filter_append]
  have : ks.getD i 0 = ks[i] := by simp [List.getD, hi]
  rw [this]
  by_cases h : S ks[i] = true
  · rw [if_pos h]; simp [h]
  · rw [if_neg h]; simp [h]
set_option maxRecDepth 100000 in
set_option maxHeartbeats 1000000 in
theorem least_list {o : Own} {r p : Nat} {S : Int → Bool} (w : World) (ho : Owned o w) (L : LeastRep o w r p S) :
    Calls Tryz.prog 120 #[.pointer (some ⟨p, 0, none⟩)] w (SetPost o w S) := by
  obtain ⟨v, xs, b, f, L⟩ := L
  have c1 : w.cell? ⟨p, 1, none⟩ = some (.map (some b)) := L.blk.cell 1
  have hpl := L.blk.lt
  have HK := Lib.hid (fun (w1 : World) => keysB_call b w1)
  have HS := Lib.hid (sortedB_call ho L.map.2)
  have HP := Lib.hid (fun (w1 : World) (F : Fr 0 0 o o w w1) => show w1.cell? ⟨p, 1, none⟩ = some (.map (some b)) ∧ p < w1.heap.size from ⟨F.cell0 c1, Nat.lt_of_lt_of_le hpl F.size⟩)
  have HLk := Lib.hid (fun (w1 : World) (F : Fr 0 0 o o w w1) (k : Int) => show (Instr.lookup 100 (.map (some b)) (.int .i64 k) false).run Tryz.prog w1 = .ok (.bool (S k)) w1 from by
    have := MapIs.lookup (L.map.keep F (.inr (Nat.zero_le _))).2 Tryz.underlying100 Tryz.underlying3 zero_boolL false k
    rw [this]
    simp only [Bool.false_eq_true, if_false]
    rw [L.is k])
  have HI := Lib.hid (show ∀ k, (∃ v, f k = some v) ↔ ((f k).isSome = true) from fun k => by rw [Option.isSome_iff_exists])
  have HIS := Lib.hid L.is
  have HO := Lib.hid ho
  clear L ho
  go_enter Tryz.func120, Tryz.ntmps120
  go_wp2_with fail
  go_at_call 127
  refine (HK.out _).mono ?_
  rintro e w1 ⟨rfl, rfl⟩
  go_wp2_with fail
  go_at_call 126
  refine HS.out.mono ?_
  rintro e w2 ⟨vk, ks, rfl, hK, F2, R2⟩
  have HKK := Lib.hid hK
  have HF2 := Lib.hid F2
  obtain ⟨Ak, capk, hvk, hRk⟩ := R2.row.rd
  have HRk := Lib.hid hRk
  have HKL := Lib.hid hK.len
  subst hvk
  clear hK F2 R2 hRk
  go_wp2_with fail
  go_loopw [3, 13] (fun vv iv wr => ∃ i : Nat, i ≤ ks.length ∧ iv = .int .i64 i ∧ Fr 0 0 o o w2 wr ∧ RowNew w2 o wr vv ((ks.take i).filter S)) (fun _ iv _ => ks.length - (intOf iv).toNat)
  case atStart => exact ⟨0, by omega, rfl, Fr.refl HF2.out.fresh, RowNew.nil _ _ _⟩
  case round =>
    obtain ⟨i, hi, rfl, Fi, Ri⟩ := hrel
    by_cases hin : i < ks.length
    · have hin' : (i : Int) < ((ks.length : Nat) : Int) := by omega
      have hkl : ((ks.length : Nat) : Int) ≤ 1048576 := by have := HKL.out; omega
      obtain ⟨bk, fk, hAk, hbk, hck⟩ := (HRk.out.keep (w' := wr) fun g hg => Fi.block g hg (.inr (Nat.zero_le _))).at_ hin
      have hbk' : bk < wr.heap.size := Nat.lt_of_lt_of_le hbk Fi.size
      obtain ⟨c0, hpl'⟩ := HP.out wr (HF2.out.trans Fi)
      have hlk := HLk.out wr (HF2.out.trans Fi) (ks.getD i 0)
      have HSuc := Lib.hid (filter_take_succ S ks hin)
      have HFi := Lib.hid Fi
      have HRi := Lib.hid Ri
      have hlt : (ks.take i).length ≤ 1048576 := by rw [List.length_take]; have := HKL.out; omega
      have HLt := Lib.hid (Nat.le_trans (List.length_filter_le S (ks.take i)) hlt)
      subst hAk
      clear Fi Ri hi hlt
      by_cases hs : S (ks.getD i 0) = true
      · rw [hs] at hlk
        have HS2 := Lib.hid (show (ks.take (i + 1)).filter S = (ks.take i).filter S ++ [ks.getD i 0] by rw [HSuc.out, if_pos hs])
        clear hs
        generalize ks.getD i 0 = k at *
        go_wp2_with (at_builtin; refine wpList_append_new _ rfl _ _ _ rfl Tryz.underlying38 (w0 := w2) (o0 := o) (own := o) (lo := 0) (hi := 0) (by repeat (first | exact HFi.out | refine Fr.drew ?_ | refine Fr.alloc ?_ _)) rfl (HRi.out.keep (lo := 0) (hi := 0) (by repeat (first | exact Fr.refl HFi.out.fresh | refine Fr.drew ?_ | refine Fr.alloc ?_ _)) (.inr rfl)) rfl (RdS.one _ .i64 _ k (by simp)) (by have := HLt.out; omega) ?_; intro v3 w3 F3 R3 G3; have HF3 := Lib.hid F3; have HR3 := Lib.hid R3; clear F3 R3 G3)
        rw [← HS2.out] at HR3
        exact ⟨⟨i + 1, by omega, by go_num, HF3.out, HR3.out⟩, by simp [intOf]; omega⟩
      · have hs' : S (ks.getD i 0) = false := by simpa using hs
        rw [hs'] at hlk
        have HS2 := Lib.hid (show (ks.take (i + 1)).filter S = (ks.take i).filter S by rw [HSuc.out, if_neg hs, List.append_nil])
        clear hs hs'
        generalize ks.getD i 0 = k at *
        go_wp2_with fail
        have HR3 := HRi.out
        rw [← HS2.out] at HR3
        exact ⟨⟨i + 1, by omega, by go_num, HFi.out, HR3⟩, by simp [intOf]; omega⟩
    · have hin' : ¬ (i : Int) < ((ks.length : Nat) : Int) := by omega
      obtain rfl : i = ks.length := by omega
      have HFi := Lib.hid (HF2.out.trans Fi)
      have HRi := Lib.hid (show RowNew w o wr _ (ks.filter S) from ⟨by have := Ri.row; rw [List.take_length] at this; exact this, fun g hg => Nat.le_trans HF2.out.size (Ri.new g hg)⟩)
      have HSL := Lib.hid (show SetL S (ks.filter S) from ⟨HKK.out.sorted.filter _, fun k => by
        rw [List.mem_filter, HKK.out.mem k, HI.out k]
        constructor
        · exact fun h => h.2
        · intro h
          refine ⟨?_, h⟩
          have := HIS.out k
          rw [h] at this
          cases hf : f k with
          | none => rw [hf] at this; cases this
          | some v => rfl⟩)
      clear Fi Ri hi hin
      go_wp2_with fail
      go_ret
      exact ⟨_, _, rfl, HSL.out, HFi.out, HRi.out⟩
set_option maxRecDepth 100000 in
theorem rzeros {o : Own} {r p : Nat} {S : EngS} (w : World) (ho : Owned o w) (E : EngRep o w r p S) :
    Calls Tryz.prog 69 #[.pointer (some ⟨p, 0, none⟩)] w (SetPost o w S.Z) := by
  obtain ⟨ps, pt, pz, pp, bw, bk, v, K, E, A⟩ := E
  have HL := Lib.hid (show Calls Tryz.prog 120 #[.pointer (some ⟨pz, 0, none⟩)] w (SetPost o w S.Z) from by rw [A.Z]; exact least_list w ho E.zeros)
  have c2 := E.c2
  clear E A ho
  go_enter Tryz.func69, Tryz.ntmps69
  go_wp2_with fail
  go_at_call 120
  refine HL.out.mono ?_
  rintro e w1 ⟨v, xs, rfl, h1, h2, h3⟩
  have H := Lib.hid (And.intro h1 (And.intro h2 h3))
  clear h1 h2 h3
  go_wp2_with fail
  go_ret
  exact ⟨v, xs, rfl, H.out.1, H.out.2.1, H.out.2.2⟩
end Go.Proofs.YtlpklloagaccoaaGreat
