/- slices.Sorted(maps.Keys(m)) over maps with whole numbers as keys. No condition. -/
import Derived.Test.YtlpklloagaccoaaGreatShelf
import Derived.Test.YtlpklloagaccoaaGreatSl
namespace Go.Proofs.YtlpklloagaccoaaGreat
open Go.RowKit Go.Shelf Go.Maps Go.Sort
set_option linter.unusedVariables false

/-- A map's keys, rising. -/
structure KeysOf (f : Int → Option Value) (xs : List Int) : Prop where
  sorted : xs.Pairwise (· < ·)
  mem : ∀ k, k ∈ xs ↔ ∃ v, f k = some v
  len : xs.length ≤ 1048576
theorem nodup_lenN : ∀ (n : Nat) (l : List Int), l.Nodup → (∀ x ∈ l, 0 ≤ x ∧ x < (n : Int)) → l.length ≤ n
  | 0, l, _, h => by
    cases l with
    | nil => exact Nat.le_refl _
    | cons x xs => have := h x (by simp); omega
  | n + 1, l, hn, h => by
    have h1 := nodup_lenN n (l.erase (n : Int)) (hn.erase _) (fun x hx => by
      have hx2 := (List.Nodup.mem_erase_iff hn).1 hx
      have := h x hx2.2
      have : x ≠ (n : Int) := hx2.1
      omega)
    have h2 := List.length_erase (a := (n : Int)) (l := l)
    split at h2 <;> omega
def rdU : Value → Option (DataW Unit × List MemPlace) := fun _ => some (.nil, [])
theorem mget_mem {l : List MapEntry} {k : Int} (hk : ∀ x ∈ l, ∃ k : Int, x.key = .int .i64 k ∧ 0 ≤ k ∧ k < KB) : (∃ v, mget l k = some v) ↔ Value.int .i64 k ∈ l.map (·.key) := by
  constructor
  · rintro ⟨v, hv⟩
    unfold mget at hv
    cases hm : mfind l k 0 with
    | none => rw [hm] at hv; cases hv
    | some p =>
      obtain ⟨n, e, _, he, hke, _⟩ := mfind_some (v := p.2) (j := p.1) (by rw [hm])
      have hmem := List.mem_of_getElem? he
      exact List.mem_map.2 ⟨e, hmem, key_of_num (hk e hmem) hke⟩
  · intro h
    obtain ⟨e, he, hke⟩ := List.mem_map.1 h
    unfold mget
    cases hm : mfind l k 0 with
    | none => exact absurd (by rw [hke]; rfl) (mfind_none.1 hm e he)
    | some p => exact ⟨p.2, rfl⟩
theorem insert_perm {H : Type} (x : Lit × DataW H) : ∀ l : List (Lit × DataW H), (DataW.insert x l).Perm (x :: l)
  | [] => List.Perm.refl _
  | y :: r => by
    unfold DataW.insert
    split
    · exact List.Perm.refl _
    · exact ((insert_perm x r).cons y).trans (List.Perm.swap _ _ _)
theorem foldr_insert_perm {H : Type} : ∀ l : List (Lit × DataW H), (l.foldr DataW.insert []).Perm l
  | [] => List.Perm.refl _
  | x :: l => (insert_perm x _).trans ((foldr_insert_perm l).cons x)
theorem wf_key {k : Int} (h0 : 0 ≤ k) (h1 : k < KB) : (Lit.int .i64 k).wf = true := by
  simp only [KB] at h1
  simp [Lit.wf, IntKind.min, IntKind.max, IntKind.signed, IntKind.bits]; omega
theorem rd_ent {x : MapEntry} {k : Int} (hx : x.key = .int .i64 k) (h0 : 0 ≤ k) (h1 : k < KB) : Go.WideElems.rd Tryz.prog 3 rdU x = some (.int .i64 k, .nil) := by
  unfold Go.WideElems.rd rdU
  have : keyOf Tryz.prog 3 x.key = some (.int .i64 k) := by
    rw [hx]
    simp [keyOf, mapKey, Tryz.underlying3, wf_key h0 h1]
  rw [this]; rfl
theorem rg_ent {x : MapEntry} {k : Int} (hx : x.key = .int .i64 k) (h0 : 0 ≤ k) (h1 : k < KB) : Go.WideElems.rg Tryz.prog 3 rdU x = (.int .i64 k, .nil) := by
  unfold Go.WideElems.rg
  rw [rd_ent hx h0 h1]; rfl
def keyNums (es : List MapEntry) : List Int := es.map fun e => keyNum e.key
/-- A map as the shelf has it. -/
theorem MapIs.owns {w : World} {b : Nat} {f : Int → Option Value} (h : MapIs w b f) : ∃ nn D0, w.ownsMap (H := Unit) Tryz.prog 3 rdU b nn D0 ∧ Maps.size D0 ≤ 1048576 ∧ ∀ ss : List Int, ss.Perm (intKeys D0) → KeysOf f (ss.mergeSort fun x y => decide (x ≤ y)) ∧ ss.length ≤ 1048576 := by
  obtain ⟨es, clock, hb, ok, hf⟩ := h
  have hkey : ∀ x ∈ es.toList, ∃ k : Int, x.key = .int .i64 k ∧ 0 ≤ k ∧ k < KB := ok.keys
  have hnk : es.toList.map (·.key) = (keyNums es.toList).map (Value.int .i64) := by
    unfold keyNums
    rw [List.map_map]
    apply List.map_congr_left
    intro x hx
    obtain ⟨k, h1, _⟩ := hkey x hx
    show x.key = .int .i64 (keyNum x.key)
    rw [h1]; rfl
  have hnd : (keyNums es.toList).Nodup := by
    have := ok.stamped.2.2
    rw [hnk] at this
    exact (List.pairwise_map.1 this).imp fun {a b} h e => h (by rw [e])
  have hrng : ∀ x ∈ keyNums es.toList, 0 ≤ x ∧ x < ((1048576 : Nat) : Int) := fun x hx => by
    obtain ⟨e, he, rfl⟩ := List.mem_map.1 hx
    obtain ⟨k, h1, h2, h3⟩ := hkey e he
    simp only [KB] at h3
    rw [h1]
    exact ⟨h2, h3⟩
  have hlen := nodup_lenN 1048576 _ hnd hrng
  have hkl : (keyNums es.toList).length = es.size := by simp [keyNums]
  have hsz : es.size ≤ maxLen := by unfold maxLen; omega
  have hI : (intKeys (H := Unit) (.map ((es.toList.map (Go.WideElems.rg Tryz.prog 3 rdU)).foldr DataW.insert []))).Perm (keyNums es.toList) := by
    have h1 := (foldr_insert_perm (es.toList.map (Go.WideElems.rg Tryz.prog 3 rdU))).map fun p => Go.intOf p.1
    refine h1.trans ?_
    rw [List.map_map]
    refine List.Perm.of_eq (List.map_congr_left fun x hx => ?_)
    obtain ⟨k, g1, g2, g3⟩ := hkey x hx
    rw [Function.comp_apply, rg_ent g1 g2 g3, g1]; rfl
  refine ⟨es.size, _, ⟨es, clock, hb, ⟨hsz, ok.stamped, fun x hx => ?_⟩, Nat.le_refl _, rfl⟩, ?_, fun ss hss => ⟨⟨?_, fun k => ?_, ?_⟩, ?_⟩⟩
  · obtain ⟨k, g1, g2, g3⟩ := hkey x hx
    exact ⟨_, rd_ent g1 g2 g3⟩
  · rw [Maps.size_eq, (foldr_insert_perm _).length_eq, List.length_map]
    simp; omega
  · have hp := hss.trans hI
    have tr : ∀ a b c : Int, decide (a ≤ b) = true → decide (b ≤ c) = true → decide (a ≤ c) = true := fun a b c h1 h2 => by simp only [decide_eq_true_eq] at *; omega
    have to : ∀ a b : Int, (decide (a ≤ b) || decide (b ≤ a)) = true := fun a b => by simp only [Bool.or_eq_true, decide_eq_true_eq]; omega
    have h1 := List.pairwise_mergeSort tr to ss
    have h2 : (ss.mergeSort fun x y => decide (x ≤ y)).Nodup := (((List.mergeSort_perm ss _).trans hp).nodup_iff).2 hnd
    refine (List.Pairwise.and h1 h2).imp fun {a b} h => ?_
    have := of_decide_eq_true h.1
    have := h.2
    omega
  · have hp := (List.mergeSort_perm ss fun x y => decide (x ≤ y)).trans (hss.trans hI)
    rw [hp.mem_iff, ← hf k, mget_mem hkey, hnk]
    constructor
    · intro h; exact List.mem_map.2 ⟨k, h, rfl⟩
    · intro h
      obtain ⟨x, hx, e⟩ := List.mem_map.1 h
      cases e; exact hx
  · rw [List.length_mergeSort, (hss.trans hI).length_eq]; exact hlen
  · rw [(hss.trans hI).length_eq]; exact hlen
/-- slices.Sort's two contracts. -/
theorem sortsI (m : Nat) : AnyZI.SortsIn Tryz.prog sortedI_ren Fence.wide m :=
  ⟨fun blk off cap ss W hH hblk hsz => callsIn_wide.2 (AnyM.slices_Sort_int sortI blk off cap ss W hH hblk hsz),
   fun p cap W => callsIn_wide.2 (AnyM.slices_Sort_int_none sortI p cap W)⟩
/-- What slices.Sorted gives of a map's keys. -/
def SortedPost (o : Own) (w : World) (f : Int → Option Value) (e : Ending) (w' : World) : Prop := ∃ v xs, e = .returned v ∧ KeysOf f xs ∧ Fr 0 0 o o w w' ∧ RowNew w o w' v xs
theorem sorted_post {o : Own} {w w' : World} {f : Int → Option Value} {v : Value} {n : Nat} {xs : List Int} {x : Obj} (ho : Owned o w) (hK : KeysOf f xs) (hrow : w'.ownsRow (w.alloc x).heap.size 3 1 v n (xs.map encZ)) (hl : xs.length = n) (hb : Below (w.alloc x).heap.size (w.alloc x) w') : SortedPost o w f (.returned v) w' := by
  have F : Fr 0 0 o o w w' := ((Fr.refl ho).alloc x).below hb
  subst hl
  refine ⟨v, xs, rfl, hK, F, ⟨⟨?_, fun g hg => ?_⟩, fun g hg => ?_⟩⟩
  · obtain ⟨h1, h2⟩ := hrow
    refine ⟨h1, ?_⟩
    rcases h2 with h2 | ⟨g, cap, cur, hv, _, h3⟩
    · exact .inl h2
    · exact .inr ⟨g, cap, cur, hv, Nat.zero_le _, h3⟩
  all_goals
    rcases hrow.2 with ⟨rfl, _⟩ | ⟨g', cap, cur, rfl, hge, hblk, _⟩
    · cases hg
    · simp only [Value.ownBlock, Option.some.injEq] at hg
      subst hg
      have hge' : w.heap.size ≤ g' := Nat.le_trans (by simp) hge
      first
      | exact hge'
      | exact ho _ hge'
theorem keysB_call (b : Nat) (w : World) : Calls Tryz.prog 127 #[.map (some b)] w fun e w' => e = .returned (.func (.func 180) #[] #[.pointer (some ⟨w.heap.size, 0, none⟩)]) ∧ w' = w.alloc (.cells #[.map (some b)] 100) :=
  (callsIn_wide (n := 5)).1 (AnyZI.keys_in keysB Fence.wide 5 trivial rfl (some b) w)
set_option maxHeartbeats 1000000 in
theorem sortedB_call {o : Own} {w : World} {b : Nat} {f : Int → Option Value} (ho : Owned o w) (h : MapIs w b f) :
    Calls Tryz.prog 126 #[.func (.func 180) #[] #[.pointer (some ⟨w.heap.size, 0, none⟩)]] (w.alloc (.cells #[.map (some b)] 100)) (SortedPost o w f) := by
  obtain ⟨nn, D0, hown, hsz, hK⟩ := h.owns
  have hbl := hown.lt
  have hseq : SeqGives Fence.wide 2 Tryz.prog 180 #[.pointer (some ⟨w.heap.size, 0, none⟩)] encZ (fun ss => ss.Perm (intKeys D0)) (Maps.size D0) (w.alloc (.cells #[.map (some b)] 100)) :=
    AnyZI.keys_gives (ρ := keysB_ren) { keysB with } Fence.wide _ trivial rfl (by omega) w.heap.size b nn D0 _ (by simp) (by simp) (by
      obtain ⟨es, clock, hb, Ft, hs, hD⟩ := hown
      exact ⟨es, clock, (Below.heap_alloc _ _ b hbl).trans hb, Ft, hs, hD⟩)
  have cS := AnyZI.sorted_in sortedI Fence.wide 5 trivial trivial trivial trivial rfl (by omega) (sortsI _) (enters_of Tryz.func179 (by kernel_rfl) rfl) 180 #[.pointer (some ⟨w.heap.size, 0, none⟩)] trivial (enters_of Tryz.func180 (by kernel_rfl) rfl) _ _ (by unfold maxLen; omega) (by omega) _ hseq
  refine ((callsIn_wide (n := 5)).1 cS).mono ?_
  rintro e w' ⟨v, ss, rfl, hS, hrow, _, hb⟩
  exact sorted_post ho (hK ss hS).1 hrow (List.length_mergeSort ss) hb
theorem keysP_call (b : Nat) (w : World) : Calls Tryz.prog 198 #[.map (some b)] w fun e w' => e = .returned (.func (.func 214) #[] #[.pointer (some ⟨w.heap.size, 0, none⟩)]) ∧ w' = w.alloc (.cells #[.map (some b)] 117) :=
  (callsIn_wide (n := 5)).1 (AnyZI.keys_in keysP Fence.wide 5 trivial rfl (some b) w)
set_option maxHeartbeats 1000000 in
theorem sortedP_call {o : Own} {w : World} {b : Nat} {f : Int → Option Value} (ho : Owned o w) (h : MapIs w b f) :
    Calls Tryz.prog 126 #[.func (.func 214) #[] #[.pointer (some ⟨w.heap.size, 0, none⟩)]] (w.alloc (.cells #[.map (some b)] 117)) (SortedPost o w f) := by
  obtain ⟨nn, D0, hown, hsz, hK⟩ := h.owns
  have hbl := hown.lt
  have hseq : SeqGives Fence.wide 2 Tryz.prog 214 #[.pointer (some ⟨w.heap.size, 0, none⟩)] encZ (fun ss => ss.Perm (intKeys D0)) (Maps.size D0) (w.alloc (.cells #[.map (some b)] 117)) :=
    AnyZI.keys_gives (ρ := keysP_ren) { keysP with } Fence.wide _ trivial rfl (by omega) w.heap.size b nn D0 _ (by simp) (by simp) (by
      obtain ⟨es, clock, hb, Ft, hs, hD⟩ := hown
      exact ⟨es, clock, (Below.heap_alloc _ _ b hbl).trans hb, Ft, hs, hD⟩)
  have cS := AnyZI.sorted_in sortedI Fence.wide 5 trivial trivial trivial trivial rfl (by omega) (sortsI _) (enters_of Tryz.func179 (by kernel_rfl) rfl) 214 #[.pointer (some ⟨w.heap.size, 0, none⟩)] trivial (enters_of Tryz.func214 (by kernel_rfl) rfl) _ _ (by unfold maxLen; omega) (by omega) _ hseq
  refine ((callsIn_wide (n := 5)).1 cS).mono ?_
  rintro e w' ⟨v, ss, rfl, hS, hrow, _, hb⟩
  exact sorted_post ho (hK ss hS).1 hrow (List.length_mergeSort ss) hb
theorem keysI_call (b : Nat) (w : World) : Calls Tryz.prog 186 #[.map (some b)] w fun e w' => e = .returned (.func (.func 206) #[] #[.pointer (some ⟨w.heap.size, 0, none⟩)]) ∧ w' = w.alloc (.cells #[.map (some b)] 148) :=
  (callsIn_wide (n := 5)).1 (AnyZI.keys_in keysI Fence.wide 5 trivial rfl (some b) w)
set_option maxHeartbeats 1000000 in
theorem sortedI_call {o : Own} {w : World} {b : Nat} {f : Int → Option Value} (ho : Owned o w) (h : MapIs w b f) :
    Calls Tryz.prog 126 #[.func (.func 206) #[] #[.pointer (some ⟨w.heap.size, 0, none⟩)]] (w.alloc (.cells #[.map (some b)] 148)) (SortedPost o w f) := by
  obtain ⟨nn, D0, hown, hsz, hK⟩ := h.owns
  have hbl := hown.lt
  have hseq : SeqGives Fence.wide 2 Tryz.prog 206 #[.pointer (some ⟨w.heap.size, 0, none⟩)] encZ (fun ss => ss.Perm (intKeys D0)) (Maps.size D0) (w.alloc (.cells #[.map (some b)] 148)) :=
    AnyZI.keys_gives (ρ := keysI_ren) { keysI with } Fence.wide _ trivial rfl (by omega) w.heap.size b nn D0 _ (by simp) (by simp) (by
      obtain ⟨es, clock, hb, Ft, hs, hD⟩ := hown
      exact ⟨es, clock, (Below.heap_alloc _ _ b hbl).trans hb, Ft, hs, hD⟩)
  have cS := AnyZI.sorted_in sortedI Fence.wide 5 trivial trivial trivial trivial rfl (by omega) (sortsI _) (enters_of Tryz.func179 (by kernel_rfl) rfl) 206 #[.pointer (some ⟨w.heap.size, 0, none⟩)] trivial (enters_of Tryz.func206 (by kernel_rfl) rfl) _ _ (by unfold maxLen; omega) (by omega) _ hseq
  refine ((callsIn_wide (n := 5)).1 cS).mono ?_
  rintro e w' ⟨v, ss, rfl, hS, hrow, _, hb⟩
  exact sorted_post ho (hK ss hS).1 hrow (List.length_mergeSort ss) hb
end Go.Proofs.YtlpklloagaccoaaGreat
