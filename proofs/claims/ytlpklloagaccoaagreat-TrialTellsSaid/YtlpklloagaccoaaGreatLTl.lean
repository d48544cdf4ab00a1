/- A ring of which some objects are watched: what is known of the engine, calls. Conditions: thirty objects at most. -/
import Derived.Test.YtlpklloagaccoaaGreatLSticks
namespace Go.Proofs.YtlpklloagaccoaaGreat
open Go.RowKit
set_option linter.unusedVariables false

/-- Those that are watched, among the first ones. -/
def wL (B : Nat → Bool) (n : Nat) : List Int := ((List.range n).filter B).map (hI 2)
theorem wL_succ (B : Nat → Bool) (n : Nat) : wL B (n + 1) = wL B n ++ (if B n = true then [hI 2 n] else []) := by
  unfold wL
  rw [List.range_succ, List.filter_append, List.map_append]
  congr 1
  cases h : B n <;> simp [h]
theorem mem_wL {B : Nat → Bool} {n : Nat} {k : Int} : k ∈ wL B n ↔ ∃ j, j < n ∧ B j = true ∧ k = hI 2 j := by
  unfold wL
  rw [List.mem_map]
  constructor
  · rintro ⟨j, h1, h2⟩
    have h3 := List.mem_filter.1 h1
    exact ⟨j, List.mem_range.1 h3.1, h3.2, h2.symm⟩
  · rintro ⟨j, h1, h2, h3⟩; exact ⟨j, List.mem_filter.2 ⟨List.mem_range.2 h1, h2⟩, h3.symm⟩
theorem wL_rise (B : Nat → Bool) (n : Nat) : (wL B n).Pairwise (· < ·) := by
  unfold wL
  rw [List.pairwise_map]
  exact (List.pairwise_lt_range.filter _).imp fun {a b} h => hI_lt (by omega) h
theorem wL_len (B : Nat → Bool) (n : Nat) : (wL B n).length ≤ n := by
  unfold wL
  rw [List.length_map]
  exact Nat.le_trans (List.length_filter_le _ _) (by rw [List.length_range]; exact Nat.le_refl _)
def wF (l : List Int) : Int → Bool := fun k => decide (k ∈ l)
section
variable {S : EngS} {hs : List Int} {lim : Int} {T : Nat} {K : Int → Nat} {F : Int → Nat → Prop} {R : Int → Int → Prop} {W : Int → Bool} {pl : List Int}
theorem RgS.watch (M : RgS S hs lim T K F R W pl) (h : Int) : RgS (watA S h true) hs lim T K F R (updS W h true) pl :=
  ⟨⟨M.G.nodup, M.G.mem, M.G.weak, M.G.st, M.G.cnt, M.G.zero, M.G.pu1, M.G.pu2, M.G.low⟩, M.cl, M.lim, M.obj, M.tot, M.refs, by show updS S.wat h true = _; rw [M.wat], M.pend⟩
theorem RgS.pendA (M : RgS S hs lim T K F R W pl) (l : List Int) : RgS (Go.Proofs.YtlpklloagaccoaaGreat.pendA S l) hs lim T K F R W l :=
  ⟨⟨M.G.nodup, M.G.mem, M.G.weak, M.G.st, M.G.cnt, M.G.zero, M.G.pu1, M.G.pu2, M.G.low⟩, M.cl, M.lim, M.obj, M.tot, M.refs, M.wat, rfl⟩
theorem RgS.tell (M : RgS S hs lim T K F R W pl) (h : Int) : RgS (tellA S h) hs lim T K F R (updS W h false) (pl ++ [h]) :=
  ⟨⟨M.G.nodup, M.G.mem, M.G.weak, M.G.st, M.G.cnt, M.G.zero, M.G.pu1, M.G.pu2, M.G.low⟩, M.cl, M.lim, M.obj, M.tot, M.refs, by show updS S.wat h false = _; rw [M.wat], by show S.pend ++ [h] = _; rw [M.pend]⟩
end
theorem RgS.tells : ∀ (l : List Int) {S : EngS} {hs : List Int} {lim : Int} {T : Nat} {K : Int → Nat} {F : Int → Nat → Prop} {R : Int → Int → Prop} {W : Int → Bool} {pl : List Int}, RgS S hs lim T K F R W pl → RgS (tellsA S l) hs lim T K F R (fun k => W k && !decide (k ∈ l)) (pl ++ l)
  | [], S, hs, lim, T, K, F, R, W, pl, M => by
    have e : (fun k => W k && !decide (k ∈ ([] : List Int))) = W := by funext k; simp
    rw [e, List.append_nil]
    exact M
  | a :: l, S, hs, lim, T, K, F, R, W, pl, M => by
    have h := RgS.tells l (M.tell a)
    have e : (fun k => updS W a false k && !decide (k ∈ l)) = fun k => W k && !decide (k ∈ a :: l) := by
      funext k
      unfold updS
      by_cases e : k = a
      · rw [if_pos e]; simp [e]
      · rw [if_neg e]; simp [e]
    rw [e, List.append_assoc] at h
    exact h
section
variable {S : EngS} {n : Nat} {B : Nat → Bool} {T : Nat} {F : Int → Nat → Prop} {R : Int → Int → Prop}
theorem RgS.toldA (M : RgS S (hL 2 n) 1000 T (fun _ => 2) F R (wF (wL B n)) []) (hr : RingR 2 n R) (hn : n ≤ 30) (hw : wL B n ≠ []) : FuR [] S (tellsA S (wL B n)) [] (wL B n) 1 ∧ RgS (tellsA S (wL B n)) (hL 2 n) 1000 T (fun _ => 2) F R (fun _ => false) (wL B n) := by
  have hg := hL_rng (c := 2) (by omega) (show n ≤ 100 by omega)
  have hri := hL_rise (c := 2) (by omega) n
  have hll : (hL 2 n).length ≤ 100 := by rw [hL_len]; omega
  have O := M.obs hri (fun _ => Iff.rfl) hll (fun k _ => by omega)
  have hsub : ∀ k ∈ wL B n, k ∈ hL 2 n := fun k hk => by
    obtain ⟨j, h1, _, h3⟩ := mem_wL.1 hk
    exact mem_hL.2 ⟨j, h1, h3⟩
  obtain ⟨c, hc⟩ := List.exists_mem_of_ne_nil _ hw
  have hf : (hL 2 n).filter S.wat = wL B n := by
    refine rise_eq (hri.filter _) (wL_rise B n) fun k => ?_
    rw [List.mem_filter, M.wat]
    show (k ∈ hL 2 n ∧ decide (k ∈ wL B n) = true) ↔ _
    rw [decide_eq_true_iff]
    exact ⟨fun h => h.2, fun h => ⟨hsub k h, h⟩⟩
  have hall : ∀ V : Int → Bool, V c = true → (∀ k, V k = true → ∀ y, R k y → V y = true) → ∀ k ∈ hL 2 n, V k = true := fun V h0 hcl => by
    obtain ⟨j, h1, h2⟩ := mem_hL.1 (hsub c hc)
    exact hr.all hcl h1 (by rw [← h2]; exact h0)
  have T1 := tr_told O [] (fun k hk => (hr.ref k hk).elim fun y hy => (M.pu hy).2) (fun k hk => ⟨by unfold keptA; rw [M.pend]; rfl, M.G.outA (sorted_nodup hri) (fun _ => Iff.rfl) hk⟩) (fun V h1 h2 => hall V (h1 c (hsub c hc) (by rw [M.wat]; exact decide_eq_true hc)) fun k hk y hy => h2 k hk y ((M.refs k y).2 hy) (M.cl k y ((M.refs k y).2 hy)))
  rw [hf] at T1
  have M1 := RgS.tells (wL B n) M
  have e : (fun k => wF (wL B n) k && !decide (k ∈ wL B n)) = fun _ => false := by
    funext k
    unfold wF
    cases decide (k ∈ wL B n) <;> rfl
  rw [e, List.nil_append] at M1
  have hwl := wL_len B n
  have X := M.fit (roots := []) (fun k hk => (by cases hk)) (fun k hk => (by cases hk)) hg (by simp)
  have X1 := M1.fit (roots := []) (fun k hk => (by cases hk)) hsub hg (by simp; omega)
  have T2 := M1.held hri hll (fun k _ => by omega) hr.ref [] (fun V h1 h2 => hall V (h1 c (hsub c hc) (by simpa using hc)) h2)
  have FF := FuR.more X (M.idle hr.ref []) X T1 (by have := List.length_pos_of_mem hc; simp; omega) (.stop X1 (M1.idle hr.ref []) X1 T2)
  simp only [List.append_nil, List.nil_append] at FF
  exact ⟨FF, M1⟩
end
/-! ### calls -/
def TlMk (o : Own) (w : World) (p : Nat) (B : Nat → Bool) (i m : Nat) : Prop := RgAt o w p 40 2 i (hL 2 i) 1000 0 (fun _ => 2) (fun _ _ => True) (fun _ _ => False) (wF (wL B m)) []
def TlAt (o : Own) (w : World) (p : Nat) (B : Nat → Bool) (n i : Nat) : Prop := ∃ T F R, RgAt o w p 40 2 n (hL 2 n) 1000 T (fun _ => 2) F R (wF (wL B n)) [] ∧ T ≤ i ∧ (∀ j, i ≤ j → F (hI 2 j) 0) ∧ (∀ j, j < i → R (hI 2 j) (hI 2 ((j + 1) % n)))
/-- Told, and these are still to be taken. -/
def TlTk (o : Own) (w : World) (p n : Nat) (pl : List Int) : Prop := ∃ S T F R, EngRep o w 1 p S ∧ RgS S (hL 2 n) 1000 T (fun _ => 2) F R (fun _ => false) pl ∧ RingR 2 n R
theorem TlMk.keep {lo hi : Nat} {o o' : Own} {w w' : World} {p i m : Nat} {B : Nat → Bool} (h : TlMk o w p B i m) (k : Fr lo hi o o' w w') (hr : 30 ≤ lo ∨ hi ≤ 1) : TlMk o' w' p B i m := RgAt.keep h k hr
theorem TlAt.keep {lo hi : Nat} {o o' : Own} {w w' : World} {p n i : Nat} {B : Nat → Bool} (h : TlAt o w p B n i) (k : Fr lo hi o o' w w') (hr : 30 ≤ lo ∨ hi ≤ 1) : TlAt o' w' p B n i := let ⟨T, F, R, A, C⟩ := h; ⟨T, F, R, A.keep k hr, C⟩
theorem TlTk.keep {lo hi : Nat} {o o' : Own} {w w' : World} {p n : Nat} {pl : List Int} (h : TlTk o w p n pl) (k : Fr lo hi o o' w w') (hr : 30 ≤ lo ∨ hi ≤ 1) : TlTk o' w' p n pl := let ⟨S, T, F, R, E, C⟩ := h; ⟨S, T, F, R, E.keep k (by omega), C⟩
theorem TlMk.skip {o : Own} {w : World} {p i : Nat} {B : Nat → Bool} (h : TlMk o w p B (i + 1) i) (hb : B i = false) : TlMk o w p B (i + 1) (i + 1) := by
  unfold TlMk at *
  rw [wL_succ, if_neg (by rw [hb]; decide), List.append_nil]
  exact h
theorem TlMk.at {o : Own} {w : World} {p n : Nat} {B : Nat → Bool} (h : TlMk o w p B n n) : TlAt o w p B n 0 := ⟨0, _, _, h, by omega, fun j _ => trivial, fun j hj => absurd hj (by omega)⟩
section
variable {o : Own} {p n i : Nat} {B : Nat → Bool}
theorem tl_first {w : World} (E : EngRep o w 1 p (newEng 40 1000)) : TlMk o w p B 0 0 := rg_first E (c := 2) (by omega) (fun _ => 2)
theorem tl_make (w0 w1 : World) (G : Fr 0 0 o o w0 w1) (A : TlMk o w0 p B i i) (hi : i < 30) :
    Calls Tryz.prog 66 #[.pointer (some ⟨p, 0, none⟩), .int .i64 7, .int .i64 2, .int .i64 0] w1 fun e w' => ∃ o', e = .returned (.tuple #[.int .i64 (hI 2 i), .int .i64 0]) ∧ Fr 1 30 o o' w0 w' ∧ TlMk o' w' p B (i + 1) i := by
  refine (rg_make 7 2 7 2 rfl rfl w0 w1 G A (by omega) (by omega) (by omega) (by decide) (by show 2 + i / 8 ≤ 40; omega) rfl).mono fun e w' hh => ?_
  obtain ⟨o', h1, h2, h3⟩ := hh
  refine ⟨o', h1, h2, ?_⟩
  rw [← hL_succ] at h3
  exact h3
theorem tl_watch (w0 w1 : World) (G : Fr 0 0 o o w0 w1) (A : TlMk o w0 p B (i + 1) i) (hb : B i = true) :
    Calls Tryz.prog 76 #[.pointer (some ⟨p, 0, none⟩), .int .i64 (hI 2 i)] w1 fun e w' => ∃ o', e = .returned (.int .i64 0) ∧ Fr 1 30 o o' w0 w' ∧ TlMk o' w' p B (i + 1) (i + 1) := by
  obtain ⟨S, E, M, al⟩ := A
  obtain ⟨y, hy⟩ := (M.G.mem _).1 (mem_hL.2 ⟨i, Nat.lt_succ_self i, rfl⟩)
  refine (rwatch (hI 2 i) y w1 G.fresh (E.keep G (.inr (Nat.zero_le _))) hy).mono fun e w' hh => ?_
  obtain ⟨h1, o', F', E'⟩ := hh
  have M' := M.watch (hI 2 i)
  have e : updS (wF (wL B i)) (hI 2 i) true = wF (wL B (i + 1)) := by
    funext k
    rw [wL_succ, if_pos hb]
    unfold updS wF
    by_cases e : k = hI 2 i
    · rw [if_pos e]; simp [e]
    · rw [if_neg e]; simp [e]
  rw [e] at M'
  exact ⟨o', h1, (G.none 1 30).trans F', _, E', M', al⟩
theorem tl_set {m : Nat} (w0 w1 : World) (G : Fr 0 0 o o w0 w1) (A : TlAt o w0 p B n i) (hi : i < n) (hn : n ≤ 30) (hm : m = (i + 1) % n) :
    Calls Tryz.prog 68 #[.pointer (some ⟨p, 0, none⟩), .int .i64 (hI 2 i), .int .i64 0, .agg #[.int .i64 3, .int .i64 (hI 2 m)]] w1 fun e w' => ∃ o', e = .returned (.int .i64 0) ∧ Fr 1 30 o o' w0 w' ∧ TlAt o' w' p B n (i + 1) := by
  obtain ⟨T, F, R, A, hT, hF, hR⟩ := A
  have hml : m < n := by rw [hm]; exact Nat.mod_lt _ (by omega)
  refine (rg_set 0 0 rfl w0 w1 G A (mem_hL.2 ⟨i, hi, rfl⟩) (by omega) (hF i (Nat.le_refl _)) (mem_hL.2 ⟨m, hml, rfl⟩) (by omega) (hI_in64 (by omega) (by omega))).mono fun e w' hh => ?_
  obtain ⟨o', h1, h2, h3⟩ := hh
  refine ⟨o', h1, h2, _, _, _, h3, by omega, fun j hj => ⟨hF j (by omega), fun e => by have := hI_inj (by omega) e.1; omega⟩, fun j hj => ?_⟩
  by_cases e : j = i
  · subst e; rw [← hm]; exact .inr ⟨rfl, rfl⟩
  · exact .inl (hR j (by omega))
theorem tl_tells (w0 w1 : World) (G : Fr 0 0 o o w0 w1) (A : TlAt o w0 p B n n) (hn : n ≤ 30) (hw : wL B n ≠ []) :
    Calls Tryz.prog 86 #[.pointer (some ⟨p, 0, none⟩), .slice none 0 0] w1 (TrnPost o w0 [] (wL B n) fun o' w' => TlTk o' w' p n (wL B n)) := by
  obtain ⟨T, F, R, ⟨S, E, M, _⟩, _, _, hR⟩ := A
  obtain ⟨D, M'⟩ := M.toldA hR hn hw
  exact (full_run none 0 0 [] w1 G.fresh (E.keep G (.inr (Nat.zero_le _))) (rd_nil _ _) (fun b off h => (by cases h)) D (by have := wL_len B n; simp; omega)).mono fun e w' hh => hh.law G fun o' w' E' => ⟨_, T, F, R, E', M', hR⟩
theorem tl_sweep0 (w0 w1 : World) (G : Fr 0 0 o o w0 w1) (A : TlTk o w0 p n []) (hn1 : 1 ≤ n) (hn : n ≤ 30) :
    Calls Tryz.prog 86 #[.pointer (some ⟨p, 0, none⟩), .slice none 0 0] w1 (TrnPost o w0 (hL 2 n) [] fun o' w' => EmAt o' w' p) := by
  obtain ⟨S, T, F, R, E, M, hR⟩ := A
  have D := M.sweep (hL_rise (by omega) _) (by rw [hL_len]; omega) (fun k _ => by omega) hR.ref (hL_rng (by omega) (by omega)) (by rw [hL_len]; omega)
  exact (full_run none 0 0 [] w1 G.fresh (E.keep G (.inr (Nat.zero_le _))) (rd_nil _ _) (fun b off h => (by cases h)) D (by rw [hL_len]; simp; omega)).mono fun e w' hh => hh.law G fun o' w' E' => ⟨_, E', M.emp⟩
theorem TlAt.tk {w : World} (A : TlAt o w p B n n) (hw : wL B n = []) : TlTk o w p n [] := by
  obtain ⟨T, F, R, ⟨S, E, M, _⟩, _, _, hR⟩ := A
  have e : wF (wL B n) = fun _ => false := by
    funext k
    unfold wF
    rw [hw]; simp
  rw [e] at M
  exact ⟨S, T, F, R, E, M, hR⟩
theorem tl_takes {x : Int} {xs : List Int} (w0 w1 : World) (G : Fr 0 0 o o w0 w1) (A : TlTk o w0 p n (x :: xs)) (hl : xs.length ≤ 100) :
    Calls Tryz.prog 80 #[.pointer (some ⟨p, 0, none⟩)] w1 fun e w' => ∃ o', e = .returned (.tuple #[.int .i64 x, .bool true]) ∧ Fr 1 30 o o' w0 w' ∧ TlTk o' w' p n xs := by
  obtain ⟨S, T, F, R, E, M, hR⟩ := A
  refine (rtake w1 G.fresh (E.keep G (.inr (Nat.zero_le _))) M.pend (by omega)).mono fun e w' hh => ?_
  obtain ⟨h1, o', F', E'⟩ := hh
  exact ⟨o', h1, (G.none 1 30).trans F', _, T, F, R, E', M.pendA xs, hR⟩
end
end Go.Proofs.YtlpklloagaccoaaGreat
