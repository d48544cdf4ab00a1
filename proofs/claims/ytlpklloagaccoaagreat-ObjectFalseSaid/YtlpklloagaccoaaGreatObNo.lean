/- What is no handle: all calls of object tell it. Condition: the space is as one that was made. -/
import Derived.Test.YtlpklloagaccoaaGreatObPut
import Derived.Outline
namespace Go.Proofs.YtlpklloagaccoaaGreat
open Go.RowKit
set_option linter.unusedVariables false

section
variable {o : Own} {r p : Nat} {L : Al} {ob : Int → Option Ob}
set_option maxRecDepth 100000 in
theorem oraw_none (h : Int) (w : World) (ho : Owned o w) (S : SpaceRep o w r p L ob) (hx : ob h = none) :
    Calls Tryz.prog 60 #[.pointer (some ⟨p, 0, none⟩), .int .i64 h] w fun e w' => e = .returned (.tuple #[.slice none 0 0, .int .i64 3]) ∧ Below w.heap.size w w' := by
  have HHd := Lib.hid (ohead_no h w ho S hx)
  clear S hx ho
  go_enter Tryz.func60, Tryz.ntmps60
  go_wp2_with fail
  go_at_call 54
  refine HHd.out.mono ?_
  rintro e w1 ⟨rfl, hb1⟩
  have HB1 := Lib.hid hb1
  clear hb1
  go_wp2_with fail
  go_ret2
  exact ⟨rfl, by first | exact HB1.out.alloc HB1.out.size _ | exact HB1.out⟩
set_option maxRecDepth 100000 in
theorem osetraw_none (h at_ : Int) (w : World) (ho : Owned o w) (S : SpaceRep o w r p L ob) (hx : ob h = none) :
    Calls Tryz.prog 62 #[.pointer (some ⟨p, 0, none⟩), .int .i64 h, .int .i64 at_, .slice none 0 0] w fun e w' => e = .returned (.int .i64 3) ∧ Below w.heap.size w w' := by
  have HHd := Lib.hid (ohead_no h w ho S hx)
  clear S hx ho
  go_enter Tryz.func62, Tryz.ntmps62
  go_wp2_with fail
  go_at_call 54
  refine HHd.out.mono ?_
  rintro e w1 ⟨rfl, hb1⟩
  have HB1 := Lib.hid hb1
  clear hb1
  go_wp2_with fail
  go_ret
  exact ⟨rfl, by first | exact HB1.out.alloc HB1.out.size _ | exact HB1.out⟩
set_option maxRecDepth 100000 in
theorem odrop_none (h : Int) (w : World) (ho : Owned o w) (S : SpaceRep o w r p L ob) (hx : ob h = none) :
    Calls Tryz.prog 63 #[.pointer (some ⟨p, 0, none⟩), .int .i64 h] w fun e w' => e = .returned (.int .i64 3) ∧ Below w.heap.size w w' := by
  have HHd := Lib.hid (ohead_no h w ho S hx)
  clear S hx ho
  go_enter Tryz.func63, Tryz.ntmps63
  go_wp2_with fail
  go_at_call 54
  refine HHd.out.mono ?_
  rintro e w1 ⟨rfl, hb1⟩
  have HB1 := Lib.hid hb1
  clear hb1
  go_wp2_with fail
  go_ret
  exact ⟨rfl, by first | exact HB1.out.alloc HB1.out.size _ | exact HB1.out⟩
set_option maxRecDepth 100000 in
theorem osetcell_none (h i : Int) (q : Nat) (n : Int) (w : World) (ho : Owned o w) (S : SpaceRep o w r p L ob) (hx : ob h = none) :
    Calls Tryz.prog 61 #[.pointer (some ⟨p, 0, none⟩), .int .i64 h, .int .i64 i, valV q n] w fun e w' => e = .returned (.int .i64 3) ∧ Below w.heap.size w w' := by
  have HCl := Lib.hid (fun (x : Obj) (w1 : World) (G : Grew o w x w1) => show Calls Tryz.prog 110 #[.pointer (some ⟨p, 0, none⟩), .int .i64 h, .int .i64 i] w1 fun e w' => e = .returned (.tuple #[.int .i64 0, .int .i64 3]) ∧ Grew o w x w' from
    (ocell_none h i w1 G.fr.fresh (S.keep G.fr (.inr (Nat.zero_le _))) hx).mono fun e w' h => ⟨h.1, G.below h.2⟩)
  have HO := Lib.hid ho
  clear S hx ho
  go_enter Tryz.func61, Tryz.ntmps61
  go_wp2_with fail
  go_at_call 110
  refine (HCl.out (.cells #[.int .i64 (q : Nat), .int .i64 n] 30) _ (by repeat (first | exact Grew.base HO.out _ | refine Grew.drew ?_ | refine Grew.alloc ?_ _))).mono ?_
  rintro e w1 ⟨rfl, G1⟩
  have HB1 := Lib.hid G1.fr.below0
  clear G1
  go_wp2_with fail
  go_ret
  exact ⟨rfl, HB1.out⟩
set_option maxRecDepth 100000 in
theorem osethead_none (h : Int) (k c rr n col : Nat) (z d : Bool) (w : World) (ho : Owned o w) (S : SpaceRep o w r p L ob) (hx : ob h = none) :
    Calls Tryz.prog 64 #[.pointer (some ⟨p, 0, none⟩), .int .i64 h, hdV k c rr n col z d] w fun e w' => e = .returned (.int .i64 3) ∧ Below w.heap.size w w' := by
  have HHd := Lib.hid (fun (x : Obj) (w1 : World) (G : Grew o w x w1) => show Calls Tryz.prog 54 #[.pointer (some ⟨p, 0, none⟩), .int .i64 h] w1 fun e w' => e = .returned (.tuple #[hdV 0 0 0 0 0 false false, .int .i64 3]) ∧ Grew o w x w' from
    (ohead_no h w1 G.fr.fresh (S.keep G.fr (.inr (Nat.zero_le _))) hx).mono fun e w' h => ⟨h.1, G.below h.2⟩)
  have HO := Lib.hid ho
  clear S hx ho
  go_enter Tryz.func64, Tryz.ntmps64
  go_wp2_with fail
  go_at_call 54
  refine (HHd.out (.cells #[.int .i64 (k : Nat), .int .i64 (c : Nat), .int .i64 (rr : Nat), .int .i64 (n : Nat), .int .i64 (col : Nat), .bool z, .bool d] 65) _ (by repeat (first | exact Grew.base HO.out _ | refine Grew.drew ?_ | refine Grew.alloc ?_ _))).mono ?_
  rintro e w1 ⟨rfl, G1⟩
  have HB1 := Lib.hid G1.fr.below0
  clear G1
  go_wp2_with fail
  go_ret
  exact ⟨rfl, by first | exact HB1.out.alloc HB1.out.size _ | exact HB1.out⟩
end
end Go.Proofs.YtlpklloagaccoaaGreat
