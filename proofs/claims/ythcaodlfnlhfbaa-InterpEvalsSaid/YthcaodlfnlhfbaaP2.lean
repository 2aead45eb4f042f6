/- What is to be shown of functions of the program, by their texts (printed by a program of this work; the kernel holds each against the text). -/
import Derived.Test.YthcaodlfnlhfbaaP0
namespace Go.Proofs.YthcaodlfnlhfbaaT
open Go Go.Proofs
set_option linter.unusedVariables false
/- tumbrel/glyph.inside -/
noncomputable def A69 : Ann := mkAnn [(17448, (fun a => [.ex (Bool) fun b => .done ((tb b), [.dead])])), (17640, (fun a => [.ex (Bool) fun b => .done ((tb b), [.dead])]))] [] [] []
noncomputable abbrev B69 : Code := Try.f69.body.getD .skip
set_option maxRecDepth 100000 in
theorem f69 (n : Int) (R : T × List T) (h : ∃ b : Bool, (Rn 70 [(i32 n)] ((tb b), [.dead])) ∧
  (cond b
   (R = ((tb true), [.dead]))
   (∃ b1 : Bool, (Rn 76 [(i32 n)] ((tb b1), [.dead])) ∧
    (cond b1
     (R = ((tb true), [.dead]))
     (R = ((tb (decide ((n : Int) = 95))), [.dead])))))) : Rn 69 [(i32 n)] R := by
  refine fn_rule (ann := A69) (mv := MV) (fz := true) mixed Try.func69 (c := B69) (by kernel_rfl) (by decide) ?_
  all_goals revert h
  all_goals refine via ?_
  all_goals kernel_rfl
/- tumbrel/glyph.Letter -/
noncomputable def A70 : Ann := mkAnn [] [] [] []
noncomputable abbrev B70 : Code := Try.f70.body.getD .skip
set_option maxRecDepth 100000 in
theorem f70 (n : Int) (R : T × List T) (h : cond (decide ((97 : Int) ≤ n))
  (cond (decide ((n : Int) ≤ 122))
   (R = ((tb true), [.dead]))
   (cond (decide ((65 : Int) ≤ n))
    (cond (decide ((n : Int) ≤ 90))
     (R = ((tb true), [.dead]))
     (cond (decide ((1072 : Int) ≤ n))
      (R = ((tb (decide ((n : Int) ≤ 1103))), [.dead]))
      (R = ((tb false), [.dead]))))
    (cond (decide ((1072 : Int) ≤ n))
     (R = ((tb (decide ((n : Int) ≤ 1103))), [.dead]))
     (R = ((tb false), [.dead])))))
  (cond (decide ((65 : Int) ≤ n))
   (cond (decide ((n : Int) ≤ 90))
    (R = ((tb true), [.dead]))
    (cond (decide ((1072 : Int) ≤ n))
     (R = ((tb (decide ((n : Int) ≤ 1103))), [.dead]))
     (R = ((tb false), [.dead]))))
   (cond (decide ((1072 : Int) ≤ n))
    (R = ((tb (decide ((n : Int) ≤ 1103))), [.dead]))
    (R = ((tb false), [.dead]))))) : Rn 70 [(i32 n)] R := by
  refine fn_rule (ann := A70) (mv := MV) (fz := true) mixed Try.func70 (c := B70) (by kernel_rfl) (by decide) ?_
  all_goals revert h
  all_goals refine via ?_
  all_goals kernel_rfl
/- slices.Index[[]string,string] -/
noncomputable def A71 : Ann := mkAnn [] [(66728, [.ex ByteArray fun w => .done (st w)])] [] [(52, [0, 1, 7, 8])]
noncomputable abbrev B71 : Code := Try.f71.body.getD .skip
def L71_0 (s : List T) (s1 : ByteArray) (n : Int) (n1 : Int) (R : T × List T) : Prop := CutL Try.prog Try.f71 B71 true [1, 0, 1, 0, 0] (mkSt 19 [(0, (.sl 1 s)), (1, (st s1)), (7, (i64 n)), (8, (i64 n1))] []) [.dead, .dead] R
set_option maxRecDepth 100000 in
theorem l71_0 (s : List T) (s1 : ByteArray) (n : Int) (n1 : Int) (R : T × List T) (h : cond (decide ((n1 : Int) < n))
  (∃ s2 : ByteArray, ((0 : Int) ≤ n1 ∧ s[(Int.toNat n1)]? = some (st s2)) ∧
   (cond (decide (s1 = s2))
    (R = ((i64 n1), [.dead, .dead]))
    (L71_0 s s1 n (IntKind.wrap .i64 (n1 + 1)) R)))
  (R = ((i64 (-1)), [.dead, .dead]))) : L71_0 s s1 n n1 R := by
  unfold L71_0
  refine cutL_rule (ann := A71) (mv := MV) mixed (by kernel_rfl) ?_
  all_goals revert h
  all_goals refine via ?_
  all_goals kernel_rfl
set_option maxRecDepth 100000 in
theorem f71 (s : List T) (s1 : ByteArray) (R : T × List T) (h : L71_0 s s1 (((List.length s) : Nat) : Int) 0 R) : Rn 71 [(.sl 1 s), (st s1)] R := by
  refine fn_rule (ann := A71) (mv := MV) (fz := true) mixed Try.func71 (c := B71) (by kernel_rfl) (by decide) ?_
  all_goals revert h
  all_goals refine via ?_
  all_goals kernel_rfl
/- slices.IndexFunc[[]tumbrel/expr.Expr,tumbrel/expr.Expr] -/
noncomputable def A72 : Ann := mkAnn [(66856, (fun a => [.ex (Bool) fun b => .ex (Int) fun n => .done ((tb b), [.dead, (.cbox 3 [(i64 n)])])]))] [(66728, [.ex IfV fun w => .done w.v])] [] [(52, [0, 1, 7, 8])]
noncomputable abbrev B72 : Code := Try.f72.body.getD .skip
def L72_0 (s : List T) (n : Int) (n1 : Int) (n2 : Int) (R : T × List T) : Prop := CutL Try.prog Try.f72 B72 true [1, 0, 1, 0, 0] (mkSt 19 [(0, (.sl 1 s)), (1, (.fn (.func 63) [] [(.ptr (0, 0) 0)])), (7, (i64 n)), (8, (i64 n1))] [((0, 0), .box 3 [(i64 n2)])]) [.dead, (.fn (.func 63) [] [(.ptr (0, 0) 0)])] R
set_option maxRecDepth 100000 in
theorem l72_0 (s : List T) (n : Int) (n1 : Int) (n2 : Int) (R : T × List T) (h : cond (decide ((n1 : Int) < n))
  (∃ e : IfV, ((0 : Int) ≤ n1 ∧ s[(Int.toNat n1)]? = some e.v) ∧
   (∃ b : Bool, ∃ n3 : Int, (Rn 63 [e.v, (.cbox 3 [(i64 n2)])] ((tb b), [.dead, (.cbox 3 [(i64 n3)])])) ∧
    (cond b
     (R = ((i64 n1), [.dead, (.fn (.func 63) [] [(.cbox 3 [(i64 n3)])])]))
     (L72_0 s n (IntKind.wrap .i64 (n1 + 1)) n3 R))))
  (R = ((i64 (-1)), [.dead, (.fn (.func 63) [] [(.cbox 3 [(i64 n2)])])]))) : L72_0 s n n1 n2 R := by
  unfold L72_0
  refine cutL_rule (ann := A72) (mv := MV) mixed (by kernel_rfl) ?_
  all_goals revert h
  all_goals refine via ?_
  all_goals kernel_rfl
set_option maxRecDepth 100000 in
theorem f72 (s : List T) (n : Int) (R : T × List T) (h : L72_0 s (((List.length s) : Nat) : Int) 0 n R) : Rn 72 [(.sl 1 s), (.fn (.func 63) [] [(.cbox 3 [(i64 n)])])] R := by
  refine fn_rule (ann := A72) (mv := MV) (fz := true) mixed Try.func72 (c := B72) (by kernel_rfl) (by decide) ?_
  all_goals revert h
  all_goals refine via ?_
  all_goals kernel_rfl
/- (*tumbrel/table.coder).variable$1 -/
noncomputable def A46 : Ann := mkAnn [] [] [] []
noncomputable abbrev B46 : Code := Try.f46.body.getD .skip
set_option maxRecDepth 100000 in
theorem f46 (w : W_api_Var) (s : ByteArray) (R : T × List T) (h : R = ((tb (decide (w.fName = s))), [.dead, (.cbox 9 [(st s)])])) : Rn 46 [w.t, (.cbox 9 [(st s)])] R := by
  refine fn_rule (ann := A46) (mv := MV) (fz := true) mixed Try.func46 (c := B46) (by kernel_rfl) (by decide) ?_
  all_goals revert h
  all_goals refine via ?_
  all_goals kernel_rfl
/- (*tumbrel/expr.evaluator).load$1 -/
noncomputable def A67 : Ann := mkAnn [] [] [] []
noncomputable abbrev B67 : Code := Try.f67.body.getD .skip
set_option maxRecDepth 100000 in
theorem f67 (w : W_api_Var) (s : ByteArray) (R : T × List T) (h : R = ((tb (decide (w.fName = s))), [.dead, (.cbox 9 [(st s)])])) : Rn 67 [w.t, (.cbox 9 [(st s)])] R := by
  refine fn_rule (ann := A67) (mv := MV) (fz := true) mixed Try.func67 (c := B67) (by kernel_rfl) (by decide) ?_
  all_goals revert h
  all_goals refine via ?_
  all_goals kernel_rfl
/- tumbrel/glyph.digit -/
noncomputable def A76 : Ann := mkAnn [] [] [] []
noncomputable abbrev B76 : Code := Try.f76.body.getD .skip
set_option maxRecDepth 100000 in
theorem f76 (n : Int) (R : T × List T) (h : cond (decide ((48 : Int) ≤ n))
  (R = ((tb (decide ((n : Int) ≤ 57))), [.dead]))
  (R = ((tb false), [.dead]))) : Rn 76 [(i32 n)] R := by
  refine fn_rule (ann := A76) (mv := MV) (fz := true) mixed Try.func76 (c := B76) (by kernel_rfl) (by decide) ?_
  all_goals revert h
  all_goals refine via ?_
  all_goals kernel_rfl
/- tumbrel/expr.sound$1 -/
noncomputable def A63 : Ann := mkAnn [(17576, (fun a => [.ex (Bool) fun b => .done ((tb b), [.dead, .dead])]))] [] [] []
noncomputable abbrev B63 : Code := Try.f63.body.getD .skip
set_option maxRecDepth 100000 in
theorem f63 (e : IfV) (n : Int) (R : T × List T) (h : ∃ b : Bool, (Rn 39 [e.v, (i64 (IntKind.wrap .i64 (n - 1)))] ((tb b), [.dead, .dead])) ∧
  (R = ((tb (!b)), [.dead, (.cbox 3 [(i64 n)])]))) : Rn 63 [e.v, (.cbox 3 [(i64 n)])] R := by
  refine fn_rule (ann := A63) (mv := MV) (fz := true) mixed Try.func63 (c := B63) (by kernel_rfl) (by decide) ?_
  all_goals revert h
  all_goals refine via ?_
  all_goals kernel_rfl
end Go.Proofs.YthcaodlfnlhfbaaT
