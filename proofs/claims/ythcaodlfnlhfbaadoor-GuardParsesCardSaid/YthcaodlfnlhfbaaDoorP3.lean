/- What is to be shown of functions of the program, by their texts (printed by a program of this work; the kernel holds each against the text). -/
import Derived.Test.YthcaodlfnlhfbaaDoorP0
namespace Go.Proofs.YthcaodlfnlhfbaaDoorT
open Go Go.Proofs
set_option linter.unusedVariables false
/- (tumbrel/expr.Not).Kind -/
noncomputable def A175 : Ann := mkAnn [] [] [] []
noncomputable abbrev B175 : Code := Tryd.f175.body.getD .skip
set_option maxRecDepth 100000 in
theorem f175 (w : W_expr_Not) (R : T × List T) (h : R = ((i64 3), [.dead])) : Rn 175 [w.t] R := by
  refine fn_rule (ann := A175) (mv := MV) (fz := true) mixed Tryd.func175 (c := B175) (by kernel_rfl) (by decide) ?_
  all_goals revert h
  all_goals refine via ?_
  all_goals kernel_rfl
/- (tumbrel/expr.Ref).Kind -/
noncomputable def A174 : Ann := mkAnn [] [] [] []
noncomputable abbrev B174 : Code := Tryd.f174.body.getD .skip
set_option maxRecDepth 100000 in
theorem f174 (w : W_expr_Ref) (R : T × List T) (h : R = ((i64 2), [.dead])) : Rn 174 [w.t] R := by
  refine fn_rule (ann := A174) (mv := MV) (fz := true) mixed Tryd.func174 (c := B174) (by kernel_rfl) (by decide) ?_
  all_goals revert h
  all_goals refine via ?_
  all_goals kernel_rfl
/- (tumbrel/expr.Lit).Kind -/
noncomputable def A173 : Ann := mkAnn [] [] [] []
noncomputable abbrev B173 : Code := Tryd.f173.body.getD .skip
set_option maxRecDepth 100000 in
theorem f173 (w : W_expr_Lit) (R : T × List T) (h : R = ((i64 1), [.dead])) : Rn 173 [w.t] R := by
  refine fn_rule (ann := A173) (mv := MV) (fz := true) mixed Tryd.func173 (c := B173) (by kernel_rfl) (by decide) ?_
  all_goals revert h
  all_goals refine via ?_
  all_goals kernel_rfl
/- (*tumbrel/guard.parser).single -/
noncomputable def A82 : Ann := mkAnn [(17448, (fun a => [.ex (W_glyph_Word) fun w => .ex (List T) fun l => .ex (Int) fun n => .ex (Bool) fun b => .done (w.t, [(.cbox 111 [(.sl 4 l), (i64 n), (tb b)])])])), (115816, (fun a => [.ex (Int) fun n => .ex (IfV) fun e => .done ((.tup [(i64 n), e.v]), [.dead, .dead, .dead])])), (148840, (fun a => [.ex (Bool) fun b => .done ((tb b), [.dead])])), (197672, (fun a => [.ex (IfV) fun e => .ex (List T) fun l => .ex (Int) fun n => .ex (Bool) fun b => .done (e.v, [(.cbox 111 [(.sl 4 l), (i64 n), (tb b)])])])), (230440, (fun a => [.ex (IfV) fun e => .ex (List T) fun l => .ex (Int) fun n => .ex (Bool) fun b => .done (e.v, [(.cbox 111 [(.sl 4 l), (i64 n), (tb b)])])])), (263208, (fun a => [.ex (IfV) fun e => .ex (List T) fun l => .ex (Int) fun n => .ex (Bool) fun b => .done (e.v, [(.cbox 111 [(.sl 4 l), (i64 n), (tb b)]), .dead])])), (279976, (fun a => [.ex (W_glyph_Word) fun w => .ex (List T) fun l => .ex (Int) fun n => .ex (Bool) fun b => .done (w.t, [(.cbox 111 [(.sl 4 l), (i64 n), (tb b)])])]))] [] [] []
noncomputable abbrev B82 : Code := Tryd.f82.body.getD .skip
set_option maxRecDepth 100000 in
theorem f82 (l : List T) (n : Int) (b : Bool) (R : T × List T) (h : ∃ w : W_glyph_Word, ∃ l1 : List T, ∃ n1 : Int, ∃ b1 : Bool, (Rn 83 [(.cbox 111 [(.sl 4 l), (i64 n), (tb b)])] (w.t, [(.cbox 111 [(.sl 4 l1), (i64 n1), (tb b1)])])) ∧
  (cond (decide ((w.fKind : Int) = 0))
   (R = ((.ifc 0 .dead), [(.cbox 111 [(.sl 4 l1), (i64 n1), (tb true)])]))
   (cond b1
    (R = ((.ifc 0 .dead), [(.cbox 111 [(.sl 4 l1), (i64 n1), (tb true)])]))
    (cond (decide ((w.fKind : Int) = 2))
     (∃ n2 : Int, ∃ e : IfV, (Rn 100 [(st w.fText), (i64 10), (i64 64)] ((.tup [(i64 n2), e.v]), [.dead, .dead, .dead])) ∧
      (R = ((.ifc 81 (.agg [(i64 n2)])), [(.cbox 111 [(.sl 4 l1), (i64 (IntKind.wrap .i64 (n1 + 1))), (tb b1)])])))
     (cond (decide ((w.fKind : Int) = 1))
      (∃ b2 : Bool, (Rn 101 [(st w.fText)] ((tb b2), [.dead])) ∧
       (cond (!b2)
        (R = ((.ifc 96 (.agg [(st w.fText)])), [(.cbox 111 [(.sl 4 l1), (i64 (IntKind.wrap .i64 (n1 + 1))), (tb b1)])]))
        (cond (decide (w.fText = (bs [33])))
         (∃ e1 : IfV, ∃ l2 : List T, ∃ n3 : Int, ∃ b3 : Bool, (Rn 82 [(.cbox 111 [(.sl 4 l1), (i64 (IntKind.wrap .i64 (n1 + 1))), (tb b1)])] (e1.v, [(.cbox 111 [(.sl 4 l2), (i64 n3), (tb b3)])])) ∧
          (R = ((.ifc 98 (.agg [e1.v])), [(.cbox 111 [(.sl 4 l2), (i64 n3), (tb b3)])])))
         (cond (decide (w.fText = (bs [45])))
          (∃ e2 : IfV, ∃ l3 : List T, ∃ n4 : Int, ∃ b4 : Bool, (Rn 82 [(.cbox 111 [(.sl 4 l1), (i64 (IntKind.wrap .i64 (n1 + 1))), (tb b1)])] (e2.v, [(.cbox 111 [(.sl 4 l3), (i64 n4), (tb b4)])])) ∧
           (R = ((.ifc 99 (.agg [e2.v])), [(.cbox 111 [(.sl 4 l3), (i64 n4), (tb b4)])])))
          (cond (decide (w.fText = (bs [40])))
           (∃ e3 : IfV, ∃ l4 : List T, ∃ n5 : Int, ∃ b5 : Bool, (Rn 57 [(.cbox 111 [(.sl 4 l1), (i64 (IntKind.wrap .i64 (n1 + 1))), (tb b1)]), (i64 1)] (e3.v, [(.cbox 111 [(.sl 4 l4), (i64 n5), (tb b5)]), .dead])) ∧
            (cond (!b5)
             (∃ w1 : W_glyph_Word, ∃ l5 : List T, ∃ n6 : Int, ∃ b6 : Bool, (Rn 83 [(.cbox 111 [(.sl 4 l4), (i64 n5), (tb b5)])] (w1.t, [(.cbox 111 [(.sl 4 l5), (i64 n6), (tb b6)])])) ∧
              (cond (decide (w1.fText = (bs [41])))
               (R = (e3.v, [(.cbox 111 [(.sl 4 l5), (i64 (IntKind.wrap .i64 (n6 + 1))), (tb b6)])]))
               (R = ((.ifc 0 .dead), [(.cbox 111 [(.sl 4 l5), (i64 n6), (tb true)])]))))
             (R = ((.ifc 0 .dead), [(.cbox 111 [(.sl 4 l4), (i64 n5), (tb true)])]))))
           (R = ((.ifc 0 .dead), [(.cbox 111 [(.sl 4 l1), (i64 (IntKind.wrap .i64 ((IntKind.wrap .i64 (n1 + 1)) - 1))), (tb true)])])))))))
      (cond (decide (w.fText = (bs [33])))
       (∃ e4 : IfV, ∃ l6 : List T, ∃ n7 : Int, ∃ b7 : Bool, (Rn 82 [(.cbox 111 [(.sl 4 l1), (i64 (IntKind.wrap .i64 (n1 + 1))), (tb b1)])] (e4.v, [(.cbox 111 [(.sl 4 l6), (i64 n7), (tb b7)])])) ∧
        (R = ((.ifc 98 (.agg [e4.v])), [(.cbox 111 [(.sl 4 l6), (i64 n7), (tb b7)])])))
       (cond (decide (w.fText = (bs [45])))
        (∃ e5 : IfV, ∃ l7 : List T, ∃ n8 : Int, ∃ b8 : Bool, (Rn 82 [(.cbox 111 [(.sl 4 l1), (i64 (IntKind.wrap .i64 (n1 + 1))), (tb b1)])] (e5.v, [(.cbox 111 [(.sl 4 l7), (i64 n8), (tb b8)])])) ∧
         (R = ((.ifc 99 (.agg [e5.v])), [(.cbox 111 [(.sl 4 l7), (i64 n8), (tb b8)])])))
        (cond (decide (w.fText = (bs [40])))
         (∃ e6 : IfV, ∃ l8 : List T, ∃ n9 : Int, ∃ b9 : Bool, (Rn 57 [(.cbox 111 [(.sl 4 l1), (i64 (IntKind.wrap .i64 (n1 + 1))), (tb b1)]), (i64 1)] (e6.v, [(.cbox 111 [(.sl 4 l8), (i64 n9), (tb b9)]), .dead])) ∧
          (cond (!b9)
           (∃ w2 : W_glyph_Word, ∃ l9 : List T, ∃ n10 : Int, ∃ b10 : Bool, (Rn 83 [(.cbox 111 [(.sl 4 l8), (i64 n9), (tb b9)])] (w2.t, [(.cbox 111 [(.sl 4 l9), (i64 n10), (tb b10)])])) ∧
            (cond (decide (w2.fText = (bs [41])))
             (R = (e6.v, [(.cbox 111 [(.sl 4 l9), (i64 (IntKind.wrap .i64 (n10 + 1))), (tb b10)])]))
             (R = ((.ifc 0 .dead), [(.cbox 111 [(.sl 4 l9), (i64 n10), (tb true)])]))))
           (R = ((.ifc 0 .dead), [(.cbox 111 [(.sl 4 l8), (i64 n9), (tb true)])]))))
         (R = ((.ifc 0 .dead), [(.cbox 111 [(.sl 4 l1), (i64 (IntKind.wrap .i64 ((IntKind.wrap .i64 (n1 + 1)) - 1))), (tb true)])])))))))))) : Rn 82 [(.cbox 111 [(.sl 4 l), (i64 n), (tb b)])] R := by
  refine fn_rule (ann := A82) (mv := MV) (fz := true) mixed Tryd.func82 (c := B82) (by kernel_rfl) (by decide) ?_
  all_goals revert h
  all_goals refine via ?_
  all_goals kernel_rfl
/- (*tumbrel/guard.parser).peek -/
noncomputable def A83 : Ann := mkAnn [] [(34280, [.ex W_glyph_Word fun w => .done w.t])] [] []
noncomputable abbrev B83 : Code := Tryd.f83.body.getD .skip
set_option maxRecDepth 100000 in
theorem f83 (l : List T) (n : Int) (b : Bool) (R : T × List T) (h : cond (decide ((n : Int) < (((List.length l) : Nat) : Int)))
  (∃ w : W_glyph_Word, ((0 : Int) ≤ n ∧ l[(Int.toNat n)]? = some w.t) ∧
   (R = (w.t, [(.cbox 111 [(.sl 4 l), (i64 n), (tb b)])])))
  (R = ((.agg [(i64 0), (st (bs [])), (i64 0), (i64 0)]), [(.cbox 111 [(.sl 4 l), (i64 n), (tb b)])]))) : Rn 83 [(.cbox 111 [(.sl 4 l), (i64 n), (tb b)])] R := by
  refine fn_rule (ann := A83) (mv := MV) (fz := true) mixed Tryd.func83 (c := B83) (by kernel_rfl) (by decide) ?_
  all_goals revert h
  all_goals refine via ?_
  all_goals kernel_rfl
/- tumbrel/guard.level -/
noncomputable def A84 : Ann := mkAnn [(66664, (fun a => [.ex (Bool) fun b => .done ((tb b), [.dead, .dead])]))] [(50280, [.ex (List T) fun w => .done (.sl 1 w)])] [] [(52, [0, 11, 12, 13])]
noncomputable abbrev B84 : Code := Tryd.f84.body.getD .skip
def L84_0 (op : ByteArray) (n : Int) (n1 : Int) (l : List T) (R : T × List T) : Prop := CutL Tryd.prog Tryd.f84 B84 true [1, 0, 1, 0, 0] (mkSt 23 [(0, (st op)), (11, (.own (1000000012, 0))), (12, (i64 n)), (13, (i64 n1))] [((1000000012, 0), .arr 90 1 l)]) [.dead] R
set_option maxRecDepth 100000 in
theorem l84_0 (op : ByteArray) (n : Int) (n1 : Int) (l : List T) (R : T × List T) (h : cond (decide ((n1 : Int) < n))
  (((0 : Int) ≤ n1 ∧ n1 < (((List.length l) : Nat) : Int)) ∧
   (∃ l1 : List T, (l[(Int.toNat n1)]? = some (.sl 1 l1)) ∧
    (∃ b : Bool, (Rn 91 [(.sl 1 l1), (st op)] ((tb b), [.dead, .dead])) ∧
     (cond b
      (R = ((i64 n1), [.dead]))
      (L84_0 op n (IntKind.wrap .i64 (n1 + 1)) l R)))))
  (R = ((i64 0), [.dead]))) : L84_0 op n n1 l R := by
  unfold L84_0
  refine cutL_rule (ann := A84) (mv := MV) mixed (by kernel_rfl) ?_
  all_goals revert h
  all_goals refine via ?_
  all_goals kernel_rfl
set_option maxRecDepth 100000 in
theorem f84 (op : ByteArray) (R : T × List T) (h : L84_0 op 6 0 ([(.sl 1 []), (.sl 1 [(st (bs [124, 124]))]), (.sl 1 [(st (bs [38, 38]))]), (.sl 1 [(st (bs [60])), (st (bs [60, 61])), (st (bs [61, 61])), (st (bs [33, 61]))]), (.sl 1 [(st (bs [43])), (st (bs [45]))]), (.sl 1 [(st (bs [42]))])] : List T) R) : Rn 84 [(st op)] R := by
  refine fn_rule (ann := A84) (mv := MV) (fz := true) mixed Tryd.func84 (c := B84) (by kernel_rfl) (by decide) ?_
  all_goals revert h
  all_goals refine via ?_
  all_goals kernel_rfl
/- tumbrel/expr.Nodes -/
noncomputable def A62 : Ann := mkAnn [(17448, (fun a => [.ex (Int) fun n => .done ((i64 n), [.dead, .dead])]))] [] [] []
noncomputable abbrev B62 : Code := Tryd.f62.body.getD .skip
set_option maxRecDepth 100000 in
theorem f62 (e : IfV) (R : T × List T) (h : ∃ n : Int, (Rn 90 [e.v, (i64 40)] ((i64 n), [.dead, .dead])) ∧
  (R = ((i64 (if (41 : Int) < n then 41 else n)), [.dead]))) : Rn 62 [e.v] R := by
  refine fn_rule (ann := A62) (mv := MV) (fz := true) mixed Tryd.func62 (c := B62) (by kernel_rfl) (by decide) ?_
  all_goals revert h
  all_goals refine via ?_
  all_goals kernel_rfl
/- tumbrel/expr.sound -/
noncomputable def A63 : Ann := mkAnn [(99624, (fun a => [.ex (Bool) fun b => .done ((tb b), [.dead])])), (132200, (fun a => [.ex (List T) fun l => .done ((.sl 1 l), [])])), (132392, (fun a => [.ex (Bool) fun b => .done ((tb b), [.dead, .dead])])), (164904, (fun a => [.ex (List T) fun l => .done ((.sl 1 l), [.dead])])), (181864, (fun a => [.ex (Bool) fun b => .ex (Int) fun n => .done ((tb b), [.dead, (.fn (.func 94) [] [(.cbox 3 [(i64 n)])])])]))] [(17448, [.ex W_expr_Lit fun w => .done w.t]), (66600, [.ex W_expr_Ref fun w => .done w.t]), (115752, [.ex W_expr_Bin fun w => .done w.t])] [] []
noncomputable abbrev B63 : Code := Tryd.f63.body.getD .skip
set_option maxRecDepth 100000 in
theorem f63 (e : IfV) (nest : Int) (R : T × List T) (h : cond (Nat.beq e.t 81)
  (∃ w : W_expr_Lit, (e.x = w.t) ∧
   (cond (decide ((0 : Int) < nest))
    (cond (decide ((0 : Int) ≤ w.fN))
     (R = ((tb (decide ((w.fN : Int) ≤ 1000000000))), [.dead, .dead]))
     (R = ((tb false), [.dead, .dead])))
    (R = ((tb false), [.dead, .dead]))))
  (cond (Nat.beq e.t 96)
   (∃ w1 : W_expr_Ref, (e.x = w1.t) ∧
    (cond (decide ((0 : Int) < nest))
     (∃ b : Bool, (Rn 13 [(st w1.fName)] ((tb b), [.dead])) ∧
      (R = ((tb b), [.dead, .dead])))
     (R = ((tb false), [.dead, .dead]))))
   (cond (Nat.beq e.t 101)
    (∃ w2 : W_expr_Bin, (e.x = w2.t) ∧
     (∃ l : List T, (Rn 92 [] ((.sl 1 l), [])) ∧
      (∃ b1 : Bool, (Rn 91 [(.sl 1 l), (st w2.fOp)] ((tb b1), [.dead, .dead])) ∧
       (cond (!b1)
        (R = ((tb false), [.dead, .dead]))
        (∃ l1 : List T, (Rn 66 [e.v] ((.sl 1 l1), [.dead])) ∧
         (cond (decide ((0 : Int) < nest))
          (cond (decide ((0 : Int) < (((List.length l1) : Nat) : Int)))
           (∃ b2 : Bool, ∃ n : Int, (Rn 93 [(.sl 1 l1), (.fn (.func 94) [] [(.cbox 3 [(i64 nest)])])] ((tb b2), [.dead, (.fn (.func 94) [] [(.cbox 3 [(i64 n)])])])) ∧
            (R = ((tb (!b2)), [.dead, .dead])))
           (R = ((tb false), [.dead, .dead])))
          (R = ((tb false), [.dead, .dead]))))))))
    (∃ l2 : List T, (Rn 66 [e.v] ((.sl 1 l2), [.dead])) ∧
     (cond (decide ((0 : Int) < nest))
      (cond (decide ((0 : Int) < (((List.length l2) : Nat) : Int)))
       (∃ b3 : Bool, ∃ n1 : Int, (Rn 93 [(.sl 1 l2), (.fn (.func 94) [] [(.cbox 3 [(i64 nest)])])] ((tb b3), [.dead, (.fn (.func 94) [] [(.cbox 3 [(i64 n1)])])])) ∧
        (R = ((tb (!b3)), [.dead, .dead])))
       (R = ((tb false), [.dead, .dead])))
      (R = ((tb false), [.dead, .dead]))))))) : Rn 63 [e.v, (i64 nest)] R := by
  refine fn_rule (ann := A63) (mv := MV) (fz := true) mixed Tryd.func63 (c := B63) (by kernel_rfl) (by decide) ?_
  all_goals revert h
  all_goals refine via ?_
  all_goals kernel_rfl
/- (*tumbrel/tumbrelref04.reader).primary -/
noncomputable def A85 : Ann := mkAnn [(33832, (fun a => [.ex (W_tumbrelref04_Node) fun w => .ex (List T) fun l => .ex (Int) fun n => .ex (Int) fun n1 => .done (w.t, [(.cbox 114 [(.sl 4 l), (i64 n), (i64 n1)])])])), (148584, (fun a => [.ex (W_tumbrelref04_Node) fun w => .ex (List T) fun l => .ex (Int) fun n => .ex (Int) fun n1 => .done (w.t, [(.cbox 114 [(.sl 4 l), (i64 n), (i64 n1)])])])), (197672, (fun a => [.ex (W_tumbrelref04_Node) fun w => .ex (List T) fun l => .ex (Int) fun n => .ex (Int) fun n1 => .done (w.t, [(.cbox 114 [(.sl 4 l), (i64 n), (i64 n1)]), .dead])])), (214056, (fun a => [.ex (Bool) fun b => .ex (List T) fun l => .ex (Int) fun n => .ex (Int) fun n1 => .done ((tb b), [(.cbox 114 [(.sl 4 l), (i64 n), (i64 n1)]), .dead])])), (230440, (fun a => [.ex (W_tumbrelref04_Node) fun w => .ex (List T) fun l => .ex (Int) fun n => .ex (Int) fun n1 => .done (w.t, [(.cbox 114 [(.sl 4 l), (i64 n), (i64 n1)])])])), (312424, (fun a => [.ex (Int) fun n => .ex (Bool) fun b => .done ((.tup [(i64 n), (tb b)]), [.dead])])), (345448, (fun a => [.ex (Bool) fun b => .done ((tb b), [.dead])])), (394280, (fun a => [.ex (W_tumbrelref04_Node) fun w => .ex (List T) fun l => .ex (Int) fun n => .ex (Int) fun n1 => .done (w.t, [(.cbox 114 [(.sl 4 l), (i64 n), (i64 n1)])])]))] [(50664, [.ex W_tumbrelref03_Word fun w => .done w.t])] [] []
noncomputable abbrev B85 : Code := Tryd.f85.body.getD .skip
set_option maxRecDepth 100000 in
theorem f85 (l : List T) (n : Int) (n1 : Int) (R : T × List T) (h : cond (decide ((0 : Int) ≤ n1))
  (∃ w : W_tumbrelref04_Node, ∃ l1 : List T, ∃ n2 : Int, ∃ n3 : Int, (Rn 102 [(.cbox 114 [(.sl 4 l), (i64 n), (i64 n1)])] (w.t, [(.cbox 114 [(.sl 4 l1), (i64 n2), (i64 n3)])])) ∧
   (R = (w.t, [(.cbox 114 [(.sl 4 l1), (i64 n2), (i64 n3)])])))
  (cond (decide (((((List.length l) : Nat) : Int) : Int) ≤ n))
   (∃ w1 : W_tumbrelref04_Node, ∃ l2 : List T, ∃ n4 : Int, ∃ n5 : Int, (Rn 102 [(.cbox 114 [(.sl 4 l), (i64 n), (i64 n1)])] (w1.t, [(.cbox 114 [(.sl 4 l2), (i64 n4), (i64 n5)])])) ∧
    (R = (w1.t, [(.cbox 114 [(.sl 4 l2), (i64 n4), (i64 n5)])])))
   (∃ w2 : W_tumbrelref03_Word, ((0 : Int) ≤ n ∧ l[(Int.toNat n)]? = some w2.t) ∧
    (cond (decide (w2.fText = (bs [33])))
     (cond (decide (w2.fText = (bs [45])))
      (∃ w3 : W_tumbrelref04_Node, ∃ l3 : List T, ∃ n6 : Int, ∃ n7 : Int, (Rn 85 [(.cbox 114 [(.sl 4 l), (i64 (IntKind.wrap .i64 (n + 1))), (i64 n1)])] (w3.t, [(.cbox 114 [(.sl 4 l3), (i64 n6), (i64 n7)])])) ∧
       (R = ((.agg [(i64 4), (i64 0), (st (bs [])), (.sl 4 [w3.t])]), [(.cbox 114 [(.sl 4 l3), (i64 n6), (i64 n7)])])))
      (∃ w4 : W_tumbrelref04_Node, ∃ l4 : List T, ∃ n8 : Int, ∃ n9 : Int, (Rn 85 [(.cbox 114 [(.sl 4 l), (i64 (IntKind.wrap .i64 (n + 1))), (i64 n1)])] (w4.t, [(.cbox 114 [(.sl 4 l4), (i64 n8), (i64 n9)])])) ∧
       (R = ((.agg [(i64 3), (i64 0), (st (bs [])), (.sl 4 [w4.t])]), [(.cbox 114 [(.sl 4 l4), (i64 n8), (i64 n9)])]))))
     (cond (decide (w2.fText = (bs [45])))
      (cond (decide (w2.fText = (bs [45])))
       (∃ w5 : W_tumbrelref04_Node, ∃ l5 : List T, ∃ n10 : Int, ∃ n11 : Int, (Rn 85 [(.cbox 114 [(.sl 4 l), (i64 (IntKind.wrap .i64 (n + 1))), (i64 n1)])] (w5.t, [(.cbox 114 [(.sl 4 l5), (i64 n10), (i64 n11)])])) ∧
        (R = ((.agg [(i64 4), (i64 0), (st (bs [])), (.sl 4 [w5.t])]), [(.cbox 114 [(.sl 4 l5), (i64 n10), (i64 n11)])])))
       (∃ w6 : W_tumbrelref04_Node, ∃ l6 : List T, ∃ n12 : Int, ∃ n13 : Int, (Rn 85 [(.cbox 114 [(.sl 4 l), (i64 (IntKind.wrap .i64 (n + 1))), (i64 n1)])] (w6.t, [(.cbox 114 [(.sl 4 l6), (i64 n12), (i64 n13)])])) ∧
        (R = ((.agg [(i64 3), (i64 0), (st (bs [])), (.sl 4 [w6.t])]), [(.cbox 114 [(.sl 4 l6), (i64 n12), (i64 n13)])]))))
      (cond (decide (w2.fText = (bs [40])))
       (∃ w7 : W_tumbrelref04_Node, ∃ l7 : List T, ∃ n14 : Int, ∃ n15 : Int, (Rn 58 [(.cbox 114 [(.sl 4 l), (i64 (IntKind.wrap .i64 (n + 1))), (i64 n1)]), (i64 1)] (w7.t, [(.cbox 114 [(.sl 4 l7), (i64 n14), (i64 n15)]), .dead])) ∧
        (∃ b : Bool, ∃ l8 : List T, ∃ n16 : Int, ∃ n17 : Int, (Rn 103 [(.cbox 114 [(.sl 4 l7), (i64 n14), (i64 n15)]), (st (bs [41]))] ((tb b), [(.cbox 114 [(.sl 4 l8), (i64 n16), (i64 n17)]), .dead])) ∧
         (cond (!b)
          (∃ w8 : W_tumbrelref04_Node, ∃ l9 : List T, ∃ n18 : Int, ∃ n19 : Int, (Rn 102 [(.cbox 114 [(.sl 4 l8), (i64 n16), (i64 n17)])] (w8.t, [(.cbox 114 [(.sl 4 l9), (i64 n18), (i64 n19)])])) ∧
           (R = (w8.t, [(.cbox 114 [(.sl 4 l9), (i64 n18), (i64 n19)])])))
          (R = (w7.t, [(.cbox 114 [(.sl 4 l8), (i64 (IntKind.wrap .i64 (n16 + 1))), (i64 n17)])])))))
       (cond (decide ((w2.fKind : Int) = 2))
        (∃ n20 : Int, ∃ b1 : Bool, (Rn 78 [(st w2.fText)] ((.tup [(i64 n20), (tb b1)]), [.dead])) ∧
         (R = ((.agg [(i64 1), (i64 n20), (st (bs [])), (.sl 4 [])]), [(.cbox 114 [(.sl 4 l), (i64 (IntKind.wrap .i64 (n + 1))), (i64 n1)])])))
        (cond (decide ((w2.fKind : Int) = 1))
         (∃ b2 : Bool, (Rn 104 [(st w2.fText)] ((tb b2), [.dead])) ∧
          (cond (!b2)
           (R = ((.agg [(i64 2), (i64 0), (st w2.fText), (.sl 4 [])]), [(.cbox 114 [(.sl 4 l), (i64 (IntKind.wrap .i64 (n + 1))), (i64 n1)])]))
           (∃ w9 : W_tumbrelref04_Node, ∃ l10 : List T, ∃ n21 : Int, ∃ n22 : Int, (Rn 102 [(.cbox 114 [(.sl 4 l), (i64 n), (i64 n1)])] (w9.t, [(.cbox 114 [(.sl 4 l10), (i64 n21), (i64 n22)])])) ∧
            (R = (w9.t, [(.cbox 114 [(.sl 4 l10), (i64 n21), (i64 n22)])])))))
         (∃ w10 : W_tumbrelref04_Node, ∃ l11 : List T, ∃ n23 : Int, ∃ n24 : Int, (Rn 102 [(.cbox 114 [(.sl 4 l), (i64 n), (i64 n1)])] (w10.t, [(.cbox 114 [(.sl 4 l11), (i64 n23), (i64 n24)])])) ∧
          (R = (w10.t, [(.cbox 114 [(.sl 4 l11), (i64 n23), (i64 n24)])]))))))))))) : Rn 85 [(.cbox 114 [(.sl 4 l), (i64 n), (i64 n1)])] R := by
  refine fn_rule (ann := A85) (mv := MV) (fz := true) mixed Tryd.func85 (c := B85) (by kernel_rfl) (by decide) ?_
  all_goals revert h
  all_goals refine via ?_
  all_goals kernel_rfl
/- tumbrel/tumbrelref04.level -/
noncomputable def A86 : Ann := mkAnn [] [] [] []
noncomputable abbrev B86 : Code := Tryd.f86.body.getD .skip
set_option maxRecDepth 100000 in
theorem f86 (s : ByteArray) (R : T × List T) (h : cond (decide (s = (bs [124, 124])))
  (R = ((i64 1), [.dead]))
  (cond (decide (s = (bs [38, 38])))
   (R = ((i64 2), [.dead]))
   (cond (decide (s = (bs [60])))
    (R = ((i64 3), [.dead]))
    (cond (decide (s = (bs [60, 61])))
     (R = ((i64 3), [.dead]))
     (cond (decide (s = (bs [61, 61])))
      (R = ((i64 3), [.dead]))
      (cond (decide (s = (bs [33, 61])))
       (R = ((i64 3), [.dead]))
       (cond (decide (s = (bs [43])))
        (R = ((i64 4), [.dead]))
        (cond (decide (s = (bs [45])))
         (R = ((i64 4), [.dead]))
         (cond (decide (s = (bs [42])))
          (R = ((i64 5), [.dead]))
          (R = ((i64 0), [.dead]))))))))))) : Rn 86 [(st s)] R := by
  refine fn_rule (ann := A86) (mv := MV) (fz := true) mixed Tryd.func86 (c := B86) (by kernel_rfl) (by decide) ?_
  all_goals revert h
  all_goals refine via ?_
  all_goals kernel_rfl
/- tumbrel/tumbrelref04.Nodes -/
noncomputable def A73 : Ann := mkAnn [(83304, (fun a => [.ex (Int) fun n => .done ((i64 n), [.dead])]))] [(83176, [.ex W_tumbrelref04_Node fun w => .done w.t])] [] [(116, [1, 3, 7, 8])]
noncomputable abbrev B73 : Code := Tryd.f73.body.getD .skip
def L73_0 (n : Int) (n1 : Int) (n2 : Int) (w : W_tumbrelref04_Node) (R : T × List T) : Prop := CutL Tryd.prog Tryd.f73 B73 true [1, 1, 0, 1, 0, 0] (mkSt 22 [(1, (.ptr (1000000002, 0) 0)), (3, (i64 n)), (7, (i64 n1)), (8, (i64 n2))] [((1000000002, 0), .box 37 [(i64 w.fKind), (i64 w.fN), (st w.fS), (.sl 4 w.fParts)])]) [.dead] R
set_option maxRecDepth 100000 in
theorem l73_0 (n : Int) (n1 : Int) (n2 : Int) (w : W_tumbrelref04_Node) (R : T × List T) (h : cond (decide ((n2 : Int) < n1))
  (∃ w1 : W_tumbrelref04_Node, ((0 : Int) ≤ n2 ∧ w.fParts[(Int.toNat n2)]? = some w1.t) ∧
   (∃ n3 : Int, (Rn 73 [w1.t] ((i64 n3), [.dead])) ∧
    (L73_0 (IntKind.wrap .i64 (n + n3)) n1 (IntKind.wrap .i64 (n2 + 1)) w R)))
  (R = ((i64 (if (41 : Int) < n then 41 else n)), [.dead]))) : L73_0 n n1 n2 w R := by
  unfold L73_0
  refine cutL_rule (ann := A73) (mv := MV) mixed (by kernel_rfl) ?_
  all_goals revert h
  all_goals refine via ?_
  all_goals kernel_rfl
set_option maxRecDepth 100000 in
theorem f73 (w : W_tumbrelref04_Node) (R : T × List T) (h : L73_0 1 (((List.length w.fParts) : Nat) : Int) 0 w R) : Rn 73 [w.t] R := by
  refine fn_rule (ann := A73) (mv := MV) (fz := true) mixed Tryd.func73 (c := B73) (by kernel_rfl) (by decide) ?_
  all_goals revert h
  all_goals refine via ?_
  all_goals kernel_rfl
/- tumbrel/tumbrelref04.deep -/
noncomputable def A74 : Ann := mkAnn [(83304, (fun a => [.ex (Int) fun n => .done ((i64 n), [.dead])]))] [(83176, [.ex W_tumbrelref04_Node fun w => .done w.t])] [] [(116, [1, 3, 7, 8])]
noncomputable abbrev B74 : Code := Tryd.f74.body.getD .skip
def L74_0 (n : Int) (n1 : Int) (n2 : Int) (w : W_tumbrelref04_Node) (R : T × List T) : Prop := CutL Tryd.prog Tryd.f74 B74 true [1, 1, 0, 1, 0, 0] (mkSt 22 [(1, (.ptr (1000000002, 0) 0)), (3, (i64 n)), (7, (i64 n1)), (8, (i64 n2))] [((1000000002, 0), .box 37 [(i64 w.fKind), (i64 w.fN), (st w.fS), (.sl 4 w.fParts)])]) [.dead] R
set_option maxRecDepth 100000 in
theorem l74_0 (n : Int) (n1 : Int) (n2 : Int) (w : W_tumbrelref04_Node) (R : T × List T) (h : cond (decide ((n2 : Int) < n1))
  (∃ w1 : W_tumbrelref04_Node, ((0 : Int) ≤ n2 ∧ w.fParts[(Int.toNat n2)]? = some w1.t) ∧
   (∃ n3 : Int, (Rn 74 [w1.t] ((i64 n3), [.dead])) ∧
    (L74_0 (if (n : Int) < n3 then n3 else n) n1 (IntKind.wrap .i64 (n2 + 1)) w R)))
  (R = ((i64 (IntKind.wrap .i64 (n + 1))), [.dead]))) : L74_0 n n1 n2 w R := by
  unfold L74_0
  refine cutL_rule (ann := A74) (mv := MV) mixed (by kernel_rfl) ?_
  all_goals revert h
  all_goals refine via ?_
  all_goals kernel_rfl
set_option maxRecDepth 100000 in
theorem f74 (w : W_tumbrelref04_Node) (R : T × List T) (h : L74_0 0 (((List.length w.fParts) : Nat) : Int) 0 w R) : Rn 74 [w.t] R := by
  refine fn_rule (ann := A74) (mv := MV) (fz := true) mixed Tryd.func74 (c := B74) (by kernel_rfl) (by decide) ?_
  all_goals revert h
  all_goals refine via ?_
  all_goals kernel_rfl
/- tumbrel/tumbrelref04.sound -/
noncomputable def A75 : Ann := mkAnn [(83048, (fun a => [.ex (Bool) fun b => .done ((tb b), [.dead])])), (148840, (fun a => [.ex (Bool) fun b => .done ((tb b), [.dead])])), (230696, (fun a => [.ex (Bool) fun b => .done ((tb b), [.dead])]))] [(230568, [.ex W_tumbrelref04_Node fun w => .done w.t])] [] [(55252, [1, 36, 37])]
noncomputable abbrev B75 : Code := Tryd.f75.body.getD .skip
def L75_0 (n : Int) (n1 : Int) (w : W_tumbrelref04_Node) (R : T × List T) : Prop := CutL Tryd.prog Tryd.f75 B75 true [1, 0, 1, 0, 1, 1, 1, 1, 1, 0, 1, 0, 1, 0, 0] (mkSt 48 [(1, (.ptr (1000000002, 0) 0)), (36, (i64 n)), (37, (i64 n1))] [((1000000002, 0), .box 37 [(i64 w.fKind), (i64 w.fN), (st w.fS), (.sl 4 w.fParts)])]) [.dead] R
set_option maxRecDepth 100000 in
theorem l75_0 (n : Int) (n1 : Int) (w : W_tumbrelref04_Node) (R : T × List T) (h : cond (decide ((n1 : Int) < n))
  (∃ w1 : W_tumbrelref04_Node, ((0 : Int) ≤ n1 ∧ w.fParts[(Int.toNat n1)]? = some w1.t) ∧
   (∃ b : Bool, (Rn 75 [w1.t] ((tb b), [.dead])) ∧
    (cond (!b)
     (R = ((tb false), [.dead]))
     (L75_0 n (IntKind.wrap .i64 (n1 + 1)) w R))))
  (R = ((tb true), [.dead]))) : L75_0 n n1 w R := by
  unfold L75_0
  refine cutL_rule (ann := A75) (mv := MV) mixed (by kernel_rfl) ?_
  all_goals revert h
  all_goals refine via ?_
  all_goals kernel_rfl
set_option maxRecDepth 100000 in
theorem f75 (w : W_tumbrelref04_Node) (R : T × List T) (h : cond (decide ((w.fKind : Int) = 1))
  (cond (decide ((0 : Int) ≤ w.fN))
   (R = ((tb (decide ((w.fN : Int) ≤ 1000000000))), [.dead]))
   (R = ((tb false), [.dead])))
  (cond (decide ((w.fKind : Int) = 2))
   (∃ b : Bool, (Rn 14 [(st w.fS)] ((tb b), [.dead])) ∧
    (R = ((tb b), [.dead])))
   (cond (decide ((w.fKind : Int) = 3))
    (cond (decide ((w.fKind : Int) = 5))
     (∃ b1 : Bool, (Rn 98 [(st w.fS)] ((tb b1), [.dead])) ∧
      (cond (!b1)
       (R = ((tb false), [.dead]))
       (L75_0 (((List.length w.fParts) : Nat) : Int) 0 w R)))
     (L75_0 (((List.length w.fParts) : Nat) : Int) 0 w R))
    (cond (decide ((w.fKind : Int) = 4))
     (cond (decide ((w.fKind : Int) = 5))
      (∃ b2 : Bool, (Rn 98 [(st w.fS)] ((tb b2), [.dead])) ∧
       (cond (!b2)
        (R = ((tb false), [.dead]))
        (L75_0 (((List.length w.fParts) : Nat) : Int) 0 w R)))
      (L75_0 (((List.length w.fParts) : Nat) : Int) 0 w R))
     (cond (decide ((w.fKind : Int) = 5))
      (cond (decide ((w.fKind : Int) = 5))
       (∃ b3 : Bool, (Rn 98 [(st w.fS)] ((tb b3), [.dead])) ∧
        (cond (!b3)
         (R = ((tb false), [.dead]))
         (L75_0 (((List.length w.fParts) : Nat) : Int) 0 w R)))
       (L75_0 (((List.length w.fParts) : Nat) : Int) 0 w R))
      (R = ((tb false), [.dead]))))))) : Rn 75 [w.t] R := by
  refine fn_rule (ann := A75) (mv := MV) (fz := true) mixed Tryd.func75 (c := B75) (by kernel_rfl) (by decide) ?_
  all_goals revert h
  all_goals refine via ?_
  all_goals kernel_rfl
/- (*tumbrel/glyph.lexer).span -/
noncomputable def A87 : Ann := mkAnn [(66600, (fun a => [.ex (Bool) fun b => .done ((tb b), [.dead])]))] [] [] [(52, [0, 1, 13])]
noncomputable abbrev B87 : Code := Tryd.f87.body.getD .skip
def L87_0 (from_ : Int) (s : ByteArray) (l : List T) (n : Int) (b : Bool) (n1 : Int) (n2 : Int) (s1 : ByteArray) (pos : Nat) (R : T × List T) : Prop := CutL Tryd.prog Tryd.f87 B87 true [1, 0, 1, 0, 0] (mkSt 29 [(0, (.ptr (0, 0) 0)), (1, (i64 from_)), (13, (.it (1000000014, 0)))] (([((0, 0), .box 73 [(st s), (mnT (1, 0) l), (i64 n), (tb b), (i64 n1), (i64 n2)]), ((1000000014, 0), .iter s1 pos)] ++ mnH (1, 0) 30 4 l))) [(.ptr (0, 0) 0), .dead] R
set_option maxRecDepth 100000 in
theorem l87_0 (from_ : Int) (s : ByteArray) (l : List T) (n : Int) (b : Bool) (n1 : Int) (n2 : Int) (s1 : ByteArray) (pos : Nat) (R : T × List T) (h : cond (Nat.ble (pos + 1) (ByteArray.size s1))
  (∃ b1 : Bool, (Rn 39 [(i32 (Utf8.decode s1 pos).1)] ((tb b1), [.dead])) ∧
   (cond (!b1)
    (R = ((i64 ((pos : Nat) : Int)), [(.cbox 73 [(st s), (mnC 30 4 l), (i64 n), (tb b), (i64 n1), (i64 n2)]), .dead]))
    (L87_0 from_ s l n b n1 n2 s1 (pos + (Utf8.decode s1 pos).2) R)))
  (R = ((i64 (IntKind.wrap .i64 ((((ByteArray.size s) : Nat) : Int) - from_))), [(.cbox 73 [(st s), (mnC 30 4 l), (i64 n), (tb b), (i64 n1), (i64 n2)]), .dead]))) : L87_0 from_ s l n b n1 n2 s1 pos R := by
  unfold L87_0
  refine cutL_rule (ann := A87) (mv := MV) mixed (by kernel_rfl) ?_
  all_goals rcases l with _ | ⟨_, _⟩
  all_goals revert h
  all_goals refine via ?_
  all_goals kernel_rfl
set_option maxRecDepth 100000 in
theorem f87 (s : ByteArray) (l : List T) (n : Int) (b : Bool) (n1 : Int) (n2 : Int) (from_ : Int) (R : T × List T) (h : ((0 : Int) ≤ from_ ∧ from_ ≤ (((ByteArray.size s) : Nat) : Int)) ∧
  (L87_0 from_ s l n b n1 n2 ((ByteArray.extract s (Int.toNat from_) (ByteArray.size s))) 0 R)) : Rn 87 [(.cbox 73 [(st s), (mnC 30 4 l), (i64 n), (tb b), (i64 n1), (i64 n2)]), (i64 from_)] R := by
  refine fn_rule (ann := A87) (mv := MV) (fz := true) mixed Tryd.func87 (c := B87) (by kernel_rfl) (by decide) ?_
  all_goals rcases l with _ | ⟨_, _⟩
  all_goals revert h
  all_goals refine via ?_
  all_goals kernel_rfl
/- tumbrel/glyph.number -/
noncomputable def A88 : Ann := mkAnn [(17448, (fun a => [.ex (Int) fun n => .ex (IfV) fun e => .done ((.tup [(.s (.int .u64 n)), e.v]), [.dead, .dead, .dead])])), (34280, (fun a => [.ex (ByteArray) fun s => .done ((st s), [.dead, .dead])]))] [] [] []
noncomputable abbrev B88 : Code := Tryd.f88.body.getD .skip
set_option maxRecDepth 100000 in
theorem f88 (s : ByteArray) (R : T × List T) (h : ∃ n : Int, ∃ e : IfV, (Rn 105 [(st s), (i64 10), (i64 63)] ((.tup [(.s (.int .u64 n)), e.v]), [.dead, .dead, .dead])) ∧
  (cond (decide (e.t = 0))
   (cond (decide ((n : Int) ≤ 1000000000))
    (∃ s1 : ByteArray, (Rn 106 [(.s (.int .u64 n)), (i64 10)] ((st s1), [.dead, .dead])) ∧
     (R = ((tb (decide (s1 = s))), [.dead])))
    (R = ((tb false), [.dead])))
   (R = ((tb false), [.dead])))) : Rn 88 [(st s)] R := by
  refine fn_rule (ann := A88) (mv := MV) (fz := true) mixed Tryd.func88 (c := B88) (by kernel_rfl) (by decide) ?_
  all_goals revert h
  all_goals refine via ?_
  all_goals kernel_rfl
/- strings.HasPrefix -/
noncomputable def A89 : Ann := mkAnn [(17512, (fun a => [.ex (Bool) fun b => .done ((tb b), [.dead, .dead])]))] [] [] []
noncomputable abbrev B89 : Code := Tryd.f89.body.getD .skip
set_option maxRecDepth 100000 in
theorem f89 (s : ByteArray) (prefix_ : ByteArray) (R : T × List T) (h : ∃ b : Bool, (Rn 107 [(st s), (st prefix_)] ((tb b), [.dead, .dead])) ∧
  (R = ((tb b), [.dead, .dead]))) : Rn 89 [(st s), (st prefix_)] R := by
  refine fn_rule (ann := A89) (mv := MV) (fz := true) mixed Tryd.func89 (c := B89) (by kernel_rfl) (by decide) ?_
  all_goals revert h
  all_goals refine via ?_
  all_goals kernel_rfl
/- strconv.ParseInt -/
noncomputable def A100 : Ann := mkAnn [(17576, (fun a => [.ex (Int) fun n => .ex (IfV) fun e => .done ((.tup [(i64 n), e.v]), [.dead, .dead, .dead])])), (50472, (fun a => [.ex (IfV) fun e => .done (e.v, [.dead, .dead, .dead, .dead, .dead])]))] [] [] []
noncomputable abbrev B100 : Code := Tryd.f100.body.getD .skip
set_option maxRecDepth 100000 in
theorem f100 (s : ByteArray) (base : Int) (bitSize : Int) (R : T × List T) (h : ∃ n : Int, ∃ e : IfV, (Rn 113 [(st s), (i64 base), (i64 bitSize)] ((.tup [(i64 n), e.v]), [.dead, .dead, .dead])) ∧
  (cond (!(decide (e.t = 0)))
   (∃ e1 : IfV, (Rn 114 [(st (bs [80, 97, 114, 115, 101, 73, 110, 116])), (st s), (i64 base), (i64 bitSize), e.v] (e1.v, [.dead, .dead, .dead, .dead, .dead])) ∧
    (R = ((.tup [(i64 n), e1.v]), [.dead, .dead, .dead])))
   (R = ((.tup [(i64 n), (.ifc 0 .dead)]), [.dead, .dead, .dead])))) : Rn 100 [(st s), (i64 base), (i64 bitSize)] R := by
  refine fn_rule (ann := A100) (mv := MV) (fz := true) mixed Tryd.func100 (c := B100) (by kernel_rfl) (by decide) ?_
  all_goals revert h
  all_goals refine via ?_
  all_goals kernel_rfl
/- tumbrel/guard.Reserved -/
noncomputable def A101 : Ann := mkAnn [(17512, (fun a => [.ex (Bool) fun b => .done ((tb b), [.dead, .dead])]))] [] [] []
noncomputable abbrev B101 : Code := Tryd.f101.body.getD .skip
set_option maxRecDepth 100000 in
theorem f101 (s : ByteArray) (R : T × List T) (h : ∃ b : Bool, (Rn 91 [(.sl 1 [(st (bs [99, 104, 97, 114, 116])), (st (bs [118, 97, 114])), (st (bs [115, 116, 97, 116, 101])), (st (bs [97, 108, 108])), (st (bs [101, 110, 100])), (st (bs [100, 111])), (st (bs [117, 110, 100, 111])), (st (bs [97, 116])), (st (bs [114, 101, 116, 114, 105, 101, 115])), (st (bs [111, 110])), (st (bs [105, 102])), (st (bs [103, 111])), (st (bs [115, 101, 116]))]), (st s)] ((tb b), [.dead, .dead])) ∧
  (R = ((tb b), [.dead]))) : Rn 101 [(st s)] R := by
  refine fn_rule (ann := A101) (mv := MV) (fz := true) mixed Tryd.func101 (c := B101) (by kernel_rfl) (by decide) ?_
  all_goals revert h
  all_goals refine via ?_
  all_goals kernel_rfl
/- slices.Contains[[]string,string] -/
noncomputable def A91 : Ann := mkAnn [(17512, (fun a => [.ex (Int) fun n => .done ((i64 n), [.dead, .dead])]))] [] [] []
noncomputable abbrev B91 : Code := Tryd.f91.body.getD .skip
set_option maxRecDepth 100000 in
theorem f91 (s : List T) (s1 : ByteArray) (R : T × List T) (h : ∃ n : Int, (Rn 108 [(.sl 1 s), (st s1)] ((i64 n), [.dead, .dead])) ∧
  (R = ((tb (decide ((0 : Int) ≤ n))), [.dead, .dead]))) : Rn 91 [(.sl 1 s), (st s1)] R := by
  refine fn_rule (ann := A91) (mv := MV) (fz := true) mixed Tryd.func91 (c := B91) (by kernel_rfl) (by decide) ?_
  all_goals revert h
  all_goals refine via ?_
  all_goals kernel_rfl
/- tumbrel/expr.count -/
noncomputable def A90 : Ann := mkAnn [(33832, (fun a => [.ex (List T) fun l => .done ((.sl 1 l), [.dead])])), (99624, (fun a => [.ex (Int) fun n => .done ((i64 n), [.dead, .dead])]))] [(66536, [.ex IfV fun w => .done w.v])] [] [(116, [1, 5, 9, 10, 11])]
noncomputable abbrev B90 : Code := Tryd.f90.body.getD .skip
def L90_0 (left : Int) (n : Int) (l : List T) (n1 : Int) (n2 : Int) (R : T × List T) : Prop := CutL Tryd.prog Tryd.f90 B90 true [1, 1, 0, 1, 0, 0] (mkSt 27 [(1, (i64 left)), (5, (i64 n)), (9, (.sl 1 l)), (10, (i64 n1)), (11, (i64 n2))] []) [.dead, .dead] R
set_option maxRecDepth 100000 in
theorem l90_0 (left : Int) (n : Int) (l : List T) (n1 : Int) (n2 : Int) (R : T × List T) (h : cond (decide ((n2 : Int) < n1))
  (∃ e : IfV, ((0 : Int) ≤ n2 ∧ l[(Int.toNat n2)]? = some e.v) ∧
   (cond (decide ((n : Int) ≤ left))
    (∃ n3 : Int, (Rn 90 [e.v, (i64 (IntKind.wrap .i64 (left - n)))] ((i64 n3), [.dead, .dead])) ∧
     (L90_0 left (IntKind.wrap .i64 (n + n3)) l n1 (IntKind.wrap .i64 (n2 + 1)) R))
    (L90_0 left n l n1 (IntKind.wrap .i64 (n2 + 1)) R)))
  (R = ((i64 n), [.dead, .dead]))) : L90_0 left n l n1 n2 R := by
  unfold L90_0
  refine cutL_rule (ann := A90) (mv := MV) mixed (by kernel_rfl) ?_
  all_goals revert h
  all_goals refine via ?_
  all_goals kernel_rfl
set_option maxRecDepth 100000 in
theorem f90 (e : IfV) (left : Int) (R : T × List T) (h : ∃ l : List T, (Rn 66 [e.v] ((.sl 1 l), [.dead])) ∧
  (L90_0 left 1 l (((List.length l) : Nat) : Int) 0 R)) : Rn 90 [e.v, (i64 left)] R := by
  refine fn_rule (ann := A90) (mv := MV) (fz := true) mixed Tryd.func90 (c := B90) (by kernel_rfl) (by decide) ?_
  all_goals revert h
  all_goals refine via ?_
  all_goals kernel_rfl
/- tumbrel/expr.Operators -/
noncomputable def A92 : Ann := mkAnn [] [] [] []
noncomputable abbrev B92 : Code := Tryd.f92.body.getD .skip
set_option maxRecDepth 100000 in
theorem f92 (R : T × List T) (h : R = ((.sl 1 [(st (bs [43])), (st (bs [45])), (st (bs [42])), (st (bs [60])), (st (bs [60, 61])), (st (bs [61, 61])), (st (bs [33, 61])), (st (bs [38, 38])), (st (bs [124, 124]))]), [])) : Rn 92 [] R := by
  refine fn_rule (ann := A92) (mv := MV) (fz := true) mixed Tryd.func92 (c := B92) (by kernel_rfl) (by decide) ?_
  all_goals revert h
  all_goals refine via ?_
  all_goals kernel_rfl
/- slices.ContainsFunc[[]tumbrel/expr.Expr,tumbrel/expr.Expr] -/
noncomputable def A93 : Ann := mkAnn [(17512, (fun a => [.ex (Int) fun n => .ex (Int) fun n1 => .done ((i64 n), [.dead, (.fn (.func 94) [] [(.cbox 3 [(i64 n1)])])])]))] [] [] []
noncomputable abbrev B93 : Code := Tryd.f93.body.getD .skip
set_option maxRecDepth 100000 in
theorem f93 (s : List T) (n : Int) (R : T × List T) (h : ∃ n1 : Int, ∃ n2 : Int, (Rn 109 [(.sl 1 s), (.fn (.func 94) [] [(.cbox 3 [(i64 n)])])] ((i64 n1), [.dead, (.fn (.func 94) [] [(.cbox 3 [(i64 n2)])])])) ∧
  (R = ((tb (decide ((0 : Int) ≤ n1))), [.dead, (.fn (.func 94) [] [(.cbox 3 [(i64 n2)])])]))) : Rn 93 [(.sl 1 s), (.fn (.func 94) [] [(.cbox 3 [(i64 n)])])] R := by
  refine fn_rule (ann := A93) (mv := MV) (fz := true) mixed Tryd.func93 (c := B93) (by kernel_rfl) (by decide) ?_
  all_goals revert h
  all_goals refine via ?_
  all_goals kernel_rfl
/- (*tumbrel/tumbrelref04.reader).fail -/
noncomputable def A102 : Ann := mkAnn [] [] [] []
noncomputable abbrev B102 : Code := Tryd.f102.body.getD .skip
set_option maxRecDepth 100000 in
theorem f102 (l : List T) (n : Int) (n1 : Int) (R : T × List T) (h : cond (decide ((n1 : Int) < 0))
  (R = ((.agg [(i64 0), (i64 0), (st (bs [])), (.sl 4 [])]), [(.cbox 114 [(.sl 4 l), (i64 n), (i64 n)])]))
  (R = ((.agg [(i64 0), (i64 0), (st (bs [])), (.sl 4 [])]), [(.cbox 114 [(.sl 4 l), (i64 n), (i64 n1)])]))) : Rn 102 [(.cbox 114 [(.sl 4 l), (i64 n), (i64 n1)])] R := by
  refine fn_rule (ann := A102) (mv := MV) (fz := true) mixed Tryd.func102 (c := B102) (by kernel_rfl) (by decide) ?_
  all_goals revert h
  all_goals refine via ?_
  all_goals kernel_rfl
/- (*tumbrel/tumbrelref04.reader).is -/
noncomputable def A103 : Ann := mkAnn [] [(19048, [.ex W_tumbrelref03_Word fun w => .done w.t])] [] []
noncomputable abbrev B103 : Code := Tryd.f103.body.getD .skip
set_option maxRecDepth 100000 in
theorem f103 (l : List T) (n : Int) (n1 : Int) (s : ByteArray) (R : T × List T) (h : cond (decide ((n1 : Int) < 0))
  (cond (decide ((n : Int) < (((List.length l) : Nat) : Int)))
   (∃ w : W_tumbrelref03_Word, ((0 : Int) ≤ n ∧ l[(Int.toNat n)]? = some w.t) ∧
    (R = ((tb (decide (w.fText = s))), [(.cbox 114 [(.sl 4 l), (i64 n), (i64 n1)]), .dead])))
   (R = ((tb false), [(.cbox 114 [(.sl 4 l), (i64 n), (i64 n1)]), .dead])))
  (R = ((tb false), [(.cbox 114 [(.sl 4 l), (i64 n), (i64 n1)]), .dead]))) : Rn 103 [(.cbox 114 [(.sl 4 l), (i64 n), (i64 n1)]), (st s)] R := by
  refine fn_rule (ann := A103) (mv := MV) (fz := true) mixed Tryd.func103 (c := B103) (by kernel_rfl) (by decide) ?_
  all_goals revert h
  all_goals refine via ?_
  all_goals kernel_rfl
/- tumbrel/tumbrelref03.Reserved -/
noncomputable def A104 : Ann := mkAnn [] [] [] []
noncomputable abbrev B104 : Code := Tryd.f104.body.getD .skip
set_option maxRecDepth 100000 in
theorem f104 (s : ByteArray) (R : T × List T) (h : cond (decide (s = (bs [99, 104, 97, 114, 116])))
  (R = ((tb true), [.dead]))
  (cond (decide (s = (bs [118, 97, 114])))
   (R = ((tb true), [.dead]))
   (cond (decide (s = (bs [115, 116, 97, 116, 101])))
    (R = ((tb true), [.dead]))
    (cond (decide (s = (bs [97, 108, 108])))
     (R = ((tb true), [.dead]))
     (cond (decide (s = (bs [101, 110, 100])))
      (R = ((tb true), [.dead]))
      (cond (decide (s = (bs [100, 111])))
       (R = ((tb true), [.dead]))
       (cond (decide (s = (bs [117, 110, 100, 111])))
        (R = ((tb true), [.dead]))
        (cond (decide (s = (bs [97, 116])))
         (R = ((tb true), [.dead]))
         (cond (decide (s = (bs [114, 101, 116, 114, 105, 101, 115])))
          (R = ((tb true), [.dead]))
          (cond (decide (s = (bs [111, 110])))
           (R = ((tb true), [.dead]))
           (cond (decide (s = (bs [105, 102])))
            (R = ((tb true), [.dead]))
            (cond (decide (s = (bs [103, 111])))
             (R = ((tb true), [.dead]))
             (cond (decide (s = (bs [115, 101, 116])))
              (R = ((tb true), [.dead]))
              (R = ((tb false), [.dead]))))))))))))))) : Rn 104 [(st s)] R := by
  refine fn_rule (ann := A104) (mv := MV) (fz := true) mixed Tryd.func104 (c := B104) (by kernel_rfl) (by decide) ?_
  all_goals revert h
  all_goals refine via ?_
  all_goals kernel_rfl
/- tumbrel/tumbrelref04.operator -/
noncomputable def A98 : Ann := mkAnn [] [] [] []
noncomputable abbrev B98 : Code := Tryd.f98.body.getD .skip
set_option maxRecDepth 100000 in
theorem f98 (s : ByteArray) (R : T × List T) (h : cond (decide (s = (bs [43])))
  (R = ((tb true), [.dead]))
  (cond (decide (s = (bs [45])))
   (R = ((tb true), [.dead]))
   (cond (decide (s = (bs [42])))
    (R = ((tb true), [.dead]))
    (cond (decide (s = (bs [60])))
     (R = ((tb true), [.dead]))
     (cond (decide (s = (bs [60, 61])))
      (R = ((tb true), [.dead]))
      (cond (decide (s = (bs [61, 61])))
       (R = ((tb true), [.dead]))
       (cond (decide (s = (bs [33, 61])))
        (R = ((tb true), [.dead]))
        (cond (decide (s = (bs [38, 38])))
         (R = ((tb true), [.dead]))
         (cond (decide (s = (bs [124, 124])))
          (R = ((tb true), [.dead]))
          (R = ((tb false), [.dead]))))))))))) : Rn 98 [(st s)] R := by
  refine fn_rule (ann := A98) (mv := MV) (fz := true) mixed Tryd.func98 (c := B98) (by kernel_rfl) (by decide) ?_
  all_goals revert h
  all_goals refine via ?_
  all_goals kernel_rfl
/- strconv.FormatUint -/
noncomputable def A106 : Ann := mkAnn [(17512, (fun a => [.ex (ByteArray) fun s => .done ((st s), [.dead, .dead])]))] [] [] []
noncomputable abbrev B106 : Code := Tryd.f106.body.getD .skip
set_option maxRecDepth 100000 in
theorem f106 (i : Int) (base : Int) (R : T × List T) (h : ∃ s : ByteArray, (Rn 116 [(.s (.int .u64 i)), (i64 base)] ((st s), [.dead, .dead])) ∧
  (R = ((st s), [.dead, .dead]))) : Rn 106 [(.s (.int .u64 i)), (i64 base)] R := by
  refine fn_rule (ann := A106) (mv := MV) (fz := true) mixed Tryd.func106 (c := B106) (by kernel_rfl) (by decide) ?_
  all_goals revert h
  all_goals refine via ?_
  all_goals kernel_rfl
/- internal/stringslite.HasPrefix -/
noncomputable def A107 : Ann := mkAnn [] [] [] []
noncomputable abbrev B107 : Code := Tryd.f107.body.getD .skip
set_option maxRecDepth 100000 in
theorem f107 (s : ByteArray) (prefix_ : ByteArray) (R : T × List T) (h : cond (decide (((((ByteArray.size prefix_) : Nat) : Int) : Int) ≤ (((ByteArray.size s) : Nat) : Int)))
  (((0 : Int) ≤ (((ByteArray.size prefix_) : Nat) : Int) ∧ (((ByteArray.size prefix_) : Nat) : Int) ≤ (((ByteArray.size s) : Nat) : Int)) ∧
   (R = ((tb (decide ((ByteArray.extract s 0 (Int.toNat (((ByteArray.size prefix_) : Nat) : Int))) = prefix_))), [.dead, .dead])))
  (R = ((tb false), [.dead, .dead]))) : Rn 107 [(st s), (st prefix_)] R := by
  refine fn_rule (ann := A107) (mv := MV) (fz := true) mixed Tryd.func107 (c := B107) (by kernel_rfl) (by decide) ?_
  all_goals revert h
  all_goals refine via ?_
  all_goals kernel_rfl
/- slices.Index[[]string,string] -/
noncomputable def A108 : Ann := mkAnn [] [(66728, [.ex ByteArray fun w => .done (st w)])] [] [(52, [0, 1, 7, 8])]
noncomputable abbrev B108 : Code := Tryd.f108.body.getD .skip
def L108_0 (s : List T) (s1 : ByteArray) (n : Int) (n1 : Int) (R : T × List T) : Prop := CutL Tryd.prog Tryd.f108 B108 true [1, 0, 1, 0, 0] (mkSt 19 [(0, (.sl 1 s)), (1, (st s1)), (7, (i64 n)), (8, (i64 n1))] []) [.dead, .dead] R
set_option maxRecDepth 100000 in
theorem l108_0 (s : List T) (s1 : ByteArray) (n : Int) (n1 : Int) (R : T × List T) (h : cond (decide ((n1 : Int) < n))
  (∃ s2 : ByteArray, ((0 : Int) ≤ n1 ∧ s[(Int.toNat n1)]? = some (st s2)) ∧
   (cond (decide (s1 = s2))
    (R = ((i64 n1), [.dead, .dead]))
    (L108_0 s s1 n (IntKind.wrap .i64 (n1 + 1)) R)))
  (R = ((i64 (-1)), [.dead, .dead]))) : L108_0 s s1 n n1 R := by
  unfold L108_0
  refine cutL_rule (ann := A108) (mv := MV) mixed (by kernel_rfl) ?_
  all_goals revert h
  all_goals refine via ?_
  all_goals kernel_rfl
set_option maxRecDepth 100000 in
theorem f108 (s : List T) (s1 : ByteArray) (R : T × List T) (h : L108_0 s s1 (((List.length s) : Nat) : Int) 0 R) : Rn 108 [(.sl 1 s), (st s1)] R := by
  refine fn_rule (ann := A108) (mv := MV) (fz := true) mixed Tryd.func108 (c := B108) (by kernel_rfl) (by decide) ?_
  all_goals revert h
  all_goals refine via ?_
  all_goals kernel_rfl
/- slices.IndexFunc[[]tumbrel/expr.Expr,tumbrel/expr.Expr] -/
noncomputable def A109 : Ann := mkAnn [(66856, (fun a => [.ex (Bool) fun b => .ex (Int) fun n => .done ((tb b), [.dead, (.cbox 3 [(i64 n)])])]))] [(66728, [.ex IfV fun w => .done w.v])] [] [(52, [0, 1, 7, 8])]
noncomputable abbrev B109 : Code := Tryd.f109.body.getD .skip
def L109_0 (s : List T) (n : Int) (n1 : Int) (n2 : Int) (R : T × List T) : Prop := CutL Tryd.prog Tryd.f109 B109 true [1, 0, 1, 0, 0] (mkSt 19 [(0, (.sl 1 s)), (1, (.fn (.func 94) [] [(.ptr (0, 0) 0)])), (7, (i64 n)), (8, (i64 n1))] [((0, 0), .box 3 [(i64 n2)])]) [.dead, (.fn (.func 94) [] [(.ptr (0, 0) 0)])] R
set_option maxRecDepth 100000 in
theorem l109_0 (s : List T) (n : Int) (n1 : Int) (n2 : Int) (R : T × List T) (h : cond (decide ((n1 : Int) < n))
  (∃ e : IfV, ((0 : Int) ≤ n1 ∧ s[(Int.toNat n1)]? = some e.v) ∧
   (∃ b : Bool, ∃ n3 : Int, (Rn 94 [e.v, (.cbox 3 [(i64 n2)])] ((tb b), [.dead, (.cbox 3 [(i64 n3)])])) ∧
    (cond b
     (R = ((i64 n1), [.dead, (.fn (.func 94) [] [(.cbox 3 [(i64 n3)])])]))
     (L109_0 s n (IntKind.wrap .i64 (n1 + 1)) n3 R))))
  (R = ((i64 (-1)), [.dead, (.fn (.func 94) [] [(.cbox 3 [(i64 n2)])])]))) : L109_0 s n n1 n2 R := by
  unfold L109_0
  refine cutL_rule (ann := A109) (mv := MV) mixed (by kernel_rfl) ?_
  all_goals revert h
  all_goals refine via ?_
  all_goals kernel_rfl
set_option maxRecDepth 100000 in
theorem f109 (s : List T) (n : Int) (R : T × List T) (h : L109_0 s (((List.length s) : Nat) : Int) 0 n R) : Rn 109 [(.sl 1 s), (.fn (.func 94) [] [(.cbox 3 [(i64 n)])])] R := by
  refine fn_rule (ann := A109) (mv := MV) (fz := true) mixed Tryd.func109 (c := B109) (by kernel_rfl) (by decide) ?_
  all_goals revert h
  all_goals refine via ?_
  all_goals kernel_rfl
/- tumbrel/expr.sound$1 -/
noncomputable def A94 : Ann := mkAnn [(17576, (fun a => [.ex (Bool) fun b => .done ((tb b), [.dead, .dead])]))] [] [] []
noncomputable abbrev B94 : Code := Tryd.f94.body.getD .skip
set_option maxRecDepth 100000 in
theorem f94 (e : IfV) (n : Int) (R : T × List T) (h : ∃ b : Bool, (Rn 63 [e.v, (i64 (IntKind.wrap .i64 (n - 1)))] ((tb b), [.dead, .dead])) ∧
  (R = ((tb (!b)), [.dead, (.cbox 3 [(i64 n)])]))) : Rn 94 [e.v, (.cbox 3 [(i64 n)])] R := by
  refine fn_rule (ann := A94) (mv := MV) (fz := true) mixed Tryd.func94 (c := B94) (by kernel_rfl) (by decide) ?_
  all_goals revert h
  all_goals refine via ?_
  all_goals kernel_rfl
end Go.Proofs.YthcaodlfnlhfbaaDoorT
