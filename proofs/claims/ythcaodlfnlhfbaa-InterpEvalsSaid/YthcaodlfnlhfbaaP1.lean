/- What is to be shown of functions of the program, by their texts (printed by a program of this work; the kernel holds each against the text). -/
import Derived.Test.YthcaodlfnlhfbaaP0
namespace Go.Proofs.YthcaodlfnlhfbaaT
open Go Go.Proofs
set_option linter.unusedVariables false
/- tumbrel/tumbrellaw13.InterpEvals -/
noncomputable def A4 : Ann := mkAnn [(17384, (fun a => [.ex (Bool) fun b => .done ((tb b), [])])), (17640, (fun a => [.ex (Bool) fun b => .done ((tb b), [.dead])])), (33768, (fun a => [.ex (Bool) fun b => .done ((tb b), [])])), (181288, (fun a => [.ex (IfV) fun e => .done (e.v, [.dead])])), (181416, (fun a => [.ex (List T) fun l => .ex (Int) fun n => .done ((.tup [(.sl 2 l), (i64 n)]), [.dead, .dead])])), (230440, (fun a => [.ex (IfV) fun e => .done (e.v, [.dead])])), (230568, (fun a => [.ex (Int) fun n => .ex (Int) fun n1 => .done ((.tup [(i64 n), (i64 n1)]), [.dead, .dead])])), (246888, (fun a => [.ex (Int) fun n => .ex (Int) fun n1 => .done ((.tup [(i64 n), (i64 n1)]), [.dead, .dead])]))] [(115816, [.ex W_api_Var fun w => .done w.t]), (148648, [.ex W_api_Var fun w => .done w.t])] [] [(244, [1, 2, 5, 27, 28])]
noncomputable abbrev B4 : Code := Try.f4.body.getD .skip
def L4_0 (vars : List T) (l : List T) (n : Int) (n1 : Int) (w : W_tumbrelref04_Node) (R : T × List T) : Prop := CutL Try.prog Try.f4 B4 true [1, 1, 1, 0, 1, 0, 0] (mkSt 80 [(1, (.sl 2 vars)), (2, (.ptr (1000000003, 0) 0)), (5, (mnT (1000000006, 0) l)), (27, (i64 n)), (28, (i64 n1))] ([((1000000003, 0), .box 46 [(i64 w.fKind), (i64 w.fN), (st w.fS), (.sl 4 w.fParts)])] ++ mnH (1000000006, 0) 2 1 l)) [.dead, .dead] R
set_option maxRecDepth 100000 in
theorem l4_0 (vars : List T) (l : List T) (n : Int) (n1 : Int) (w : W_tumbrelref04_Node) (R : T × List T) (h : cond (decide ((n1 : Int) < n))
  (∃ w1 : W_api_Var, ((0 : Int) ≤ n1 ∧ vars[(Int.toNat n1)]? = some w1.t) ∧
   (cond (decide ((1000 : Int) < (((ByteArray.size w1.fName) : Nat) : Int)))
    (R = ((tb true), [.dead, .dead]))
    (∃ w2 : W_api_Var, ((0 : Int) ≤ n1 ∧ vars[(Int.toNat n1)]? = some w2.t) ∧
     (chk (Nat.ble (((List.length l) + 1) * 8) 140737488355328)
      (L4_0 vars (l ++ [(i64 w2.fN)]) n (IntKind.wrap .i64 (n1 + 1)) w R)))))
  (∃ e : IfV, (Rn 13 [w.t] (e.v, [.dead])) ∧
   (∃ l1 : List T, ∃ n2 : Int, (Rn 12 [e.v, (.sl 2 vars)] ((.tup [(.sl 2 l1), (i64 n2)]), [.dead, .dead])) ∧
    (cond (!(decide ((n2 : Int) = 0)))
     (R = ((tb (decide (((((List.length l1) : Nat) : Int) : Int) = 0))), [.dead, .dead]))
     (∃ e1 : IfV, (Rn 13 [w.t] (e1.v, [.dead])) ∧
      (∃ n3 : Int, ∃ n4 : Int, (Rn 14 [e1.v, (.sl 2 vars)] ((.tup [(i64 n3), (i64 n4)]), [.dead, .dead])) ∧
       (∃ n5 : Int, ∃ n6 : Int, (Rn 15 [(.sl 2 l1), (.sl 1 l)] ((.tup [(i64 n5), (i64 n6)]), [.dead, .dead])) ∧
        (cond (decide ((n3 : Int) = n5))
         (R = ((tb (decide ((n4 : Int) = n6))), [.dead, .dead]))
         (R = ((tb false), [.dead, .dead])))))))))) : L4_0 vars l n n1 w R := by
  unfold L4_0
  refine cutL_rule (ann := A4) (mv := MV) mixed (by kernel_rfl) ?_
  all_goals rcases l with _ | ⟨_, _⟩
  all_goals revert h
  all_goals refine via ?_
  all_goals kernel_rfl
set_option maxRecDepth 100000 in
theorem f4 (w : W_tumbrelref04_Node) (vars : List T) (R : T × List T) (h : ∃ b : Bool, (Rn 10 [] ((tb b), [])) ∧
  (cond (!b)
   (∃ b1 : Bool, (Rn 10 [] ((tb b1), [])) ∧
    (R = ((tb b1), [.dead, .dead])))
   (∃ b2 : Bool, (Rn 11 [w.t] ((tb b2), [.dead])) ∧
    (cond (!b2)
     (∃ b3 : Bool, (Rn 10 [] ((tb b3), [])) ∧
      (R = ((tb b3), [.dead, .dead])))
     (cond (decide ((100 : Int) < (((List.length vars) : Nat) : Int)))
      (∃ b4 : Bool, (Rn 10 [] ((tb b4), [])) ∧
       (R = ((tb b4), [.dead, .dead])))
      (L4_0 vars ([] : List T) (((List.length vars) : Nat) : Int) 0 w R)))))) : Rn 4 [w.t, (.sl 2 vars)] R := by
  refine fn_rule (ann := A4) (mv := MV) (fz := true) mixed Try.func4 (c := B4) (by kernel_rfl) (by decide) ?_
  all_goals revert h
  all_goals refine via ?_
  all_goals kernel_rfl
/- tumbrel/tumbrellaw13.awake -/
noncomputable def A10 : Ann := mkAnn [(17512, (fun a => [.ex (Int) fun n => .ex (Int) fun n1 => .done ((.tup [(i64 n), (i64 n1)]), [.dead, .dead])]))] [] [] []
noncomputable abbrev B10 : Code := Try.f10.body.getD .skip
set_option maxRecDepth 100000 in
theorem f10 (R : T × List T) (h : ∃ n : Int, ∃ n1 : Int, (Rn 15 [(.sl 2 [(.agg [(st (bs [112, 117, 115, 104])), (i64 5)])]), (.sl 1 [])] ((.tup [(i64 n), (i64 n1)]), [.dead, .dead])) ∧
  (cond (decide ((n1 : Int) = 0))
   (R = ((tb (decide ((n : Int) = 5))), []))
   (R = ((tb false), [])))) : Rn 10 [] R := by
  refine fn_rule (ann := A10) (mv := MV) (fz := true) mixed Try.func10 (c := B10) (by kernel_rfl) (by decide) ?_
  all_goals revert h
  all_goals refine via ?_
  all_goals kernel_rfl
/- tumbrel/tumbrelref04.Small -/
noncomputable def A11 : Ann := mkAnn [(17448, (fun a => [.ex (Int) fun n => .done ((i64 n), [.dead, .dead, .dead])]))] [] [] []
noncomputable abbrev B11 : Code := Try.f11.body.getD .skip
set_option maxRecDepth 100000 in
theorem f11 (w : W_tumbrelref04_Node) (R : T × List T) (h : ∃ n : Int, (Rn 24 [w.t, (i64 0), (i64 200)] ((i64 n), [.dead, .dead, .dead])) ∧
  (R = ((tb (decide ((0 : Int) ≤ n))), [.dead]))) : Rn 11 [w.t] R := by
  refine fn_rule (ann := A11) (mv := MV) (fz := true) mixed Try.func11 (c := B11) (by kernel_rfl) (by decide) ?_
  all_goals revert h
  all_goals refine via ?_
  all_goals kernel_rfl
/- tumbrel/tumbrellaw04.Theirs -/
noncomputable def A13 : Ann := mkAnn [(132136, (fun a => [.ex (IfV) fun e => .done (e.v, [.dead, (a.getD 1 .dead)])])), (164904, (fun a => [.ex (IfV) fun e => .done (e.v, [.dead, (a.getD 1 .dead)])])), (197800, (fun a => [.ex (IfV) fun e => .done (e.v, [.dead, (a.getD 1 .dead)])])), (197928, (fun a => [.ex (IfV) fun e => .done (e.v, [.dead, (a.getD 1 .dead)])]))] [] [] [] [(197800, [(1000, 0)]), (197928, [(1000, 0)])]
noncomputable abbrev B13 : Code := Try.f13.body.getD .skip
set_option maxRecDepth 100000 in
theorem f13 (w : W_tumbrelref04_Node) (R : T × List T) (h : cond (decide ((w.fKind : Int) = 1))
  (R = ((.ifc 90 (.agg [(i64 w.fN)])), [.dead]))
  (cond (decide ((w.fKind : Int) = 2))
   (R = ((.ifc 92 (.agg [(st w.fS)])), [.dead]))
   (cond (decide ((w.fKind : Int) = 3))
    (∃ e : IfV, (Rn 31 [(i64 0), (.cbox 46 [(i64 w.fKind), (i64 w.fN), (st w.fS), (.sl 4 w.fParts)])] (e.v, [.dead, (.cbox 46 [(i64 w.fKind), (i64 w.fN), (st w.fS), (.sl 4 w.fParts)])])) ∧
     (R = ((.ifc 94 (.agg [e.v])), [.dead])))
    (cond (decide ((w.fKind : Int) = 4))
     (∃ e1 : IfV, (Rn 31 [(i64 0), (.cbox 46 [(i64 w.fKind), (i64 w.fN), (st w.fS), (.sl 4 w.fParts)])] (e1.v, [.dead, (.cbox 46 [(i64 w.fKind), (i64 w.fN), (st w.fS), (.sl 4 w.fParts)])])) ∧
      (R = ((.ifc 95 (.agg [e1.v])), [.dead])))
     (cond (decide ((w.fKind : Int) = 5))
      (∃ e2 : IfV, (Rn 31 [(i64 0), (.cbox 46 [(i64 w.fKind), (i64 w.fN), (st w.fS), (.sl 4 w.fParts)])] (e2.v, [.dead, (.cbox 46 [(i64 w.fKind), (i64 w.fN), (st w.fS), (.sl 4 w.fParts)])])) ∧
       (((some (.box 46 [(i64 w.fKind), (i64 w.fN), (st w.fS), (.sl 4 w.fParts)]) : Option O) = some (.box 46 [(i64 w.fKind), (i64 w.fN), (st w.fS), (.sl 4 w.fParts)])) ∧
        (∃ e3 : IfV, (Rn 31 [(i64 1), (.cbox 46 [(i64 w.fKind), (i64 w.fN), (st w.fS), (.sl 4 w.fParts)])] (e3.v, [.dead, (.cbox 46 [(i64 w.fKind), (i64 w.fN), (st w.fS), (.sl 4 w.fParts)])])) ∧
         (((some (.box 46 [(i64 w.fKind), (i64 w.fN), (st w.fS), (.sl 4 w.fParts)]) : Option O) = some (.box 46 [(i64 w.fKind), (i64 w.fN), (st w.fS), (.sl 4 w.fParts)])) ∧
          (R = ((.ifc 97 (.agg [(st w.fS), e2.v, e3.v])), [.dead]))))))
      (R = ((.ifc 0 .dead), [.dead]))))))) : Rn 13 [w.t] R := by
  refine fn_rule (ann := A13) (mv := MV) (fz := true) mixed Try.func13 (c := B13) (by kernel_rfl) (by decide) ?_
  all_goals revert h
  all_goals refine via ?_
  all_goals kernel_rfl
/- tumbrel/table.Code -/
noncomputable def A12 : Ann := mkAnn [(33832, (fun a => [.ex (Bool) fun b => .done ((tb b), [.dead])])), (66600, (fun a => [.ex (List T) fun l => .done ((.sl 1 l), [.dead])])), (66728, (fun a => [.ex (Bool) fun b => .done ((tb b), [.dead, (a.getD 1 .dead)])])), (99432, (fun a => [.ex (T) fun y => .ex (List T) fun l => .done ((.tup []), [(.cbox 80 [(capA (a.getD 0 .dead) 0), (.cown 76 2 (y :: l))]), .dead])]))] [] [] []
noncomputable abbrev B12 : Code := Try.f12.body.getD .skip
set_option maxRecDepth 100000 in
theorem f12 (e : IfV) (vars : List T) (R : T × List T) (h : ∃ b : Bool, (Rn 25 [e.v] ((tb b), [.dead])) ∧
  (cond (!b)
   (R = ((.tup [(.sl 2 []), (i64 1)]), [.dead, .dead]))
   (∃ l : List T, (Rn 27 [e.v] ((.sl 1 l), [.dead])) ∧
    (∃ b1 : Bool, (Rn 26 [(.sl 1 l), (.fn (.func 28) [] [(.cbox 78 [(.cbox 80 [(.sl 2 vars), nilS])])])] ((tb b1), [.dead, (.fn (.func 28) [] [(.cbox 78 [(.cbox 80 [(.sl 2 vars), nilS])])])])) ∧
     (cond b1
      (R = ((.tup [(.sl 2 []), (i64 5)]), [.dead, .dead]))
      (∃ y : T, ∃ l1 : List T, (Rn 30 [(.cbox 80 [(.sl 2 vars), nilS]), e.v] ((.tup []), [(.cbox 80 [(.sl 2 vars), (.cown 76 2 (y :: l1))]), .dead])) ∧
       (R = ((.tup [(.sl 2 (y :: l1)), (i64 0)]), [.dead, .dead])))))))) : Rn 12 [e.v, (.sl 2 vars)] R := by
  refine fn_rule (ann := A12) (mv := MV) (fz := true) mixed Try.func12 (c := B12) (by kernel_rfl) (by decide) ?_
  all_goals revert h
  all_goals refine via ?_
  all_goals kernel_rfl
/- tumbrel/expr.Eval -/
noncomputable def A14 : Ann := mkAnn [(17448, (fun a => [.ex (Bool) fun b => .done ((tb b), [.dead])])), (66664, (fun a => [.ex (Int) fun n => .ex (List T) fun l => .ex (Int) fun n1 => .done ((i64 n), [(.cbox 100 [(.sl 2 l), (i64 n1)]), .dead])]))] [] [] []
noncomputable abbrev B14 : Code := Try.f14.body.getD .skip
set_option maxRecDepth 100000 in
theorem f14 (e : IfV) (vars : List T) (R : T × List T) (h : ∃ b : Bool, (Rn 25 [e.v] ((tb b), [.dead])) ∧
  (cond (!b)
   (R = ((.tup [(i64 0), (i64 1)]), [.dead, .dead]))
   (∃ n : Int, ∃ l : List T, ∃ n1 : Int, (Rn 32 [(.cbox 100 [(.sl 2 vars), (i64 0)]), e.v] ((i64 n), [(.cbox 100 [(.sl 2 l), (i64 n1)]), .dead])) ∧
    (cond (!(decide ((n1 : Int) = 0)))
     (R = ((.tup [(i64 0), (i64 n1)]), [.dead, .dead]))
     (R = ((.tup [(i64 n), (i64 0)]), [.dead, .dead])))))) : Rn 14 [e.v, (.sl 2 vars)] R := by
  refine fn_rule (ann := A14) (mv := MV) (fz := true) mixed Try.func14 (c := B14) (by kernel_rfl) (by decide) ?_
  all_goals revert h
  all_goals refine via ?_
  all_goals kernel_rfl
/- tumbrel/tumbrelref04.small -/
noncomputable def A24 : Ann := mkAnn [(116200, (fun a => [.ex (Int) fun n => .done ((i64 n), [.dead, .dead, .dead])]))] [(115880, [.ex W_tumbrelref04_Node fun w => .done w.t])] [] [(244, [1, 2, 3, 24, 25])]
noncomputable abbrev B24 : Code := Try.f24.body.getD .skip
def L24_0 (depth : Int) (left : Int) (n : Int) (n1 : Int) (w : W_tumbrelref04_Node) (R : T × List T) : Prop := CutL Try.prog Try.f24 B24 true [1, 1, 1, 0, 1, 0, 0] (mkSt 41 [(1, (i64 depth)), (2, (i64 left)), (3, (.ptr (1000000004, 0) 0)), (24, (i64 n)), (25, (i64 n1))] [((1000000004, 0), .box 46 [(i64 w.fKind), (i64 w.fN), (st w.fS), (.sl 4 w.fParts)])]) [.dead, .dead, .dead] R
set_option maxRecDepth 100000 in
theorem l24_0 (depth : Int) (left : Int) (n : Int) (n1 : Int) (w : W_tumbrelref04_Node) (R : T × List T) (h : cond (decide ((n1 : Int) < n))
  (∃ w1 : W_tumbrelref04_Node, ((0 : Int) ≤ n1 ∧ w.fParts[(Int.toNat n1)]? = some w1.t) ∧
   (∃ n2 : Int, (Rn 24 [w1.t, (i64 (IntKind.wrap .i64 (depth + 1))), (i64 left)] ((i64 n2), [.dead, .dead, .dead])) ∧
    (cond (decide ((n2 : Int) < 0))
     (R = ((i64 (-1)), [.dead, .dead, .dead]))
     (L24_0 depth n2 n (IntKind.wrap .i64 (n1 + 1)) w R))))
  (R = ((i64 left), [.dead, .dead, .dead]))) : L24_0 depth left n n1 w R := by
  unfold L24_0
  refine cutL_rule (ann := A24) (mv := MV) mixed (by kernel_rfl) ?_
  all_goals revert h
  all_goals refine via ?_
  all_goals kernel_rfl
set_option maxRecDepth 100000 in
theorem f24 (w : W_tumbrelref04_Node) (depth : Int) (left : Int) (R : T × List T) (h : cond (decide ((60 : Int) < depth))
  (R = ((i64 (-1)), [.dead, .dead, .dead]))
  (cond (decide (((IntKind.wrap .i64 (left - 1)) : Int) < 0))
   (R = ((i64 (-1)), [.dead, .dead, .dead]))
   (cond (decide ((1000 : Int) < (((ByteArray.size w.fS) : Nat) : Int)))
    (R = ((i64 (-1)), [.dead, .dead, .dead]))
    (L24_0 depth (IntKind.wrap .i64 (left - 1)) (((List.length w.fParts) : Nat) : Int) 0 w R)))) : Rn 24 [w.t, (i64 depth), (i64 left)] R := by
  refine fn_rule (ann := A24) (mv := MV) (fz := true) mixed Try.func24 (c := B24) (by kernel_rfl) (by decide) ?_
  all_goals revert h
  all_goals refine via ?_
  all_goals kernel_rfl
/- tumbrel/tumbrellaw04.Theirs$1 -/
noncomputable def A31 : Ann := mkAnn [(34088, (fun a => [.ex (IfV) fun e => .done (e.v, [.dead])]))] [(33960, [.ex W_tumbrelref04_Node fun w => .done w.t])] [] []
noncomputable abbrev B31 : Code := Try.f31.body.getD .skip
set_option maxRecDepth 100000 in
theorem f31 (i : Int) (n : Int) (n1 : Int) (s : ByteArray) (l : List T) (R : T × List T) (h : cond (decide ((i : Int) < (((List.length l) : Nat) : Int)))
  (∃ w : W_tumbrelref04_Node, ((0 : Int) ≤ i ∧ l[(Int.toNat i)]? = some w.t) ∧
   (∃ e : IfV, (Rn 13 [w.t] (e.v, [.dead])) ∧
    (R = (e.v, [.dead, (.cbox 46 [(i64 n), (i64 n1), (st s), (.sl 4 l)])]))))
  (R = ((.ifc 0 .dead), [.dead, (.cbox 46 [(i64 n), (i64 n1), (st s), (.sl 4 l)])]))) : Rn 31 [(i64 i), (.cbox 46 [(i64 n), (i64 n1), (st s), (.sl 4 l)])] R := by
  refine fn_rule (ann := A31) (mv := MV) (fz := true) mixed Try.func31 (c := B31) (by kernel_rfl) (by decide) ?_
  all_goals revert h
  all_goals refine via ?_
  all_goals kernel_rfl
/- tumbrel/expr.Formed -/
noncomputable def A25 : Ann := mkAnn [(17448, (fun a => [.ex (Int) fun n => .done ((i64 n), [.dead])])), (17704, (fun a => [.ex (Bool) fun b => .done ((tb b), [.dead, .dead])]))] [] [] []
noncomputable abbrev B25 : Code := Try.f25.body.getD .skip
set_option maxRecDepth 100000 in
theorem f25 (e : IfV) (R : T × List T) (h : ∃ n : Int, (Rn 38 [e.v] ((i64 n), [.dead])) ∧
  (cond (decide ((n : Int) ≤ 40))
   (∃ b : Bool, (Rn 39 [e.v, (i64 12)] ((tb b), [.dead, .dead])) ∧
    (R = ((tb b), [.dead])))
   (R = ((tb false), [.dead])))) : Rn 25 [e.v] R := by
  refine fn_rule (ann := A25) (mv := MV) (fz := true) mixed Try.func25 (c := B25) (by kernel_rfl) (by decide) ?_
  all_goals revert h
  all_goals refine via ?_
  all_goals kernel_rfl
/- slices.ContainsFunc[[]string,string] -/
noncomputable def A26 : Ann := mkAnn [(17512, (fun a => [.ex (Int) fun n => .done ((i64 n), [.dead, (a.getD 1 .dead)])]))] [] [] []
noncomputable abbrev B26 : Code := Try.f26.body.getD .skip
set_option maxRecDepth 100000 in
theorem f26 (s : List T) (l : List T) (l1 : List T) (R : T × List T) (h : ∃ n : Int, (Rn 40 [(.sl 1 s), (.fn (.func 28) [] [(.cbox 78 [(.cbox 80 [(.sl 2 l), (mnC 76 2 l1)])])])] ((i64 n), [.dead, (.fn (.func 28) [] [(.cbox 78 [(.cbox 80 [(.sl 2 l), (mnC 76 2 l1)])])])])) ∧
  (R = ((tb (decide ((0 : Int) ≤ n))), [.dead, (.fn (.func 28) [] [(.cbox 78 [(.cbox 80 [(.sl 2 l), (mnC 76 2 l1)])])])]))) : Rn 26 [(.sl 1 s), (.fn (.func 28) [] [(.cbox 78 [(.cbox 80 [(.sl 2 l), (mnC 76 2 l1)])])])] R := by
  refine fn_rule (ann := A26) (mv := MV) (fz := true) mixed Try.func26 (c := B26) (by kernel_rfl) (by decide) ?_
  all_goals rcases l1 with _ | ⟨_, _⟩
  all_goals revert h
  all_goals refine via ?_
  all_goals kernel_rfl
/- (*tumbrel/table.coder).expr -/
noncomputable def A30 : Ann := mkAnn [(50344, (fun a => [.ex (T) fun y => .ex (List T) fun l => .done ((.tup []), [(.cbox 80 [(capA (a.getD 0 .dead) 0), (.cown 76 2 (y :: l))]), .dead, .dead])])), (99560, (fun a => [.ex (Int) fun n => .done ((i64 n), [(a.getD 0 .dead), .dead])])), (99624, (fun a => [.ex (T) fun y => .ex (List T) fun l => .done ((.tup []), [(.cbox 80 [(capA (a.getD 0 .dead) 0), (.cown 76 2 (y :: l))]), .dead, .dead])])), (148648, (fun a => [.ex (T) fun y => .ex (List T) fun l => .done ((.tup []), [(.cbox 80 [(capA (a.getD 0 .dead) 0), (.cown 76 2 (y :: l))]), .dead])])), (164904, (fun a => [.ex (T) fun y => .ex (List T) fun l => .done ((.tup []), [(.cbox 80 [(capA (a.getD 0 .dead) 0), (.cown 76 2 (y :: l))]), .dead, .dead])])), (214184, (fun a => [.ex (T) fun y => .ex (List T) fun l => .done ((.tup []), [(.cbox 80 [(capA (a.getD 0 .dead) 0), (.cown 76 2 (y :: l))]), .dead])])), (230440, (fun a => [.ex (T) fun y => .ex (List T) fun l => .done ((.tup []), [(.cbox 80 [(capA (a.getD 0 .dead) 0), (.cown 76 2 (y :: l))]), .dead, .dead])])), (279720, (fun a => [.ex (T) fun y => .ex (List T) fun l => .done ((.tup []), [(.cbox 80 [(capA (a.getD 0 .dead) 0), (.cown 76 2 (y :: l))]), .dead])])), (312488, (fun a => [.ex (T) fun y => .ex (List T) fun l => .done ((.tup []), [(.cbox 80 [(capA (a.getD 0 .dead) 0), (.cown 76 2 (y :: l))]), .dead])])), (328872, (fun a => [.ex (T) fun y => .ex (List T) fun l => .done ((.tup []), [(.cbox 80 [(capA (a.getD 0 .dead) 0), (.cown 76 2 (y :: l))]), .dead, .dead])])), (361640, (fun a => [.ex (T) fun y => .ex (List T) fun l => .done ((.tup []), [(.cbox 80 [(capA (a.getD 0 .dead) 0), (.cown 76 2 (y :: l))]), .dead, .dead])])), (394408, (fun a => [.ex (T) fun y => .ex (List T) fun l => .done ((.tup []), [(.cbox 80 [(capA (a.getD 0 .dead) 0), (.cown 76 2 (y :: l))]), .dead, .dead])]))] [(17384, [.ex W_expr_Lit fun w => .done w.t]), (66536, [.ex W_expr_Ref fun w => .done w.t]), (115688, [.ex W_expr_Not fun w => .done w.t]), (181224, [.ex W_expr_Neg fun w => .done w.t]), (246760, [.ex W_expr_Bin fun w => .done w.t])] [] []
noncomputable abbrev B30 : Code := Try.f30.body.getD .skip
set_option maxRecDepth 100000 in
theorem f30 (l : List T) (l1 : List T) (e : IfV) (R : T × List T) (h : cond (Nat.beq e.t 90)
  (∃ w : W_expr_Lit, (e.x = w.t) ∧
   (∃ y : T, ∃ l2 : List T, (Rn 47 [(.cbox 80 [(.sl 2 l), (mnC 76 2 l1)]), (st (bs [112, 117, 115, 104])), (i64 w.fN)] ((.tup []), [(.cbox 80 [(.sl 2 l), (.cown 76 2 (y :: l2))]), .dead, .dead])) ∧
    (R = ((.tup []), [(.cbox 80 [(.sl 2 l), (.cown 76 2 (y :: l2))]), .dead]))))
  (cond (Nat.beq e.t 92)
   (∃ w1 : W_expr_Ref, (e.x = w1.t) ∧
    (∃ n : Int, (Rn 29 [(.cbox 80 [(.sl 2 l), (mnC 76 2 l1)]), (st w1.fName)] ((i64 n), [(.cbox 80 [(.sl 2 l), (mnC 76 2 l1)]), .dead])) ∧
     (∃ y1 : T, ∃ l3 : List T, (Rn 47 [(.cbox 80 [(.sl 2 l), (mnC 76 2 l1)]), (st (bs [108, 111, 97, 100])), (i64 n)] ((.tup []), [(.cbox 80 [(.sl 2 l), (.cown 76 2 (y1 :: l3))]), .dead, .dead])) ∧
      (R = ((.tup []), [(.cbox 80 [(.sl 2 l), (.cown 76 2 (y1 :: l3))]), .dead])))))
   (cond (Nat.beq e.t 94)
    (∃ w2 : W_expr_Not, (e.x = w2.t) ∧
     (∃ y2 : T, ∃ l4 : List T, (Rn 30 [(.cbox 80 [(.sl 2 l), (mnC 76 2 l1)]), w2.fX.v] ((.tup []), [(.cbox 80 [(.sl 2 l), (.cown 76 2 (y2 :: l4))]), .dead])) ∧
      (∃ y3 : T, ∃ l5 : List T, (Rn 47 [(.cbox 80 [(.sl 2 l), (.cown 76 2 (y2 :: l4))]), (st (bs [110, 111, 116])), (i64 0)] ((.tup []), [(.cbox 80 [(.sl 2 l), (.cown 76 2 (y3 :: l5))]), .dead, .dead])) ∧
       (R = ((.tup []), [(.cbox 80 [(.sl 2 l), (.cown 76 2 (y3 :: l5))]), .dead])))))
    (cond (Nat.beq e.t 95)
     (∃ w3 : W_expr_Neg, (e.x = w3.t) ∧
      (∃ y4 : T, ∃ l6 : List T, (Rn 30 [(.cbox 80 [(.sl 2 l), (mnC 76 2 l1)]), w3.fX.v] ((.tup []), [(.cbox 80 [(.sl 2 l), (.cown 76 2 (y4 :: l6))]), .dead])) ∧
       (∃ y5 : T, ∃ l7 : List T, (Rn 47 [(.cbox 80 [(.sl 2 l), (.cown 76 2 (y4 :: l6))]), (st (bs [110, 101, 103])), (i64 0)] ((.tup []), [(.cbox 80 [(.sl 2 l), (.cown 76 2 (y5 :: l7))]), .dead, .dead])) ∧
        (R = ((.tup []), [(.cbox 80 [(.sl 2 l), (.cown 76 2 (y5 :: l7))]), .dead])))))
     (cond (Nat.beq e.t 97)
      (∃ w4 : W_expr_Bin, (e.x = w4.t) ∧
       (∃ y6 : T, ∃ l8 : List T, (Rn 30 [(.cbox 80 [(.sl 2 l), (mnC 76 2 l1)]), w4.fL.v] ((.tup []), [(.cbox 80 [(.sl 2 l), (.cown 76 2 (y6 :: l8))]), .dead])) ∧
        (cond (decide (w4.fOp = (bs [38, 38])))
         (∃ y7 : T, ∃ l9 : List T, (Rn 48 [(.cbox 80 [(.sl 2 l), (.cown 76 2 (y6 :: l8))]), (st (bs [97, 110, 100])), w4.fR.v] ((.tup []), [(.cbox 80 [(.sl 2 l), (.cown 76 2 (y7 :: l9))]), .dead, .dead])) ∧
          (R = ((.tup []), [(.cbox 80 [(.sl 2 l), (.cown 76 2 (y7 :: l9))]), .dead])))
         (cond (decide (w4.fOp = (bs [124, 124])))
          (∃ y8 : T, ∃ l10 : List T, (Rn 48 [(.cbox 80 [(.sl 2 l), (.cown 76 2 (y6 :: l8))]), (st (bs [111, 114])), w4.fR.v] ((.tup []), [(.cbox 80 [(.sl 2 l), (.cown 76 2 (y8 :: l10))]), .dead, .dead])) ∧
           (R = ((.tup []), [(.cbox 80 [(.sl 2 l), (.cown 76 2 (y8 :: l10))]), .dead])))
          (∃ y9 : T, ∃ l11 : List T, (Rn 30 [(.cbox 80 [(.sl 2 l), (.cown 76 2 (y6 :: l8))]), w4.fR.v] ((.tup []), [(.cbox 80 [(.sl 2 l), (.cown 76 2 (y9 :: l11))]), .dead])) ∧
           (∃ y10 : T, ∃ l12 : List T, (Rn 47 [(.cbox 80 [(.sl 2 l), (.cown 76 2 (y9 :: l11))]), (st w4.fOp), (i64 0)] ((.tup []), [(.cbox 80 [(.sl 2 l), (.cown 76 2 (y10 :: l12))]), .dead, .dead])) ∧
            (R = ((.tup []), [(.cbox 80 [(.sl 2 l), (.cown 76 2 (y10 :: l12))]), .dead]))))))))
      (R = ((.tup []), [(.cbox 80 [(.sl 2 l), (mnC 76 2 l1)]), .dead]))))))) : Rn 30 [(.cbox 80 [(.sl 2 l), (mnC 76 2 l1)]), e.v] R := by
  refine fn_rule (ann := A30) (mv := MV) (fz := true) mixed Try.func30 (c := B30) (by kernel_rfl) (by decide) ?_
  all_goals rcases l1 with _ | ⟨_, _⟩
  all_goals revert h
  all_goals refine via ?_
  all_goals kernel_rfl
/- (*tumbrel/expr.evaluator).value -/
noncomputable def A32 : Ann := mkAnn [(115880, (fun a => [.ex (Int) fun n => .ex (List T) fun l => .ex (Int) fun n1 => .done ((i64 n), [(.cbox 100 [(.sl 2 l), (i64 n1)]), .dead])])), (165032, (fun a => [.ex (Int) fun n => .ex (List T) fun l => .ex (Int) fun n1 => .done ((i64 n), [(.cbox 100 [(.sl 2 l), (i64 n1)]), .dead])])), (165160, (fun a => [.ex (Int) fun n => .done ((i64 n), [.dead])])), (214184, (fun a => [.ex (Int) fun n => .ex (List T) fun l => .ex (Int) fun n1 => .done ((i64 n), [(.cbox 100 [(.sl 2 l), (i64 n1)]), .dead])])), (230568, (fun a => [.ex (Int) fun n => .ex (List T) fun l => .ex (Int) fun n1 => .done ((i64 n), [(.cbox 100 [(.sl 2 l), (i64 n1)]), .dead])]))] [(33768, [.ex W_expr_Lit fun w => .done w.t]), (82920, [.ex W_expr_Ref fun w => .done w.t]), (132072, [.ex W_expr_Not fun w => .done w.t]), (181224, [.ex W_expr_Neg fun w => .done w.t]), (230504, [.ex W_expr_Bin fun w => .done w.t])] [] []
noncomputable abbrev B32 : Code := Try.f32.body.getD .skip
set_option maxRecDepth 100000 in
theorem f32 (l : List T) (n : Int) (e : IfV) (R : T × List T) (h : cond (Nat.beq e.t 90)
  (∃ w : W_expr_Lit, (e.x = w.t) ∧
   (R = ((i64 w.fN), [(.cbox 100 [(.sl 2 l), (i64 n)]), .dead])))
  (cond (Nat.beq e.t 92)
   (∃ w1 : W_expr_Ref, (e.x = w1.t) ∧
    (∃ n1 : Int, ∃ l1 : List T, ∃ n2 : Int, (Rn 49 [(.cbox 100 [(.sl 2 l), (i64 n)]), (st w1.fName)] ((i64 n1), [(.cbox 100 [(.sl 2 l1), (i64 n2)]), .dead])) ∧
     (R = ((i64 n1), [(.cbox 100 [(.sl 2 l1), (i64 n2)]), .dead]))))
   (cond (Nat.beq e.t 94)
    (∃ w2 : W_expr_Not, (e.x = w2.t) ∧
     (∃ n3 : Int, ∃ l2 : List T, ∃ n4 : Int, (Rn 32 [(.cbox 100 [(.sl 2 l), (i64 n)]), w2.fX.v] ((i64 n3), [(.cbox 100 [(.sl 2 l2), (i64 n4)]), .dead])) ∧
      (∃ n5 : Int, (Rn 50 [(tb (decide ((n3 : Int) = 0)))] ((i64 n5), [.dead])) ∧
       (R = ((i64 n5), [(.cbox 100 [(.sl 2 l2), (i64 n4)]), .dead])))))
    (cond (Nat.beq e.t 95)
     (∃ w3 : W_expr_Neg, (e.x = w3.t) ∧
      (∃ n6 : Int, ∃ l3 : List T, ∃ n7 : Int, (Rn 32 [(.cbox 100 [(.sl 2 l), (i64 n)]), w3.fX.v] ((i64 n6), [(.cbox 100 [(.sl 2 l3), (i64 n7)]), .dead])) ∧
       (R = ((i64 (IntKind.wrap .i64 (0 - n6))), [(.cbox 100 [(.sl 2 l3), (i64 n7)]), .dead]))))
     (cond (Nat.beq e.t 97)
      (∃ w4 : W_expr_Bin, (e.x = w4.t) ∧
       (∃ n8 : Int, ∃ l4 : List T, ∃ n9 : Int, (Rn 51 [(.cbox 100 [(.sl 2 l), (i64 n)]), w4.t] ((i64 n8), [(.cbox 100 [(.sl 2 l4), (i64 n9)]), .dead])) ∧
        (R = ((i64 n8), [(.cbox 100 [(.sl 2 l4), (i64 n9)]), .dead]))))
      (False)))))) : Rn 32 [(.cbox 100 [(.sl 2 l), (i64 n)]), e.v] R := by
  refine fn_rule (ann := A32) (mv := MV) (fz := true) mixed Try.func32 (c := B32) (by kernel_rfl) (by decide) ?_
  all_goals revert h
  all_goals refine via ?_
  all_goals kernel_rfl
/- tumbrel/expr.Nodes -/
noncomputable def A38 : Ann := mkAnn [(17448, (fun a => [.ex (Int) fun n => .done ((i64 n), [.dead, .dead])]))] [] [] []
noncomputable abbrev B38 : Code := Try.f38.body.getD .skip
set_option maxRecDepth 100000 in
theorem f38 (e : IfV) (R : T × List T) (h : ∃ n : Int, (Rn 58 [e.v, (i64 40)] ((i64 n), [.dead, .dead])) ∧
  (R = ((i64 (if (41 : Int) < n then 41 else n)), [.dead]))) : Rn 38 [e.v] R := by
  refine fn_rule (ann := A38) (mv := MV) (fz := true) mixed Try.func38 (c := B38) (by kernel_rfl) (by decide) ?_
  all_goals revert h
  all_goals refine via ?_
  all_goals kernel_rfl
/- tumbrel/expr.sound -/
noncomputable def A39 : Ann := mkAnn [(99624, (fun a => [.ex (Bool) fun b => .done ((tb b), [.dead])])), (132200, (fun a => [.ex (List T) fun l => .done ((.sl 1 l), [])])), (132392, (fun a => [.ex (Bool) fun b => .done ((tb b), [.dead, .dead])])), (164904, (fun a => [.ex (List T) fun l => .done ((.sl 1 l), [.dead])])), (181864, (fun a => [.ex (Bool) fun b => .ex (Int) fun n => .done ((tb b), [.dead, (.fn (.func 63) [] [(.cbox 3 [(i64 n)])])])]))] [(17448, [.ex W_expr_Lit fun w => .done w.t]), (66600, [.ex W_expr_Ref fun w => .done w.t]), (115752, [.ex W_expr_Bin fun w => .done w.t])] [] []
noncomputable abbrev B39 : Code := Try.f39.body.getD .skip
set_option maxRecDepth 100000 in
theorem f39 (e : IfV) (nest : Int) (R : T × List T) (h : cond (Nat.beq e.t 90)
  (∃ w : W_expr_Lit, (e.x = w.t) ∧
   (cond (decide ((0 : Int) < nest))
    (cond (decide ((0 : Int) ≤ w.fN))
     (R = ((tb (decide ((w.fN : Int) ≤ 1000000000))), [.dead, .dead]))
     (R = ((tb false), [.dead, .dead])))
    (R = ((tb false), [.dead, .dead]))))
  (cond (Nat.beq e.t 92)
   (∃ w1 : W_expr_Ref, (e.x = w1.t) ∧
    (cond (decide ((0 : Int) < nest))
     (∃ b : Bool, (Rn 59 [(st w1.fName)] ((tb b), [.dead])) ∧
      (R = ((tb b), [.dead, .dead])))
     (R = ((tb false), [.dead, .dead]))))
   (cond (Nat.beq e.t 97)
    (∃ w2 : W_expr_Bin, (e.x = w2.t) ∧
     (∃ l : List T, (Rn 61 [] ((.sl 1 l), [])) ∧
      (∃ b1 : Bool, (Rn 60 [(.sl 1 l), (st w2.fOp)] ((tb b1), [.dead, .dead])) ∧
       (cond (!b1)
        (R = ((tb false), [.dead, .dead]))
        (∃ l1 : List T, (Rn 42 [e.v] ((.sl 1 l1), [.dead])) ∧
         (cond (decide ((0 : Int) < nest))
          (cond (decide ((0 : Int) < (((List.length l1) : Nat) : Int)))
           (∃ b2 : Bool, ∃ n : Int, (Rn 62 [(.sl 1 l1), (.fn (.func 63) [] [(.cbox 3 [(i64 nest)])])] ((tb b2), [.dead, (.fn (.func 63) [] [(.cbox 3 [(i64 n)])])])) ∧
            (R = ((tb (!b2)), [.dead, .dead])))
           (R = ((tb false), [.dead, .dead])))
          (R = ((tb false), [.dead, .dead]))))))))
    (∃ l2 : List T, (Rn 42 [e.v] ((.sl 1 l2), [.dead])) ∧
     (cond (decide ((0 : Int) < nest))
      (cond (decide ((0 : Int) < (((List.length l2) : Nat) : Int)))
       (∃ b3 : Bool, ∃ n1 : Int, (Rn 62 [(.sl 1 l2), (.fn (.func 63) [] [(.cbox 3 [(i64 nest)])])] ((tb b3), [.dead, (.fn (.func 63) [] [(.cbox 3 [(i64 n1)])])])) ∧
        (R = ((tb (!b3)), [.dead, .dead])))
       (R = ((tb false), [.dead, .dead])))
      (R = ((tb false), [.dead, .dead]))))))) : Rn 39 [e.v, (i64 nest)] R := by
  refine fn_rule (ann := A39) (mv := MV) (fz := true) mixed Try.func39 (c := B39) (by kernel_rfl) (by decide) ?_
  all_goals revert h
  all_goals refine via ?_
  all_goals kernel_rfl
/- slices.IndexFunc[[]string,string] -/
noncomputable def A40 : Ann := mkAnn [(66856, (fun a => [.ex (Bool) fun b => .done ((tb b), [.dead, (a.getD 1 .dead)])]))] [(66728, [.ex ByteArray fun w => .done (st w)])] [] [(52, [0, 1, 7, 8])]
noncomputable abbrev B40 : Code := Try.f40.body.getD .skip
def L40_0 (s : List T) (n : Int) (n1 : Int) (l : List T) (l1 : List T) (R : T × List T) : Prop := CutL Try.prog Try.f40 B40 true [1, 0, 1, 0, 0] (mkSt 19 [(0, (.sl 1 s)), (1, (.fn (.func 28) [] [(.ptr (0, 0) 0)])), (7, (i64 n)), (8, (i64 n1))] (([((0, 0), .box 78 [(.ptr (1, 0) 0)]), ((1, 0), .box 80 [(.sl 2 l), (mnT (2, 0) l1)])] ++ mnH (2, 0) 76 2 l1))) [.dead, (.fn (.func 28) [] [(.ptr (0, 0) 0)])] R
def L40_0a (s : List T) (n : Int) (n1 : Int) (l : List T) (l1 : List T) (R : T × List T) : Prop := CutL Try.prog Try.f40 B40 true [1, 0, 1, 0, 0] (mkSt 19 [(0, (.sl 1 s)), (1, (.fn (.func 28) [] [(.ptr (0, 0) 0)])), (7, (i64 n)), (8, (i64 n1))] (([((0, 0), .box 78 [(.ptr (1000041089, 0) 0)]), ((1000041089, 0), .box 80 [(.sl 2 l), (mnT (1005259394, 0) l1)])] ++ mnH (1005259394, 0) 76 2 l1))) [.dead, (.fn (.func 28) [] [(.ptr (0, 0) 0)])] R
set_option maxRecDepth 100000 in
theorem l40_0 (s : List T) (n : Int) (n1 : Int) (l : List T) (l1 : List T) (R : T × List T) (h : cond (decide ((n1 : Int) < n))
  (∃ s1 : ByteArray, ((0 : Int) ≤ n1 ∧ s[(Int.toNat n1)]? = some (st s1)) ∧
   (∃ b : Bool, (Rn 28 [(st s1), (.cbox 78 [(.cbox 80 [(.sl 2 l), (mnC 76 2 l1)])])] ((tb b), [.dead, (.cbox 78 [(.cbox 80 [(.sl 2 l), (mnC 76 2 l1)])])])) ∧
    (cond b
     (R = ((i64 n1), [.dead, (.fn (.func 28) [] [(.cbox 78 [(.cbox 80 [(.sl 2 l), (mnC 76 2 l1)])])])]))
     (L40_0a s n (IntKind.wrap .i64 (n1 + 1)) l l1 R))))
  (R = ((i64 (-1)), [.dead, (.fn (.func 28) [] [(.cbox 78 [(.cbox 80 [(.sl 2 l), (mnC 76 2 l1)])])])]))) : L40_0 s n n1 l l1 R := by
  unfold L40_0
  refine cutL_rule (ann := A40) (mv := MV) mixed (by kernel_rfl) ?_
  all_goals rcases l1 with _ | ⟨_, _⟩
  all_goals revert h
  all_goals refine via ?_
  all_goals kernel_rfl
set_option maxRecDepth 100000 in
theorem l40_0a (s : List T) (n : Int) (n1 : Int) (l : List T) (l1 : List T) (R : T × List T) (h : cond (decide ((n1 : Int) < n))
  (∃ s1 : ByteArray, ((0 : Int) ≤ n1 ∧ s[(Int.toNat n1)]? = some (st s1)) ∧
   (∃ b : Bool, (Rn 28 [(st s1), (.cbox 78 [(.cbox 80 [(.sl 2 l), (mnC 76 2 l1)])])] ((tb b), [.dead, (.cbox 78 [(.cbox 80 [(.sl 2 l), (mnC 76 2 l1)])])])) ∧
    (cond b
     (R = ((i64 n1), [.dead, (.fn (.func 28) [] [(.cbox 78 [(.cbox 80 [(.sl 2 l), (mnC 76 2 l1)])])])]))
     (L40_0a s n (IntKind.wrap .i64 (n1 + 1)) l l1 R))))
  (R = ((i64 (-1)), [.dead, (.fn (.func 28) [] [(.cbox 78 [(.cbox 80 [(.sl 2 l), (mnC 76 2 l1)])])])]))) : L40_0a s n n1 l l1 R := by
  unfold L40_0a
  refine cutL_rule (ann := A40) (mv := MV) mixed (by kernel_rfl) ?_
  all_goals rcases l1 with _ | ⟨_, _⟩
  all_goals revert h
  all_goals refine via ?_
  all_goals kernel_rfl
set_option maxRecDepth 100000 in
theorem f40 (s : List T) (l : List T) (l1 : List T) (R : T × List T) (h : L40_0 s (((List.length s) : Nat) : Int) 0 l l1 R) : Rn 40 [(.sl 1 s), (.fn (.func 28) [] [(.cbox 78 [(.cbox 80 [(.sl 2 l), (mnC 76 2 l1)])])])] R := by
  refine fn_rule (ann := A40) (mv := MV) (fz := true) mixed Try.func40 (c := B40) (by kernel_rfl) (by decide) ?_
  all_goals rcases l1 with _ | ⟨_, _⟩
  all_goals revert h
  all_goals refine via ?_
  all_goals kernel_rfl
/- (*tumbrel/table.coder).add -/
noncomputable def A47 : Ann := mkAnn [] [] [] []
noncomputable abbrev B47 : Code := Try.f47.body.getD .skip
set_option maxRecDepth 100000 in
theorem f47 (l : List T) (l1 : List T) (op : ByteArray) (n : Int) (R : T × List T) (h : chk (Nat.ble (((List.length l1) + 1) * 24) 140737488355328)
  (R = ((.tup []), [(.cbox 80 [(.sl 2 l), (.cown 76 2 (l1 ++ [(.agg [(st op), (i64 n)])]))]), .dead, .dead]))) : Rn 47 [(.cbox 80 [(.sl 2 l), (mnC 76 2 l1)]), (st op), (i64 n)] R := by
  refine fn_rule (ann := A47) (mv := MV) (fz := true) mixed Try.func47 (c := B47) (by kernel_rfl) (by decide) ?_
  all_goals rcases l1 with _ | ⟨_, _⟩
  all_goals revert h
  all_goals refine via ?_
  all_goals kernel_rfl
/- (*tumbrel/table.coder).variable -/
noncomputable def A29 : Ann := mkAnn [(17704, (fun a => [.ex (Int) fun n => .done ((i64 n), [.dead, (a.getD 1 .dead)])]))] [] [] []
noncomputable abbrev B29 : Code := Try.f29.body.getD .skip
set_option maxRecDepth 100000 in
theorem f29 (l : List T) (l1 : List T) (name : ByteArray) (R : T × List T) (h : ∃ n : Int, (Rn 45 [(.sl 2 l), (.fn (.func 46) [] [(.cbox 9 [(st name)])])] ((i64 n), [.dead, (.fn (.func 46) [] [(.cbox 9 [(st name)])])])) ∧
  (R = ((i64 n), [(.cbox 80 [(.sl 2 l), (mnC 76 2 l1)]), .dead]))) : Rn 29 [(.cbox 80 [(.sl 2 l), (mnC 76 2 l1)]), (st name)] R := by
  refine fn_rule (ann := A29) (mv := MV) (fz := true) mixed Try.func29 (c := B29) (by kernel_rfl) (by decide) ?_
  all_goals rcases l1 with _ | ⟨_, _⟩
  all_goals revert h
  all_goals refine via ?_
  all_goals kernel_rfl
/- (*tumbrel/table.coder).jump -/
noncomputable def A48 : Ann := mkAnn [(17512, (fun a => [.ex (T) fun y => .ex (List T) fun l => .done ((.tup []), [(.cbox 80 [(capA (a.getD 0 .dead) 0), (.cown 76 2 (y :: l))]), .dead, .dead])])), (33896, (fun a => [.ex (T) fun y => .ex (List T) fun l => .done ((.tup []), [(.cbox 80 [(capA (a.getD 0 .dead) 0), (.cown 76 2 (y :: l))]), .dead])])), (50216, (fun a => [.ex (T) fun y => .ex (List T) fun l => .done ((.tup []), [(.cbox 80 [(capA (a.getD 0 .dead) 0), (.cown 76 2 (y :: l))]), .dead, .dead])]))] [(67496, [.ex W_table_Instr fun w => .done w.t])] [] []
noncomputable abbrev B48 : Code := Try.f48.body.getD .skip
set_option maxRecDepth 100000 in
theorem f48 (l : List T) (l1 : List T) (op : ByteArray) (e : IfV) (R : T × List T) (h : ∃ y : T, ∃ l2 : List T, (Rn 47 [(.cbox 80 [(.sl 2 l), (mnC 76 2 l1)]), (st op), (i64 0)] ((.tup []), [(.cbox 80 [(.sl 2 l), (.cown 76 2 (y :: l2))]), .dead, .dead])) ∧
  (∃ y1 : T, ∃ l3 : List T, (Rn 30 [(.cbox 80 [(.sl 2 l), (.cown 76 2 (y :: l2))]), e.v] ((.tup []), [(.cbox 80 [(.sl 2 l), (.cown 76 2 (y1 :: l3))]), .dead])) ∧
   (∃ y2 : T, ∃ l4 : List T, (Rn 47 [(.cbox 80 [(.sl 2 l), (.cown 76 2 (y1 :: l3))]), (st (bs [98, 111, 111, 108])), (i64 0)] ((.tup []), [(.cbox 80 [(.sl 2 l), (.cown 76 2 (y2 :: l4))]), .dead, .dead])) ∧
    (((0 : Int) ≤ (((List.length l1) : Nat) : Int) ∧ (((List.length l1) : Nat) : Int) < (((List.length (y2 :: l4)) : Nat) : Int)) ∧
     (∃ w : W_table_Instr, ((y2 :: l4)[(Int.toNat (((List.length l1) : Nat) : Int))]? = some w.t) ∧
      (R = ((.tup []), [(.cbox 80 [(.sl 2 l), (.cown 76 2 (List.set (y2 :: l4) (Int.toNat (((List.length l1) : Nat) : Int)) (.agg [(st w.fOp), (i64 (IntKind.wrap .i64 ((IntKind.wrap .i64 ((((List.length (y2 :: l4)) : Nat) : Int) - (((List.length l1) : Nat) : Int))) - 1)))])))]), .dead, .dead]))))))) : Rn 48 [(.cbox 80 [(.sl 2 l), (mnC 76 2 l1)]), (st op), e.v] R := by
  refine fn_rule (ann := A48) (mv := MV) (fz := true) mixed Try.func48 (c := B48) (by kernel_rfl) (by decide) ?_
  all_goals rcases l1 with _ | ⟨_, _⟩
  all_goals revert h
  all_goals refine via ?_
  all_goals kernel_rfl
/- (*tumbrel/expr.evaluator).load -/
noncomputable def A49 : Ann := mkAnn [(17704, (fun a => [.ex (Int) fun n => .done ((i64 n), [.dead, (a.getD 1 .dead)])])), (83496, (fun a => [.ex (Int) fun n => .ex (List T) fun l => .ex (Int) fun n1 => .done ((i64 n), [(.cbox 100 [(.sl 2 l), (i64 n1)]), .dead])]))] [(83304, [.ex W_api_Var fun w => .done w.t])] [] []
noncomputable abbrev B49 : Code := Try.f49.body.getD .skip
set_option maxRecDepth 100000 in
theorem f49 (l : List T) (n : Int) (name : ByteArray) (R : T × List T) (h : ∃ n1 : Int, (Rn 45 [(.sl 2 l), (.fn (.func 67) [] [(.cbox 9 [(st name)])])] ((i64 n1), [.dead, (.fn (.func 67) [] [(.cbox 9 [(st name)])])])) ∧
  (cond (decide ((n1 : Int) < 0))
   (R = ((i64 0), [(.cbox 100 [(.sl 2 l), (i64 5)]), .dead]))
   (∃ w : W_api_Var, ((0 : Int) ≤ n1 ∧ l[(Int.toNat n1)]? = some w.t) ∧
    (∃ n2 : Int, ∃ l1 : List T, ∃ n3 : Int, (Rn 68 [(.cbox 100 [(.sl 2 l), (i64 n)]), (i64 w.fN)] ((i64 n2), [(.cbox 100 [(.sl 2 l1), (i64 n3)]), .dead])) ∧
     (R = ((i64 n2), [(.cbox 100 [(.sl 2 l1), (i64 n3)]), .dead])))))) : Rn 49 [(.cbox 100 [(.sl 2 l), (i64 n)]), (st name)] R := by
  refine fn_rule (ann := A49) (mv := MV) (fz := true) mixed Try.func49 (c := B49) (by kernel_rfl) (by decide) ?_
  all_goals revert h
  all_goals refine via ?_
  all_goals kernel_rfl
/- tumbrel/expr.truth -/
noncomputable def A50 : Ann := mkAnn [] [] [] []
noncomputable abbrev B50 : Code := Try.f50.body.getD .skip
set_option maxRecDepth 100000 in
theorem f50 (b : Bool) (R : T × List T) (h : cond b
  (R = ((i64 1), [.dead]))
  (R = ((i64 0), [.dead]))) : Rn 50 [(tb b)] R := by
  refine fn_rule (ann := A50) (mv := MV) (fz := true) mixed Try.func50 (c := B50) (by kernel_rfl) (by decide) ?_
  all_goals revert h
  all_goals refine via ?_
  all_goals kernel_rfl
/- (*tumbrel/expr.evaluator).bin -/
noncomputable def A51 : Ann := mkAnn [(17576, (fun a => [.ex (Int) fun n => .ex (List T) fun l => .ex (Int) fun n1 => .done ((i64 n), [(.cbox 100 [(.sl 2 l), (i64 n1)]), .dead])])), (50280, (fun a => [.ex (Int) fun n => .done ((i64 n), [.dead])])), (66728, (fun a => [.ex (Int) fun n => .ex (List T) fun l => .ex (Int) fun n1 => .done ((i64 n), [(.cbox 100 [(.sl 2 l), (i64 n1)]), .dead])])), (148712, (fun a => [.ex (Int) fun n => .ex (List T) fun l => .ex (Int) fun n1 => .done ((i64 n), [(.cbox 100 [(.sl 2 l), (i64 n1)]), .dead])])), (181480, (fun a => [.ex (Int) fun n => .ex (List T) fun l => .ex (Int) fun n1 => .done ((i64 n), [(.cbox 100 [(.sl 2 l), (i64 n1)]), .dead])])), (214248, (fun a => [.ex (Int) fun n => .ex (List T) fun l => .ex (Int) fun n1 => .done ((i64 n), [(.cbox 100 [(.sl 2 l), (i64 n1)]), .dead])])), (246952, (fun a => [.ex (Int) fun n => .done ((i64 n), [.dead])])), (279720, (fun a => [.ex (Int) fun n => .done ((i64 n), [.dead])])), (312488, (fun a => [.ex (Int) fun n => .done ((i64 n), [.dead])])), (345256, (fun a => [.ex (Int) fun n => .done ((i64 n), [.dead])])), (361576, (fun a => [.ex (Int) fun n => .done ((i64 n), [.dead])]))] [] [] []
noncomputable abbrev B51 : Code := Try.f51.body.getD .skip
set_option maxRecDepth 100000 in
theorem f51 (l : List T) (n : Int) (w : W_expr_Bin) (R : T × List T) (h : ∃ n1 : Int, ∃ l1 : List T, ∃ n2 : Int, (Rn 32 [(.cbox 100 [(.sl 2 l), (i64 n)]), w.fL.v] ((i64 n1), [(.cbox 100 [(.sl 2 l1), (i64 n2)]), .dead])) ∧
  (cond (!(decide ((n2 : Int) = 0)))
   (∃ n3 : Int, (Rn 50 [(tb (!(decide ((n1 : Int) = 0))))] ((i64 n3), [.dead])) ∧
    (R = ((i64 n3), [(.cbox 100 [(.sl 2 l1), (i64 n2)]), .dead])))
   (cond (decide (w.fOp = (bs [38, 38])))
    (cond (decide ((n1 : Int) = 0))
     (∃ n4 : Int, (Rn 50 [(tb (!(decide ((n1 : Int) = 0))))] ((i64 n4), [.dead])) ∧
      (R = ((i64 n4), [(.cbox 100 [(.sl 2 l1), (i64 n2)]), .dead])))
     (cond (decide (w.fOp = (bs [124, 124])))
      (cond (!(decide ((n1 : Int) = 0)))
       (∃ n5 : Int, (Rn 50 [(tb (!(decide ((n1 : Int) = 0))))] ((i64 n5), [.dead])) ∧
        (R = ((i64 n5), [(.cbox 100 [(.sl 2 l1), (i64 n2)]), .dead])))
       (∃ n6 : Int, ∃ l2 : List T, ∃ n7 : Int, (Rn 32 [(.cbox 100 [(.sl 2 l1), (i64 n2)]), w.fR.v] ((i64 n6), [(.cbox 100 [(.sl 2 l2), (i64 n7)]), .dead])) ∧
        (cond (!(decide ((n7 : Int) = 0)))
         (R = ((i64 0), [(.cbox 100 [(.sl 2 l2), (i64 n7)]), .dead]))
         (cond (decide (w.fOp = (bs [43])))
          (∃ n8 : Int, ∃ l3 : List T, ∃ n9 : Int, (Rn 68 [(.cbox 100 [(.sl 2 l2), (i64 n7)]), (i64 (IntKind.wrap .i64 (n1 + n6)))] ((i64 n8), [(.cbox 100 [(.sl 2 l3), (i64 n9)]), .dead])) ∧
           (R = ((i64 n8), [(.cbox 100 [(.sl 2 l3), (i64 n9)]), .dead])))
          (cond (decide (w.fOp = (bs [45])))
           (∃ n10 : Int, ∃ l4 : List T, ∃ n11 : Int, (Rn 68 [(.cbox 100 [(.sl 2 l2), (i64 n7)]), (i64 (IntKind.wrap .i64 (n1 - n6)))] ((i64 n10), [(.cbox 100 [(.sl 2 l4), (i64 n11)]), .dead])) ∧
            (R = ((i64 n10), [(.cbox 100 [(.sl 2 l4), (i64 n11)]), .dead])))
           (cond (decide (w.fOp = (bs [42])))
            (∃ n12 : Int, ∃ l5 : List T, ∃ n13 : Int, (Rn 68 [(.cbox 100 [(.sl 2 l2), (i64 n7)]), (i64 (IntKind.wrap .i64 (n1 * n6)))] ((i64 n12), [(.cbox 100 [(.sl 2 l5), (i64 n13)]), .dead])) ∧
             (R = ((i64 n12), [(.cbox 100 [(.sl 2 l5), (i64 n13)]), .dead])))
            (cond (decide (w.fOp = (bs [60])))
             (∃ n14 : Int, (Rn 50 [(tb (decide ((n1 : Int) < n6)))] ((i64 n14), [.dead])) ∧
              (R = ((i64 n14), [(.cbox 100 [(.sl 2 l2), (i64 n7)]), .dead])))
             (cond (decide (w.fOp = (bs [60, 61])))
              (∃ n15 : Int, (Rn 50 [(tb (decide ((n1 : Int) ≤ n6)))] ((i64 n15), [.dead])) ∧
               (R = ((i64 n15), [(.cbox 100 [(.sl 2 l2), (i64 n7)]), .dead])))
              (cond (decide (w.fOp = (bs [61, 61])))
               (∃ n16 : Int, (Rn 50 [(tb (decide ((n1 : Int) = n6)))] ((i64 n16), [.dead])) ∧
                (R = ((i64 n16), [(.cbox 100 [(.sl 2 l2), (i64 n7)]), .dead])))
               (cond (decide (w.fOp = (bs [33, 61])))
                (∃ n17 : Int, (Rn 50 [(tb (!(decide ((n1 : Int) = n6))))] ((i64 n17), [.dead])) ∧
                 (R = ((i64 n17), [(.cbox 100 [(.sl 2 l2), (i64 n7)]), .dead])))
                (∃ n18 : Int, (Rn 50 [(tb (!(decide ((n6 : Int) = 0))))] ((i64 n18), [.dead])) ∧
                 (R = ((i64 n18), [(.cbox 100 [(.sl 2 l2), (i64 n7)]), .dead])))))))))))))
      (∃ n19 : Int, ∃ l6 : List T, ∃ n20 : Int, (Rn 32 [(.cbox 100 [(.sl 2 l1), (i64 n2)]), w.fR.v] ((i64 n19), [(.cbox 100 [(.sl 2 l6), (i64 n20)]), .dead])) ∧
       (cond (!(decide ((n20 : Int) = 0)))
        (R = ((i64 0), [(.cbox 100 [(.sl 2 l6), (i64 n20)]), .dead]))
        (cond (decide (w.fOp = (bs [43])))
         (∃ n21 : Int, ∃ l7 : List T, ∃ n22 : Int, (Rn 68 [(.cbox 100 [(.sl 2 l6), (i64 n20)]), (i64 (IntKind.wrap .i64 (n1 + n19)))] ((i64 n21), [(.cbox 100 [(.sl 2 l7), (i64 n22)]), .dead])) ∧
          (R = ((i64 n21), [(.cbox 100 [(.sl 2 l7), (i64 n22)]), .dead])))
         (cond (decide (w.fOp = (bs [45])))
          (∃ n23 : Int, ∃ l8 : List T, ∃ n24 : Int, (Rn 68 [(.cbox 100 [(.sl 2 l6), (i64 n20)]), (i64 (IntKind.wrap .i64 (n1 - n19)))] ((i64 n23), [(.cbox 100 [(.sl 2 l8), (i64 n24)]), .dead])) ∧
           (R = ((i64 n23), [(.cbox 100 [(.sl 2 l8), (i64 n24)]), .dead])))
          (cond (decide (w.fOp = (bs [42])))
           (∃ n25 : Int, ∃ l9 : List T, ∃ n26 : Int, (Rn 68 [(.cbox 100 [(.sl 2 l6), (i64 n20)]), (i64 (IntKind.wrap .i64 (n1 * n19)))] ((i64 n25), [(.cbox 100 [(.sl 2 l9), (i64 n26)]), .dead])) ∧
            (R = ((i64 n25), [(.cbox 100 [(.sl 2 l9), (i64 n26)]), .dead])))
           (cond (decide (w.fOp = (bs [60])))
            (∃ n27 : Int, (Rn 50 [(tb (decide ((n1 : Int) < n19)))] ((i64 n27), [.dead])) ∧
             (R = ((i64 n27), [(.cbox 100 [(.sl 2 l6), (i64 n20)]), .dead])))
            (cond (decide (w.fOp = (bs [60, 61])))
             (∃ n28 : Int, (Rn 50 [(tb (decide ((n1 : Int) ≤ n19)))] ((i64 n28), [.dead])) ∧
              (R = ((i64 n28), [(.cbox 100 [(.sl 2 l6), (i64 n20)]), .dead])))
             (cond (decide (w.fOp = (bs [61, 61])))
              (∃ n29 : Int, (Rn 50 [(tb (decide ((n1 : Int) = n19)))] ((i64 n29), [.dead])) ∧
               (R = ((i64 n29), [(.cbox 100 [(.sl 2 l6), (i64 n20)]), .dead])))
              (cond (decide (w.fOp = (bs [33, 61])))
               (∃ n30 : Int, (Rn 50 [(tb (!(decide ((n1 : Int) = n19))))] ((i64 n30), [.dead])) ∧
                (R = ((i64 n30), [(.cbox 100 [(.sl 2 l6), (i64 n20)]), .dead])))
               (∃ n31 : Int, (Rn 50 [(tb (!(decide ((n19 : Int) = 0))))] ((i64 n31), [.dead])) ∧
                (R = ((i64 n31), [(.cbox 100 [(.sl 2 l6), (i64 n20)]), .dead]))))))))))))))
    (cond (decide (w.fOp = (bs [124, 124])))
     (cond (!(decide ((n1 : Int) = 0)))
      (∃ n32 : Int, (Rn 50 [(tb (!(decide ((n1 : Int) = 0))))] ((i64 n32), [.dead])) ∧
       (R = ((i64 n32), [(.cbox 100 [(.sl 2 l1), (i64 n2)]), .dead])))
      (∃ n33 : Int, ∃ l10 : List T, ∃ n34 : Int, (Rn 32 [(.cbox 100 [(.sl 2 l1), (i64 n2)]), w.fR.v] ((i64 n33), [(.cbox 100 [(.sl 2 l10), (i64 n34)]), .dead])) ∧
       (cond (!(decide ((n34 : Int) = 0)))
        (R = ((i64 0), [(.cbox 100 [(.sl 2 l10), (i64 n34)]), .dead]))
        (cond (decide (w.fOp = (bs [43])))
         (∃ n35 : Int, ∃ l11 : List T, ∃ n36 : Int, (Rn 68 [(.cbox 100 [(.sl 2 l10), (i64 n34)]), (i64 (IntKind.wrap .i64 (n1 + n33)))] ((i64 n35), [(.cbox 100 [(.sl 2 l11), (i64 n36)]), .dead])) ∧
          (R = ((i64 n35), [(.cbox 100 [(.sl 2 l11), (i64 n36)]), .dead])))
         (cond (decide (w.fOp = (bs [45])))
          (∃ n37 : Int, ∃ l12 : List T, ∃ n38 : Int, (Rn 68 [(.cbox 100 [(.sl 2 l10), (i64 n34)]), (i64 (IntKind.wrap .i64 (n1 - n33)))] ((i64 n37), [(.cbox 100 [(.sl 2 l12), (i64 n38)]), .dead])) ∧
           (R = ((i64 n37), [(.cbox 100 [(.sl 2 l12), (i64 n38)]), .dead])))
          (cond (decide (w.fOp = (bs [42])))
           (∃ n39 : Int, ∃ l13 : List T, ∃ n40 : Int, (Rn 68 [(.cbox 100 [(.sl 2 l10), (i64 n34)]), (i64 (IntKind.wrap .i64 (n1 * n33)))] ((i64 n39), [(.cbox 100 [(.sl 2 l13), (i64 n40)]), .dead])) ∧
            (R = ((i64 n39), [(.cbox 100 [(.sl 2 l13), (i64 n40)]), .dead])))
           (cond (decide (w.fOp = (bs [60])))
            (∃ n41 : Int, (Rn 50 [(tb (decide ((n1 : Int) < n33)))] ((i64 n41), [.dead])) ∧
             (R = ((i64 n41), [(.cbox 100 [(.sl 2 l10), (i64 n34)]), .dead])))
            (cond (decide (w.fOp = (bs [60, 61])))
             (∃ n42 : Int, (Rn 50 [(tb (decide ((n1 : Int) ≤ n33)))] ((i64 n42), [.dead])) ∧
              (R = ((i64 n42), [(.cbox 100 [(.sl 2 l10), (i64 n34)]), .dead])))
             (cond (decide (w.fOp = (bs [61, 61])))
              (∃ n43 : Int, (Rn 50 [(tb (decide ((n1 : Int) = n33)))] ((i64 n43), [.dead])) ∧
               (R = ((i64 n43), [(.cbox 100 [(.sl 2 l10), (i64 n34)]), .dead])))
              (cond (decide (w.fOp = (bs [33, 61])))
               (∃ n44 : Int, (Rn 50 [(tb (!(decide ((n1 : Int) = n33))))] ((i64 n44), [.dead])) ∧
                (R = ((i64 n44), [(.cbox 100 [(.sl 2 l10), (i64 n34)]), .dead])))
               (∃ n45 : Int, (Rn 50 [(tb (!(decide ((n33 : Int) = 0))))] ((i64 n45), [.dead])) ∧
                (R = ((i64 n45), [(.cbox 100 [(.sl 2 l10), (i64 n34)]), .dead])))))))))))))
     (∃ n46 : Int, ∃ l14 : List T, ∃ n47 : Int, (Rn 32 [(.cbox 100 [(.sl 2 l1), (i64 n2)]), w.fR.v] ((i64 n46), [(.cbox 100 [(.sl 2 l14), (i64 n47)]), .dead])) ∧
      (cond (!(decide ((n47 : Int) = 0)))
       (R = ((i64 0), [(.cbox 100 [(.sl 2 l14), (i64 n47)]), .dead]))
       (cond (decide (w.fOp = (bs [43])))
        (∃ n48 : Int, ∃ l15 : List T, ∃ n49 : Int, (Rn 68 [(.cbox 100 [(.sl 2 l14), (i64 n47)]), (i64 (IntKind.wrap .i64 (n1 + n46)))] ((i64 n48), [(.cbox 100 [(.sl 2 l15), (i64 n49)]), .dead])) ∧
         (R = ((i64 n48), [(.cbox 100 [(.sl 2 l15), (i64 n49)]), .dead])))
        (cond (decide (w.fOp = (bs [45])))
         (∃ n50 : Int, ∃ l16 : List T, ∃ n51 : Int, (Rn 68 [(.cbox 100 [(.sl 2 l14), (i64 n47)]), (i64 (IntKind.wrap .i64 (n1 - n46)))] ((i64 n50), [(.cbox 100 [(.sl 2 l16), (i64 n51)]), .dead])) ∧
          (R = ((i64 n50), [(.cbox 100 [(.sl 2 l16), (i64 n51)]), .dead])))
         (cond (decide (w.fOp = (bs [42])))
          (∃ n52 : Int, ∃ l17 : List T, ∃ n53 : Int, (Rn 68 [(.cbox 100 [(.sl 2 l14), (i64 n47)]), (i64 (IntKind.wrap .i64 (n1 * n46)))] ((i64 n52), [(.cbox 100 [(.sl 2 l17), (i64 n53)]), .dead])) ∧
           (R = ((i64 n52), [(.cbox 100 [(.sl 2 l17), (i64 n53)]), .dead])))
          (cond (decide (w.fOp = (bs [60])))
           (∃ n54 : Int, (Rn 50 [(tb (decide ((n1 : Int) < n46)))] ((i64 n54), [.dead])) ∧
            (R = ((i64 n54), [(.cbox 100 [(.sl 2 l14), (i64 n47)]), .dead])))
           (cond (decide (w.fOp = (bs [60, 61])))
            (∃ n55 : Int, (Rn 50 [(tb (decide ((n1 : Int) ≤ n46)))] ((i64 n55), [.dead])) ∧
             (R = ((i64 n55), [(.cbox 100 [(.sl 2 l14), (i64 n47)]), .dead])))
            (cond (decide (w.fOp = (bs [61, 61])))
             (∃ n56 : Int, (Rn 50 [(tb (decide ((n1 : Int) = n46)))] ((i64 n56), [.dead])) ∧
              (R = ((i64 n56), [(.cbox 100 [(.sl 2 l14), (i64 n47)]), .dead])))
             (cond (decide (w.fOp = (bs [33, 61])))
              (∃ n57 : Int, (Rn 50 [(tb (!(decide ((n1 : Int) = n46))))] ((i64 n57), [.dead])) ∧
               (R = ((i64 n57), [(.cbox 100 [(.sl 2 l14), (i64 n47)]), .dead])))
              (∃ n58 : Int, (Rn 50 [(tb (!(decide ((n46 : Int) = 0))))] ((i64 n58), [.dead])) ∧
               (R = ((i64 n58), [(.cbox 100 [(.sl 2 l14), (i64 n47)]), .dead])))))))))))))))) : Rn 51 [(.cbox 100 [(.sl 2 l), (i64 n)]), w.t] R := by
  refine fn_rule (ann := A51) (mv := MV) (fz := true) mixed Try.func51 (c := B51) (by kernel_rfl) (by decide) ?_
  all_goals revert h
  all_goals refine via ?_
  all_goals kernel_rfl
/- tumbrel/expr.count -/
noncomputable def A58 : Ann := mkAnn [(33832, (fun a => [.ex (List T) fun l => .done ((.sl 1 l), [.dead])])), (99624, (fun a => [.ex (Int) fun n => .done ((i64 n), [.dead, .dead])]))] [(66536, [.ex IfV fun w => .done w.v])] [] [(116, [1, 5, 9, 10, 11])]
noncomputable abbrev B58 : Code := Try.f58.body.getD .skip
def L58_0 (left : Int) (n : Int) (l : List T) (n1 : Int) (n2 : Int) (R : T × List T) : Prop := CutL Try.prog Try.f58 B58 true [1, 1, 0, 1, 0, 0] (mkSt 27 [(1, (i64 left)), (5, (i64 n)), (9, (.sl 1 l)), (10, (i64 n1)), (11, (i64 n2))] []) [.dead, .dead] R
set_option maxRecDepth 100000 in
theorem l58_0 (left : Int) (n : Int) (l : List T) (n1 : Int) (n2 : Int) (R : T × List T) (h : cond (decide ((n2 : Int) < n1))
  (∃ e : IfV, ((0 : Int) ≤ n2 ∧ l[(Int.toNat n2)]? = some e.v) ∧
   (cond (decide ((n : Int) ≤ left))
    (∃ n3 : Int, (Rn 58 [e.v, (i64 (IntKind.wrap .i64 (left - n)))] ((i64 n3), [.dead, .dead])) ∧
     (L58_0 left (IntKind.wrap .i64 (n + n3)) l n1 (IntKind.wrap .i64 (n2 + 1)) R))
    (L58_0 left n l n1 (IntKind.wrap .i64 (n2 + 1)) R)))
  (R = ((i64 n), [.dead, .dead]))) : L58_0 left n l n1 n2 R := by
  unfold L58_0
  refine cutL_rule (ann := A58) (mv := MV) mixed (by kernel_rfl) ?_
  all_goals revert h
  all_goals refine via ?_
  all_goals kernel_rfl
set_option maxRecDepth 100000 in
theorem f58 (e : IfV) (left : Int) (R : T × List T) (h : ∃ l : List T, (Rn 42 [e.v] ((.sl 1 l), [.dead])) ∧
  (L58_0 left 1 l (((List.length l) : Nat) : Int) 0 R)) : Rn 58 [e.v, (i64 left)] R := by
  refine fn_rule (ann := A58) (mv := MV) (fz := true) mixed Try.func58 (c := B58) (by kernel_rfl) (by decide) ?_
  all_goals revert h
  all_goals refine via ?_
  all_goals kernel_rfl
/- tumbrel/glyph.Name -/
noncomputable def A59 : Ann := mkAnn [(82984, (fun a => [.ex (Bool) fun b => .done ((tb b), [.dead])])), (83432, (fun a => [.ex (Bool) fun b => .done ((tb b), [.dead])]))] [] [] [(116, [3, 7])]
noncomputable abbrev B59 : Code := Try.f59.body.getD .skip
def L59_0 (n : Int) (s : ByteArray) (pos : Nat) (R : T × List T) : Prop := CutL Try.prog Try.f59 B59 true [1, 1, 0, 1, 0, 0] (mkSt 32 [(3, (i64 n)), (7, (.it (1000000008, 0)))] [((1000000008, 0), .iter s pos)]) [.dead] R
set_option maxRecDepth 100000 in
theorem l59_0 (n : Int) (s : ByteArray) (pos : Nat) (R : T × List T) (h : cond (Nat.ble (pos + 1) (ByteArray.size s))
  (∃ b : Bool, (Rn 69 [(i32 (Utf8.decode s pos).1)] ((tb b), [.dead])) ∧
   (cond (!b)
    (R = ((tb false), [.dead]))
    (cond (decide ((((pos : Nat) : Int) : Int) = 0))
     (∃ b1 : Bool, (Rn 70 [(i32 (Utf8.decode s pos).1)] ((tb b1), [.dead])) ∧
      (cond (!b1)
       (R = ((tb false), [.dead]))
       (L59_0 (IntKind.wrap .i64 (n + 1)) s (pos + (Utf8.decode s pos).2) R)))
     (L59_0 (IntKind.wrap .i64 (n + 1)) s (pos + (Utf8.decode s pos).2) R))))
  (cond (decide ((0 : Int) < n))
   (R = ((tb (decide ((n : Int) ≤ 24))), [.dead]))
   (R = ((tb false), [.dead])))) : L59_0 n s pos R := by
  unfold L59_0
  refine cutL_rule (ann := A59) (mv := MV) mixed (by kernel_rfl) ?_
  all_goals revert h
  all_goals refine via ?_
  all_goals kernel_rfl
set_option maxRecDepth 100000 in
theorem f59 (s : ByteArray) (R : T × List T) (h : L59_0 0 s 0 R) : Rn 59 [(st s)] R := by
  refine fn_rule (ann := A59) (mv := MV) (fz := true) mixed Try.func59 (c := B59) (by kernel_rfl) (by decide) ?_
  all_goals revert h
  all_goals refine via ?_
  all_goals kernel_rfl
/- tumbrel/expr.Operators -/
noncomputable def A61 : Ann := mkAnn [] [] [] []
noncomputable abbrev B61 : Code := Try.f61.body.getD .skip
set_option maxRecDepth 100000 in
theorem f61 (R : T × List T) (h : R = ((.sl 1 [(st (bs [43])), (st (bs [45])), (st (bs [42])), (st (bs [60])), (st (bs [60, 61])), (st (bs [61, 61])), (st (bs [33, 61])), (st (bs [38, 38])), (st (bs [124, 124]))]), [])) : Rn 61 [] R := by
  refine fn_rule (ann := A61) (mv := MV) (fz := true) mixed Try.func61 (c := B61) (by kernel_rfl) (by decide) ?_
  all_goals revert h
  all_goals refine via ?_
  all_goals kernel_rfl
/- slices.Contains[[]string,string] -/
noncomputable def A60 : Ann := mkAnn [(17512, (fun a => [.ex (Int) fun n => .done ((i64 n), [.dead, .dead])]))] [] [] []
noncomputable abbrev B60 : Code := Try.f60.body.getD .skip
set_option maxRecDepth 100000 in
theorem f60 (s : List T) (s1 : ByteArray) (R : T × List T) (h : ∃ n : Int, (Rn 71 [(.sl 1 s), (st s1)] ((i64 n), [.dead, .dead])) ∧
  (R = ((tb (decide ((0 : Int) ≤ n))), [.dead, .dead]))) : Rn 60 [(.sl 1 s), (st s1)] R := by
  refine fn_rule (ann := A60) (mv := MV) (fz := true) mixed Try.func60 (c := B60) (by kernel_rfl) (by decide) ?_
  all_goals revert h
  all_goals refine via ?_
  all_goals kernel_rfl
/- tumbrel/expr.operands -/
noncomputable def A42 : Ann := mkAnn [] [(17448, [.ex W_expr_Not fun w => .done w.t]), (66600, [.ex W_expr_Neg fun w => .done w.t]), (115752, [.ex W_expr_Bin fun w => .done w.t])] [] []
noncomputable abbrev B42 : Code := Try.f42.body.getD .skip
set_option maxRecDepth 100000 in
theorem f42 (e : IfV) (R : T × List T) (h : cond (Nat.beq e.t 94)
  (∃ w : W_expr_Not, (e.x = w.t) ∧
   (R = ((.sl 1 [w.fX.v]), [.dead])))
  (cond (Nat.beq e.t 95)
   (∃ w1 : W_expr_Neg, (e.x = w1.t) ∧
    (R = ((.sl 1 [w1.fX.v]), [.dead])))
   (cond (Nat.beq e.t 97)
    (∃ w2 : W_expr_Bin, (e.x = w2.t) ∧
     (R = ((.sl 1 [w2.fL.v, w2.fR.v]), [.dead])))
    (R = ((.sl 1 []), [.dead]))))) : Rn 42 [e.v] R := by
  refine fn_rule (ann := A42) (mv := MV) (fz := true) mixed Try.func42 (c := B42) (by kernel_rfl) (by decide) ?_
  all_goals revert h
  all_goals refine via ?_
  all_goals kernel_rfl
/- slices.ContainsFunc[[]tumbrel/expr.Expr,tumbrel/expr.Expr] -/
noncomputable def A62 : Ann := mkAnn [(17512, (fun a => [.ex (Int) fun n => .ex (Int) fun n1 => .done ((i64 n), [.dead, (.fn (.func 63) [] [(.cbox 3 [(i64 n1)])])])]))] [] [] []
noncomputable abbrev B62 : Code := Try.f62.body.getD .skip
set_option maxRecDepth 100000 in
theorem f62 (s : List T) (n : Int) (R : T × List T) (h : ∃ n1 : Int, ∃ n2 : Int, (Rn 72 [(.sl 1 s), (.fn (.func 63) [] [(.cbox 3 [(i64 n)])])] ((i64 n1), [.dead, (.fn (.func 63) [] [(.cbox 3 [(i64 n2)])])])) ∧
  (R = ((tb (decide ((0 : Int) ≤ n1))), [.dead, (.fn (.func 63) [] [(.cbox 3 [(i64 n2)])])]))) : Rn 62 [(.sl 1 s), (.fn (.func 63) [] [(.cbox 3 [(i64 n)])])] R := by
  refine fn_rule (ann := A62) (mv := MV) (fz := true) mixed Try.func62 (c := B62) (by kernel_rfl) (by decide) ?_
  all_goals revert h
  all_goals refine via ?_
  all_goals kernel_rfl
/- tumbrel/table.Code$1 -/
noncomputable def A28 : Ann := mkAnn [(17512, (fun a => [.ex (Int) fun n => .done ((i64 n), [(a.getD 0 .dead), .dead])]))] [] [] []
noncomputable abbrev B28 : Code := Try.f28.body.getD .skip
set_option maxRecDepth 100000 in
theorem f28 (n : ByteArray) (l : List T) (l1 : List T) (R : T × List T) (h : ∃ n1 : Int, (Rn 29 [(.cbox 80 [(.sl 2 l), (mnC 76 2 l1)]), (st n)] ((i64 n1), [(.cbox 80 [(.sl 2 l), (mnC 76 2 l1)]), .dead])) ∧
  (R = ((tb (decide ((n1 : Int) < 0))), [.dead, (.cbox 78 [(.cbox 80 [(.sl 2 l), (mnC 76 2 l1)])])]))) : Rn 28 [(st n), (.cbox 78 [(.cbox 80 [(.sl 2 l), (mnC 76 2 l1)])])] R := by
  refine fn_rule (ann := A28) (mv := MV) (fz := true) mixed Try.func28 (c := B28) (by kernel_rfl) (by decide) ?_
  all_goals rcases l1 with _ | ⟨_, _⟩
  all_goals revert h
  all_goals refine via ?_
  all_goals kernel_rfl
/- slices.IndexFunc[[]tumbrel/api.Var,tumbrel/api.Var] -/
noncomputable def A45 : Ann := mkAnn [(66856, (fun a => [.ex (Bool) fun b => .done ((tb b), [.dead, (a.getD 1 .dead)])]))] [(66728, [.ex W_api_Var fun w => .done w.t])] [] [(52, [0, 1, 7, 8])]
noncomputable abbrev B45 : Code := Try.f45.body.getD .skip
def L45_0 (s : List T) (n : Int) (n1 : Int) (s1 : ByteArray) (R : T × List T) : Prop := CutL Try.prog Try.f45 B45 true [1, 0, 1, 0, 0] (mkSt 19 [(0, (.sl 2 s)), (1, (.fn (.func 46) [] [(.ptr (0, 0) 0)])), (7, (i64 n)), (8, (i64 n1))] [((0, 0), .box 9 [(st s1)])]) [.dead, (.fn (.func 46) [] [(.ptr (0, 0) 0)])] R
set_option maxRecDepth 100000 in
theorem l45_0 (s : List T) (n : Int) (n1 : Int) (s1 : ByteArray) (R : T × List T) (h : cond (decide ((n1 : Int) < n))
  (∃ w : W_api_Var, ((0 : Int) ≤ n1 ∧ s[(Int.toNat n1)]? = some w.t) ∧
   (∃ b : Bool, (Rn 46 [w.t, (.cbox 9 [(st s1)])] ((tb b), [.dead, (.cbox 9 [(st s1)])])) ∧
    (cond b
     (R = ((i64 n1), [.dead, (.fn (.func 46) [] [(.cbox 9 [(st s1)])])]))
     (L45_0 s n (IntKind.wrap .i64 (n1 + 1)) s1 R))))
  (R = ((i64 (-1)), [.dead, (.fn (.func 46) [] [(.cbox 9 [(st s1)])])]))) : L45_0 s n n1 s1 R := by
  unfold L45_0
  refine cutL_rule (ann := A45) (mv := MV) mixed (by kernel_rfl) ?_
  all_goals revert h
  all_goals refine via ?_
  all_goals kernel_rfl
set_option maxRecDepth 100000 in
theorem f45 (s : List T) (s1 : ByteArray) (R : T × List T) (h : L45_0 s (((List.length s) : Nat) : Int) 0 s1 R) : Rn 45 [(.sl 2 s), (.fn (.func 46) [] [(.cbox 9 [(st s1)])])] R := by
  refine fn_rule (ann := A45) (mv := MV) (fz := true) mixed Try.func45 (c := B45) (by kernel_rfl) (by decide) ?_
  all_goals revert h
  all_goals refine via ?_
  all_goals kernel_rfl
/- slices.IndexFunc[[]tumbrel/api.Var,tumbrel/api.Var] -/
noncomputable def A45b : Ann := mkAnn [(66856, (fun a => [.ex (Bool) fun b => .ex (ByteArray) fun s => .done ((tb b), [.dead, (.cbox 9 [(st s)])])]))] [(66728, [.ex W_api_Var fun w => .done w.t])] [] [(52, [0, 1, 7, 8])]
noncomputable abbrev B45b : Code := Try.f45.body.getD .skip
def L45b_0 (s : List T) (n : Int) (n1 : Int) (s1 : ByteArray) (R : T × List T) : Prop := CutL Try.prog Try.f45 B45b true [1, 0, 1, 0, 0] (mkSt 19 [(0, (.sl 2 s)), (1, (.fn (.func 67) [] [(.ptr (0, 0) 0)])), (7, (i64 n)), (8, (i64 n1))] [((0, 0), .box 9 [(st s1)])]) [.dead, (.fn (.func 67) [] [(.ptr (0, 0) 0)])] R
set_option maxRecDepth 100000 in
theorem l45b_0 (s : List T) (n : Int) (n1 : Int) (s1 : ByteArray) (R : T × List T) (h : cond (decide ((n1 : Int) < n))
  (∃ w : W_api_Var, ((0 : Int) ≤ n1 ∧ s[(Int.toNat n1)]? = some w.t) ∧
   (∃ b : Bool, ∃ s2 : ByteArray, (Rn 67 [w.t, (.cbox 9 [(st s1)])] ((tb b), [.dead, (.cbox 9 [(st s2)])])) ∧
    (cond b
     (R = ((i64 n1), [.dead, (.fn (.func 67) [] [(.cbox 9 [(st s2)])])]))
     (L45b_0 s n (IntKind.wrap .i64 (n1 + 1)) s2 R))))
  (R = ((i64 (-1)), [.dead, (.fn (.func 67) [] [(.cbox 9 [(st s1)])])]))) : L45b_0 s n n1 s1 R := by
  unfold L45b_0
  refine cutL_rule (ann := A45b) (mv := MV) mixed (by kernel_rfl) ?_
  all_goals revert h
  all_goals refine via ?_
  all_goals kernel_rfl
set_option maxRecDepth 100000 in
theorem f45b (s : List T) (s1 : ByteArray) (R : T × List T) (h : L45b_0 s (((List.length s) : Nat) : Int) 0 s1 R) : Rn 45 [(.sl 2 s), (.fn (.func 67) [] [(.cbox 9 [(st s1)])])] R := by
  refine fn_rule (ann := A45b) (mv := MV) (fz := true) mixed Try.func45 (c := B45b) (by kernel_rfl) (by decide) ?_
  all_goals revert h
  all_goals refine via ?_
  all_goals kernel_rfl
/- (*tumbrel/expr.evaluator).bound -/
noncomputable def A68 : Ann := mkAnn [] [] [] []
noncomputable abbrev B68 : Code := Try.f68.body.getD .skip
set_option maxRecDepth 100000 in
theorem f68 (l : List T) (n : Int) (n1 : Int) (R : T × List T) (h : cond (decide ((n1 : Int) < (-1000000000)))
  (cond (decide ((n : Int) = 0))
   (R = ((i64 n1), [(.cbox 100 [(.sl 2 l), (i64 3)]), .dead]))
   (R = ((i64 n1), [(.cbox 100 [(.sl 2 l), (i64 n)]), .dead])))
  (cond (decide ((1000000000 : Int) < n1))
   (cond (decide ((n : Int) = 0))
    (R = ((i64 n1), [(.cbox 100 [(.sl 2 l), (i64 3)]), .dead]))
    (R = ((i64 n1), [(.cbox 100 [(.sl 2 l), (i64 n)]), .dead])))
   (R = ((i64 n1), [(.cbox 100 [(.sl 2 l), (i64 n)]), .dead])))) : Rn 68 [(.cbox 100 [(.sl 2 l), (i64 n)]), (i64 n1)] R := by
  refine fn_rule (ann := A68) (mv := MV) (fz := true) mixed Try.func68 (c := B68) (by kernel_rfl) (by decide) ?_
  all_goals revert h
  all_goals refine via ?_
  all_goals kernel_rfl
end Go.Proofs.YthcaodlfnlhfbaaT
