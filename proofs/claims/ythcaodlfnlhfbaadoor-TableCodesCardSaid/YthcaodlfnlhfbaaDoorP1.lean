/- What is to be shown of functions of the program, by their texts (printed by a program of this work; the kernel holds each against the text). -/
import Derived.Test.YthcaodlfnlhfbaaDoorP0
namespace Go.Proofs.YthcaodlfnlhfbaaDoorT
open Go Go.Proofs
set_option linter.unusedVariables false
/- tumbrel/tumbrellaw12.TableCodes -/
noncomputable def A6 : Ann := mkAnn [(17384, (fun a => [.ex (Bool) fun b => .done ((tb b), [])])), (17640, (fun a => [.ex (Bool) fun b => .done ((tb b), [.dead])])), (33768, (fun a => [.ex (Bool) fun b => .done ((tb b), [])])), (148520, (fun a => [.ex (IfV) fun e => .done (e.v, [.dead])])), (148648, (fun a => [.ex (List T) fun l => .ex (Int) fun n => .done ((.tup [(.sl 2 l), (i64 n)]), [.dead, .dead])])), (164904, (fun a => [.ex (W_tumbrelref04_Node) fun w => .done (w.t, [.dead])])), (165032, (fun a => [.ex (List T) fun l => .ex (Int) fun n => .done ((.tup [(.sl 2 l), (i64 n)]), [.dead, .dead])])), (181288, (fun a => [.ex (List T) fun l => .done ((.sl 2 l), [.dead])])), (181416, (fun a => [.ex (Bool) fun b => .done ((tb b), [.dead, .dead])]))] [(99432, [.ex W_api_Var fun w => .done w.t])] [] [(116, [1, 2, 24, 25])]
noncomputable abbrev B6 : Code := Tryd.f6.body.getD .skip
def L6_0 (vars : List T) (n : Int) (n1 : Int) (w : W_tumbrelref04_Node) (R : T × List T) : Prop := CutL Tryd.prog Tryd.f6 B6 true [1, 1, 0, 1, 0, 0] (mkSt 59 [(1, (.sl 2 vars)), (2, (.ptr (1000000003, 0) 0)), (24, (i64 n)), (25, (i64 n1))] [((1000000003, 0), .box 37 [(i64 w.fKind), (i64 w.fN), (st w.fS), (.sl 4 w.fParts)])]) [.dead, .dead] R
set_option maxRecDepth 100000 in
theorem l6_0 (vars : List T) (n : Int) (n1 : Int) (w : W_tumbrelref04_Node) (R : T × List T) (h : cond (decide ((n1 : Int) < n))
  (∃ w1 : W_api_Var, ((0 : Int) ≤ n1 ∧ vars[(Int.toNat n1)]? = some w1.t) ∧
   (cond (decide ((1000 : Int) < (((ByteArray.size w1.fName) : Nat) : Int)))
    (R = ((tb true), [.dead, .dead]))
    (L6_0 vars n (IntKind.wrap .i64 (n1 + 1)) w R)))
  (∃ e : IfV, (Rn 20 [w.t] (e.v, [.dead])) ∧
   (∃ l : List T, ∃ n2 : Int, (Rn 19 [e.v, (.sl 2 vars)] ((.tup [(.sl 2 l), (i64 n2)]), [.dead, .dead])) ∧
    (∃ w2 : W_tumbrelref04_Node, (Rn 22 [w.t] (w2.t, [.dead])) ∧
     (∃ l1 : List T, ∃ n3 : Int, (Rn 21 [w2.t, (.sl 2 vars)] ((.tup [(.sl 2 l1), (i64 n3)]), [.dead, .dead])) ∧
      (∃ l2 : List T, (Rn 24 [(.sl 2 l)] ((.sl 2 l2), [.dead])) ∧
       (∃ b : Bool, (Rn 23 [(.sl 2 l2), (.sl 2 l1)] ((tb b), [.dead, .dead])) ∧
        (cond b
         (R = ((tb (decide ((n2 : Int) = n3))), [.dead, .dead]))
         (R = ((tb false), [.dead, .dead])))))))))) : L6_0 vars n n1 w R := by
  unfold L6_0
  refine cutL_rule (ann := A6) (mv := MV) mixed (by kernel_rfl) ?_
  all_goals revert h
  all_goals refine via ?_
  all_goals kernel_rfl
set_option maxRecDepth 100000 in
theorem f6 (w : W_tumbrelref04_Node) (vars : List T) (R : T × List T) (h : ∃ b : Bool, (Rn 17 [] ((tb b), [])) ∧
  (cond (!b)
   (∃ b1 : Bool, (Rn 17 [] ((tb b1), [])) ∧
    (R = ((tb b1), [.dead, .dead])))
   (∃ b2 : Bool, (Rn 18 [w.t] ((tb b2), [.dead])) ∧
    (cond (!b2)
     (∃ b3 : Bool, (Rn 17 [] ((tb b3), [])) ∧
      (R = ((tb b3), [.dead, .dead])))
     (cond (decide ((100 : Int) < (((List.length vars) : Nat) : Int)))
      (∃ b4 : Bool, (Rn 17 [] ((tb b4), [])) ∧
       (R = ((tb b4), [.dead, .dead])))
      (L6_0 vars (((List.length vars) : Nat) : Int) 0 w R)))))) : Rn 6 [w.t, (.sl 2 vars)] R := by
  refine fn_rule (ann := A6) (mv := MV) (fz := true) mixed Tryd.func6 (c := B6) (by kernel_rfl) (by decide) ?_
  all_goals revert h
  all_goals refine via ?_
  all_goals kernel_rfl
/- tumbrel/tumbrellaw12.awake -/
noncomputable def A17 : Ann := mkAnn [(17512, (fun a => [.ex (List T) fun l => .ex (Int) fun n => .done ((.tup [(.sl 2 l), (i64 n)]), [.dead, .dead])]))] [(34344, [.ex W_table_Instr fun w => .done w.t]), (34792, [.ex W_table_Instr fun w => .done w.t])] [] []
noncomputable abbrev B17 : Code := Tryd.f17.body.getD .skip
set_option maxRecDepth 100000 in
theorem f17 (R : T × List T) (h : ∃ l : List T, ∃ n : Int, (Rn 19 [(.ifc 81 (.agg [(i64 5)])), (.sl 2 [])] ((.tup [(.sl 2 l), (i64 n)]), [.dead, .dead])) ∧
  (cond (decide ((n : Int) = 0))
   (cond (decide (((((List.length l) : Nat) : Int) : Int) = 1))
    (∃ w : W_table_Instr, ((0 : Int) ≤ 0 ∧ l[0]? = some w.t) ∧
     (cond (decide (w.fOp = (bs [112, 117, 115, 104])))
      (∃ w1 : W_table_Instr, ((0 : Int) ≤ 0 ∧ l[0]? = some w1.t) ∧
       (R = ((tb (decide ((w1.fN : Int) = 5))), [])))
      (R = ((tb false), []))))
    (R = ((tb false), [])))
   (R = ((tb false), [])))) : Rn 17 [] R := by
  refine fn_rule (ann := A17) (mv := MV) (fz := true) mixed Tryd.func17 (c := B17) (by kernel_rfl) (by decide) ?_
  all_goals revert h
  all_goals refine via ?_
  all_goals kernel_rfl
/- tumbrel/tumbrelref04.Small -/
noncomputable def A18 : Ann := mkAnn [(17448, (fun a => [.ex (Int) fun n => .done ((i64 n), [.dead, .dead, .dead])]))] [] [] []
noncomputable abbrev B18 : Code := Tryd.f18.body.getD .skip
set_option maxRecDepth 100000 in
theorem f18 (w : W_tumbrelref04_Node) (R : T × List T) (h : ∃ n : Int, (Rn 42 [w.t, (i64 0), (i64 200)] ((i64 n), [.dead, .dead, .dead])) ∧
  (R = ((tb (decide ((0 : Int) ≤ n))), [.dead]))) : Rn 18 [w.t] R := by
  refine fn_rule (ann := A18) (mv := MV) (fz := true) mixed Tryd.func18 (c := B18) (by kernel_rfl) (by decide) ?_
  all_goals revert h
  all_goals refine via ?_
  all_goals kernel_rfl
/- tumbrel/tumbrellaw04.Theirs -/
noncomputable def A20 : Ann := mkAnn [(132136, (fun a => [.ex (IfV) fun e => .done (e.v, [.dead, (a.getD 1 .dead)])])), (164904, (fun a => [.ex (IfV) fun e => .done (e.v, [.dead, (a.getD 1 .dead)])])), (197800, (fun a => [.ex (IfV) fun e => .done (e.v, [.dead, (a.getD 1 .dead)])])), (197928, (fun a => [.ex (IfV) fun e => .done (e.v, [.dead, (a.getD 1 .dead)])]))] [] [] [] [(197800, [(1000, 0)]), (197928, [(1000, 0)])]
noncomputable abbrev B20 : Code := Tryd.f20.body.getD .skip
set_option maxRecDepth 100000 in
theorem f20 (w : W_tumbrelref04_Node) (R : T × List T) (h : cond (decide ((w.fKind : Int) = 1))
  (R = ((.ifc 81 (.agg [(i64 w.fN)])), [.dead]))
  (cond (decide ((w.fKind : Int) = 2))
   (R = ((.ifc 96 (.agg [(st w.fS)])), [.dead]))
   (cond (decide ((w.fKind : Int) = 3))
    (∃ e : IfV, (Rn 49 [(i64 0), (.cbox 37 [(i64 w.fKind), (i64 w.fN), (st w.fS), (.sl 4 w.fParts)])] (e.v, [.dead, (.cbox 37 [(i64 w.fKind), (i64 w.fN), (st w.fS), (.sl 4 w.fParts)])])) ∧
     (R = ((.ifc 98 (.agg [e.v])), [.dead])))
    (cond (decide ((w.fKind : Int) = 4))
     (∃ e1 : IfV, (Rn 49 [(i64 0), (.cbox 37 [(i64 w.fKind), (i64 w.fN), (st w.fS), (.sl 4 w.fParts)])] (e1.v, [.dead, (.cbox 37 [(i64 w.fKind), (i64 w.fN), (st w.fS), (.sl 4 w.fParts)])])) ∧
      (R = ((.ifc 99 (.agg [e1.v])), [.dead])))
     (cond (decide ((w.fKind : Int) = 5))
      (∃ e2 : IfV, (Rn 49 [(i64 0), (.cbox 37 [(i64 w.fKind), (i64 w.fN), (st w.fS), (.sl 4 w.fParts)])] (e2.v, [.dead, (.cbox 37 [(i64 w.fKind), (i64 w.fN), (st w.fS), (.sl 4 w.fParts)])])) ∧
       (((some (.box 37 [(i64 w.fKind), (i64 w.fN), (st w.fS), (.sl 4 w.fParts)]) : Option O) = some (.box 37 [(i64 w.fKind), (i64 w.fN), (st w.fS), (.sl 4 w.fParts)])) ∧
        (∃ e3 : IfV, (Rn 49 [(i64 1), (.cbox 37 [(i64 w.fKind), (i64 w.fN), (st w.fS), (.sl 4 w.fParts)])] (e3.v, [.dead, (.cbox 37 [(i64 w.fKind), (i64 w.fN), (st w.fS), (.sl 4 w.fParts)])])) ∧
         (((some (.box 37 [(i64 w.fKind), (i64 w.fN), (st w.fS), (.sl 4 w.fParts)]) : Option O) = some (.box 37 [(i64 w.fKind), (i64 w.fN), (st w.fS), (.sl 4 w.fParts)])) ∧
          (R = ((.ifc 101 (.agg [(st w.fS), e2.v, e3.v])), [.dead]))))))
      (R = ((.ifc 0 .dead), [.dead]))))))) : Rn 20 [w.t] R := by
  refine fn_rule (ann := A20) (mv := MV) (fz := true) mixed Tryd.func20 (c := B20) (by kernel_rfl) (by decide) ?_
  all_goals revert h
  all_goals refine via ?_
  all_goals kernel_rfl
/- tumbrel/table.Code -/
noncomputable def A19 : Ann := mkAnn [(33832, (fun a => [.ex (Bool) fun b => .done ((tb b), [.dead])])), (66600, (fun a => [.ex (List T) fun l => .done ((.sl 1 l), [.dead])])), (66728, (fun a => [.ex (Bool) fun b => .done ((tb b), [.dead, (a.getD 1 .dead)])])), (99432, (fun a => [.ex (T) fun y => .ex (List T) fun l => .done ((.tup []), [(.cbox 87 [(capA (a.getD 0 .dead) 0), (.cown 83 2 (y :: l))]), .dead])]))] [] [] []
noncomputable abbrev B19 : Code := Tryd.f19.body.getD .skip
set_option maxRecDepth 100000 in
theorem f19 (e : IfV) (vars : List T) (R : T × List T) (h : ∃ b : Bool, (Rn 43 [e.v] ((tb b), [.dead])) ∧
  (cond (!b)
   (R = ((.tup [(.sl 2 []), (i64 1)]), [.dead, .dead]))
   (∃ l : List T, (Rn 45 [e.v] ((.sl 1 l), [.dead])) ∧
    (∃ b1 : Bool, (Rn 44 [(.sl 1 l), (.fn (.func 46) [] [(.cbox 85 [(.cbox 87 [(.sl 2 vars), nilS])])])] ((tb b1), [.dead, (.fn (.func 46) [] [(.cbox 85 [(.cbox 87 [(.sl 2 vars), nilS])])])])) ∧
     (cond b1
      (R = ((.tup [(.sl 2 []), (i64 5)]), [.dead, .dead]))
      (∃ y : T, ∃ l1 : List T, (Rn 48 [(.cbox 87 [(.sl 2 vars), nilS]), e.v] ((.tup []), [(.cbox 87 [(.sl 2 vars), (.cown 83 2 (y :: l1))]), .dead])) ∧
       (R = ((.tup [(.sl 2 (y :: l1)), (i64 0)]), [.dead, .dead])))))))) : Rn 19 [e.v, (.sl 2 vars)] R := by
  refine fn_rule (ann := A19) (mv := MV) (fz := true) mixed Tryd.func19 (c := B19) (by kernel_rfl) (by decide) ?_
  all_goals revert h
  all_goals refine via ?_
  all_goals kernel_rfl
/- tumbrel/tumbrelref04.Clean -/
noncomputable def A22 : Ann := mkAnn [(296232, (fun a => [.ex (W_tumbrelref04_Node) fun w => .done (w.t, [.dead])]))] [(296104, [.ex W_tumbrelref04_Node fun w => .done w.t])] [] [(500, [1, 2, 3, 31, 32])]
noncomputable abbrev B22 : Code := Tryd.f22.body.getD .skip
def L22_0 (n : Int) (n1 : Int) (w : W_tumbrelref04_Node) (n2 : Int) (n3 : Int) (s : ByteArray) (n4 : Int) (n5 : Int) (s1 : ByteArray) (l : List T) (R : T × List T) : Prop := CutL Tryd.prog Tryd.f22 B22 true [1, 1, 1, 1, 0, 1, 0, 0] (mkSt 55 [(1, (.ptr (1000000002, 0) 0)), (2, (.ptr (1000000003, 0) 0)), (3, (.ptr (1000000004, 0) 0)), (31, (i64 n)), (32, (i64 n1))] (([((1000000002, 0), .box 37 [(i64 w.fKind), (i64 w.fN), (st w.fS), (.sl 4 w.fParts)]), ((1000000003, 0), .box 37 [(i64 n2), (i64 n3), (st s), nilS]), ((1000000004, 0), .box 37 [(i64 n4), (i64 n5), (st s1), (mnT (1000000516, 0) l)])] ++ mnH (1000000516, 0) 37 4 l))) [.dead] R
set_option maxRecDepth 100000 in
theorem l22_0 (n : Int) (n1 : Int) (w : W_tumbrelref04_Node) (n2 : Int) (n3 : Int) (s : ByteArray) (n4 : Int) (n5 : Int) (s1 : ByteArray) (l : List T) (R : T × List T) (h : cond (decide ((n1 : Int) < n))
  (cond (decide ((n1 : Int) < (((List.length w.fParts) : Nat) : Int)))
   (∃ w1 : W_tumbrelref04_Node, ((0 : Int) ≤ n1 ∧ w.fParts[(Int.toNat n1)]? = some w1.t) ∧
    (∃ w2 : W_tumbrelref04_Node, (Rn 22 [w1.t] (w2.t, [.dead])) ∧
     (chk (Nat.ble (((List.length l) + 1) * 56) 140737488355328)
      (L22_0 n (IntKind.wrap .i64 (n1 + 1)) w n2 n3 s n4 n5 s1 (l ++ [w2.t]) R))))
   (chk (Nat.ble (((List.length l) + 1) * 56) 140737488355328)
    (L22_0 n (IntKind.wrap .i64 (n1 + 1)) w n2 n3 s n4 n5 s1 (l ++ [(.agg [(i64 0), (i64 0), (st (bs [])), (.sl 4 [])])]) R)))
  (R = ((.agg [(i64 n4), (i64 n5), (st s1), (.sl 4 l)]), [.dead]))) : L22_0 n n1 w n2 n3 s n4 n5 s1 l R := by
  unfold L22_0
  refine cutL_rule (ann := A22) (mv := MV) mixed (by kernel_rfl) ?_
  all_goals rcases l with _ | ⟨_, _⟩
  all_goals revert h
  all_goals refine via ?_
  all_goals kernel_rfl
set_option maxRecDepth 100000 in
theorem f22 (w : W_tumbrelref04_Node) (R : T × List T) (h : cond (decide ((w.fKind : Int) = 1))
  (R = ((.agg [(i64 1), (i64 w.fN), (st (bs [])), (.sl 4 [])]), [.dead]))
  (cond (decide ((w.fKind : Int) = 2))
   (R = ((.agg [(i64 2), (i64 0), (st w.fS), (.sl 4 [])]), [.dead]))
   (cond (decide ((w.fKind : Int) = 3))
    (L22_0 1 0 w 0 0 (bs []) w.fKind 0 (bs []) ([] : List T) R)
    (cond (decide ((w.fKind : Int) = 4))
     (L22_0 1 0 w 0 0 (bs []) w.fKind 0 (bs []) ([] : List T) R)
     (cond (decide ((w.fKind : Int) = 5))
      (L22_0 2 0 w 0 0 (bs []) 5 0 w.fS ([] : List T) R)
      (L22_0 0 0 w 0 0 (bs []) 0 0 (bs []) ([] : List T) R)))))) : Rn 22 [w.t] R := by
  refine fn_rule (ann := A22) (mv := MV) (fz := true) mixed Tryd.func22 (c := B22) (by kernel_rfl) (by decide) ?_
  all_goals revert h
  all_goals refine via ?_
  all_goals kernel_rfl
/- tumbrel/tumbrelref12.Code -/
noncomputable def A21 : Ann := mkAnn [(17448, (fun a => [.ex (Bool) fun b => .done ((tb b), [.dead])])), (50216, (fun a => [.ex (List T) fun l => .done ((.sl 1 l), [.dead])])), (116008, (fun a => [.ex (Int) fun n => .done ((i64 n), [.dead, .dead])])), (164968, (fun a => [.ex (T) fun y => .ex (List T) fun l => .done ((.cown 105 2 (y :: l)), [.dead, .dead])]))] [(115880, [.ex ByteArray fun w => .done (st w)])] [] [(244, [1, 2, 6, 14, 15])]
noncomputable abbrev B21 : Code := Tryd.f21.body.getD .skip
def L21_0 (vars : List T) (l : List T) (n : Int) (n1 : Int) (w : W_tumbrelref04_Node) (R : T × List T) : Prop := CutL Tryd.prog Tryd.f21 B21 true [1, 1, 1, 0, 1, 0, 0] (mkSt 29 [(1, (.sl 2 vars)), (2, (.ptr (1000000003, 0) 0)), (6, (.sl 1 l)), (14, (i64 n)), (15, (i64 n1))] [((1000000003, 0), .box 37 [(i64 w.fKind), (i64 w.fN), (st w.fS), (.sl 4 w.fParts)])]) [.dead, .dead] R
set_option maxRecDepth 100000 in
theorem l21_0 (vars : List T) (l : List T) (n : Int) (n1 : Int) (w : W_tumbrelref04_Node) (R : T × List T) (h : cond (decide ((n1 : Int) < n))
  (∃ s : ByteArray, ((0 : Int) ≤ n1 ∧ l[(Int.toNat n1)]? = some (st s)) ∧
   (∃ n2 : Int, (Rn 52 [(.sl 2 vars), (st s)] ((i64 n2), [.dead, .dead])) ∧
    (cond (decide ((n2 : Int) < 0))
     (R = ((.tup [(.sl 2 []), (i64 5)]), [.dead, .dead]))
     (L21_0 vars l n (IntKind.wrap .i64 (n1 + 1)) w R))))
  (∃ y : T, ∃ l1 : List T, (Rn 53 [w.t, (.sl 2 vars)] ((.cown 105 2 (y :: l1)), [.dead, .dead])) ∧
   (R = ((.tup [(.sl 2 (y :: l1)), (i64 0)]), [.dead, .dead])))) : L21_0 vars l n n1 w R := by
  unfold L21_0
  refine cutL_rule (ann := A21) (mv := MV) mixed (by kernel_rfl) ?_
  all_goals revert h
  all_goals refine via ?_
  all_goals kernel_rfl
set_option maxRecDepth 100000 in
theorem f21 (w : W_tumbrelref04_Node) (vars : List T) (R : T × List T) (h : ∃ b : Bool, (Rn 50 [w.t] ((tb b), [.dead])) ∧
  (cond (!b)
   (R = ((.tup [(.sl 2 []), (i64 1)]), [.dead, .dead]))
   (∃ l : List T, (Rn 51 [w.t] ((.sl 1 l), [.dead])) ∧
    (L21_0 vars l (((List.length l) : Nat) : Int) 0 w R)))) : Rn 21 [w.t, (.sl 2 vars)] R := by
  refine fn_rule (ann := A21) (mv := MV) (fz := true) mixed Tryd.func21 (c := B21) (by kernel_rfl) (by decide) ?_
  all_goals revert h
  all_goals refine via ?_
  all_goals kernel_rfl
/- tumbrel/tumbrellaw12.ourCode -/
noncomputable def A24 : Ann := mkAnn [] [(83112, [.ex W_table_Instr fun w => .done w.t])] [] [(116, [0, 3, 6, 7])]
noncomputable abbrev B24 : Code := Tryd.f24.body.getD .skip
def L24_0 (l : List T) (l1 : List T) (n : Int) (n1 : Int) (R : T × List T) : Prop := CutL Tryd.prog Tryd.f24 B24 true [1, 1, 0, 1, 0, 0] (mkSt 19 [(0, (.sl 2 l)), (3, (mnT (1000000004, 0) l1)), (6, (i64 n)), (7, (i64 n1))] (mnH (1000000004, 0) 105 2 l1)) [.dead] R
set_option maxRecDepth 100000 in
theorem l24_0 (l : List T) (l1 : List T) (n : Int) (n1 : Int) (R : T × List T) (h : cond (decide ((n1 : Int) < n))
  (∃ w : W_table_Instr, ((0 : Int) ≤ n1 ∧ l[(Int.toNat n1)]? = some w.t) ∧
   (chk (Nat.ble (((List.length l1) + 1) * 24) 140737488355328)
    (L24_0 l (l1 ++ [w.t]) n (IntKind.wrap .i64 (n1 + 1)) R)))
  (R = ((.sl 2 l1), [.dead]))) : L24_0 l l1 n n1 R := by
  unfold L24_0
  refine cutL_rule (ann := A24) (mv := MV) mixed (by kernel_rfl) ?_
  all_goals rcases l1 with _ | ⟨_, _⟩
  all_goals revert h
  all_goals refine via ?_
  all_goals kernel_rfl
set_option maxRecDepth 100000 in
theorem f24 (l : List T) (R : T × List T) (h : L24_0 l ([] : List T) (((List.length l) : Nat) : Int) 0 R) : Rn 24 [(.sl 2 l)] R := by
  refine fn_rule (ann := A24) (mv := MV) (fz := true) mixed Tryd.func24 (c := B24) (by kernel_rfl) (by decide) ?_
  all_goals revert h
  all_goals refine via ?_
  all_goals kernel_rfl
/- tumbrel/tumbrelref12.SameCode -/
noncomputable def A23 : Ann := mkAnn [] [(99432, [.ex W_tumbrelref12_Instr fun w => .done w.t]), (99688, [.ex W_tumbrelref12_Instr fun w => .done w.t])] [] [(116, [0, 1, 12, 13])]
noncomputable abbrev B23 : Code := Tryd.f23.body.getD .skip
def L23_0 (l : List T) (b : List T) (n : Int) (n1 : Int) (R : T × List T) : Prop := CutL Tryd.prog Tryd.f23 B23 true [1, 1, 0, 1, 0, 0] (mkSt 26 [(0, (.sl 2 l)), (1, (.sl 2 b)), (12, (i64 n)), (13, (i64 n1))] []) [.dead, .dead] R
set_option maxRecDepth 100000 in
theorem l23_0 (l : List T) (b : List T) (n : Int) (n1 : Int) (R : T × List T) (h : cond (decide ((n1 : Int) < n))
  (∃ w : W_tumbrelref12_Instr, ((0 : Int) ≤ n1 ∧ l[(Int.toNat n1)]? = some w.t) ∧
   (∃ w1 : W_tumbrelref12_Instr, ((0 : Int) ≤ n1 ∧ b[(Int.toNat n1)]? = some w1.t) ∧
    (cond (!((decide (w.fOp = w1.fOp)) && (((w.fN : Int) == w1.fN) && true)))
     (R = ((tb false), [.dead, .dead]))
     (L23_0 l b n (IntKind.wrap .i64 (n1 + 1)) R))))
  (R = ((tb true), [.dead, .dead]))) : L23_0 l b n n1 R := by
  unfold L23_0
  refine cutL_rule (ann := A23) (mv := MV) mixed (by kernel_rfl) ?_
  all_goals revert h
  all_goals refine via ?_
  all_goals kernel_rfl
set_option maxRecDepth 100000 in
theorem f23 (l : List T) (b : List T) (R : T × List T) (h : cond (!(decide (((((List.length l) : Nat) : Int) : Int) = (((List.length b) : Nat) : Int))))
  (R = ((tb false), [.dead, .dead]))
  (L23_0 l b (((List.length l) : Nat) : Int) 0 R)) : Rn 23 [(.sl 2 l), (.sl 2 b)] R := by
  refine fn_rule (ann := A23) (mv := MV) (fz := true) mixed Tryd.func23 (c := B23) (by kernel_rfl) (by decide) ?_
  all_goals revert h
  all_goals refine via ?_
  all_goals kernel_rfl
/- tumbrel/tumbrelref04.small -/
noncomputable def A42 : Ann := mkAnn [(116200, (fun a => [.ex (Int) fun n => .done ((i64 n), [.dead, .dead, .dead])]))] [(115880, [.ex W_tumbrelref04_Node fun w => .done w.t])] [] [(244, [1, 2, 3, 24, 25])]
noncomputable abbrev B42 : Code := Tryd.f42.body.getD .skip
def L42_0 (depth : Int) (left : Int) (n : Int) (n1 : Int) (w : W_tumbrelref04_Node) (R : T × List T) : Prop := CutL Tryd.prog Tryd.f42 B42 true [1, 1, 1, 0, 1, 0, 0] (mkSt 41 [(1, (i64 depth)), (2, (i64 left)), (3, (.ptr (1000000004, 0) 0)), (24, (i64 n)), (25, (i64 n1))] [((1000000004, 0), .box 37 [(i64 w.fKind), (i64 w.fN), (st w.fS), (.sl 4 w.fParts)])]) [.dead, .dead, .dead] R
set_option maxRecDepth 100000 in
theorem l42_0 (depth : Int) (left : Int) (n : Int) (n1 : Int) (w : W_tumbrelref04_Node) (R : T × List T) (h : cond (decide ((n1 : Int) < n))
  (∃ w1 : W_tumbrelref04_Node, ((0 : Int) ≤ n1 ∧ w.fParts[(Int.toNat n1)]? = some w1.t) ∧
   (∃ n2 : Int, (Rn 42 [w1.t, (i64 (IntKind.wrap .i64 (depth + 1))), (i64 left)] ((i64 n2), [.dead, .dead, .dead])) ∧
    (cond (decide ((n2 : Int) < 0))
     (R = ((i64 (-1)), [.dead, .dead, .dead]))
     (L42_0 depth n2 n (IntKind.wrap .i64 (n1 + 1)) w R))))
  (R = ((i64 left), [.dead, .dead, .dead]))) : L42_0 depth left n n1 w R := by
  unfold L42_0
  refine cutL_rule (ann := A42) (mv := MV) mixed (by kernel_rfl) ?_
  all_goals revert h
  all_goals refine via ?_
  all_goals kernel_rfl
set_option maxRecDepth 100000 in
theorem f42 (w : W_tumbrelref04_Node) (depth : Int) (left : Int) (R : T × List T) (h : cond (decide ((60 : Int) < depth))
  (R = ((i64 (-1)), [.dead, .dead, .dead]))
  (cond (decide (((IntKind.wrap .i64 (left - 1)) : Int) < 0))
   (R = ((i64 (-1)), [.dead, .dead, .dead]))
   (cond (decide ((1000 : Int) < (((ByteArray.size w.fS) : Nat) : Int)))
    (R = ((i64 (-1)), [.dead, .dead, .dead]))
    (L42_0 depth (IntKind.wrap .i64 (left - 1)) (((List.length w.fParts) : Nat) : Int) 0 w R)))) : Rn 42 [w.t, (i64 depth), (i64 left)] R := by
  refine fn_rule (ann := A42) (mv := MV) (fz := true) mixed Tryd.func42 (c := B42) (by kernel_rfl) (by decide) ?_
  all_goals revert h
  all_goals refine via ?_
  all_goals kernel_rfl
/- tumbrel/tumbrellaw04.Theirs$1 -/
noncomputable def A49 : Ann := mkAnn [(34088, (fun a => [.ex (IfV) fun e => .done (e.v, [.dead])]))] [(33960, [.ex W_tumbrelref04_Node fun w => .done w.t])] [] []
noncomputable abbrev B49 : Code := Tryd.f49.body.getD .skip
set_option maxRecDepth 100000 in
theorem f49 (i : Int) (n : Int) (n1 : Int) (s : ByteArray) (l : List T) (R : T × List T) (h : cond (decide ((i : Int) < (((List.length l) : Nat) : Int)))
  (∃ w : W_tumbrelref04_Node, ((0 : Int) ≤ i ∧ l[(Int.toNat i)]? = some w.t) ∧
   (∃ e : IfV, (Rn 20 [w.t] (e.v, [.dead])) ∧
    (R = (e.v, [.dead, (.cbox 37 [(i64 n), (i64 n1), (st s), (.sl 4 l)])]))))
  (R = ((.ifc 0 .dead), [.dead, (.cbox 37 [(i64 n), (i64 n1), (st s), (.sl 4 l)])]))) : Rn 49 [(i64 i), (.cbox 37 [(i64 n), (i64 n1), (st s), (.sl 4 l)])] R := by
  refine fn_rule (ann := A49) (mv := MV) (fz := true) mixed Tryd.func49 (c := B49) (by kernel_rfl) (by decide) ?_
  all_goals revert h
  all_goals refine via ?_
  all_goals kernel_rfl
/- tumbrel/expr.Formed -/
noncomputable def A43 : Ann := mkAnn [(17448, (fun a => [.ex (Int) fun n => .done ((i64 n), [.dead])])), (17704, (fun a => [.ex (Bool) fun b => .done ((tb b), [.dead, .dead])]))] [] [] []
noncomputable abbrev B43 : Code := Tryd.f43.body.getD .skip
set_option maxRecDepth 100000 in
theorem f43 (e : IfV) (R : T × List T) (h : ∃ n : Int, (Rn 62 [e.v] ((i64 n), [.dead])) ∧
  (cond (decide ((n : Int) ≤ 40))
   (∃ b : Bool, (Rn 63 [e.v, (i64 12)] ((tb b), [.dead, .dead])) ∧
    (R = ((tb b), [.dead])))
   (R = ((tb false), [.dead])))) : Rn 43 [e.v] R := by
  refine fn_rule (ann := A43) (mv := MV) (fz := true) mixed Tryd.func43 (c := B43) (by kernel_rfl) (by decide) ?_
  all_goals revert h
  all_goals refine via ?_
  all_goals kernel_rfl
/- slices.ContainsFunc[[]string,string] -/
noncomputable def A44 : Ann := mkAnn [(17512, (fun a => [.ex (Int) fun n => .done ((i64 n), [.dead, (a.getD 1 .dead)])]))] [] [] []
noncomputable abbrev B44 : Code := Tryd.f44.body.getD .skip
set_option maxRecDepth 100000 in
theorem f44 (s : List T) (l : List T) (l1 : List T) (R : T × List T) (h : ∃ n : Int, (Rn 64 [(.sl 1 s), (.fn (.func 46) [] [(.cbox 85 [(.cbox 87 [(.sl 2 l), (mnC 83 2 l1)])])])] ((i64 n), [.dead, (.fn (.func 46) [] [(.cbox 85 [(.cbox 87 [(.sl 2 l), (mnC 83 2 l1)])])])])) ∧
  (R = ((tb (decide ((0 : Int) ≤ n))), [.dead, (.fn (.func 46) [] [(.cbox 85 [(.cbox 87 [(.sl 2 l), (mnC 83 2 l1)])])])]))) : Rn 44 [(.sl 1 s), (.fn (.func 46) [] [(.cbox 85 [(.cbox 87 [(.sl 2 l), (mnC 83 2 l1)])])])] R := by
  refine fn_rule (ann := A44) (mv := MV) (fz := true) mixed Tryd.func44 (c := B44) (by kernel_rfl) (by decide) ?_
  all_goals rcases l1 with _ | ⟨_, _⟩
  all_goals revert h
  all_goals refine via ?_
  all_goals kernel_rfl
/- (*tumbrel/table.coder).expr -/
noncomputable def A48 : Ann := mkAnn [(50344, (fun a => [.ex (T) fun y => .ex (List T) fun l => .done ((.tup []), [(.cbox 87 [(capA (a.getD 0 .dead) 0), (.cown 83 2 (y :: l))]), .dead, .dead])])), (99560, (fun a => [.ex (Int) fun n => .done ((i64 n), [(a.getD 0 .dead), .dead])])), (99624, (fun a => [.ex (T) fun y => .ex (List T) fun l => .done ((.tup []), [(.cbox 87 [(capA (a.getD 0 .dead) 0), (.cown 83 2 (y :: l))]), .dead, .dead])])), (148648, (fun a => [.ex (T) fun y => .ex (List T) fun l => .done ((.tup []), [(.cbox 87 [(capA (a.getD 0 .dead) 0), (.cown 83 2 (y :: l))]), .dead])])), (164904, (fun a => [.ex (T) fun y => .ex (List T) fun l => .done ((.tup []), [(.cbox 87 [(capA (a.getD 0 .dead) 0), (.cown 83 2 (y :: l))]), .dead, .dead])])), (214184, (fun a => [.ex (T) fun y => .ex (List T) fun l => .done ((.tup []), [(.cbox 87 [(capA (a.getD 0 .dead) 0), (.cown 83 2 (y :: l))]), .dead])])), (230440, (fun a => [.ex (T) fun y => .ex (List T) fun l => .done ((.tup []), [(.cbox 87 [(capA (a.getD 0 .dead) 0), (.cown 83 2 (y :: l))]), .dead, .dead])])), (279720, (fun a => [.ex (T) fun y => .ex (List T) fun l => .done ((.tup []), [(.cbox 87 [(capA (a.getD 0 .dead) 0), (.cown 83 2 (y :: l))]), .dead])])), (312488, (fun a => [.ex (T) fun y => .ex (List T) fun l => .done ((.tup []), [(.cbox 87 [(capA (a.getD 0 .dead) 0), (.cown 83 2 (y :: l))]), .dead])])), (328872, (fun a => [.ex (T) fun y => .ex (List T) fun l => .done ((.tup []), [(.cbox 87 [(capA (a.getD 0 .dead) 0), (.cown 83 2 (y :: l))]), .dead, .dead])])), (361640, (fun a => [.ex (T) fun y => .ex (List T) fun l => .done ((.tup []), [(.cbox 87 [(capA (a.getD 0 .dead) 0), (.cown 83 2 (y :: l))]), .dead, .dead])])), (394408, (fun a => [.ex (T) fun y => .ex (List T) fun l => .done ((.tup []), [(.cbox 87 [(capA (a.getD 0 .dead) 0), (.cown 83 2 (y :: l))]), .dead, .dead])]))] [(17384, [.ex W_expr_Lit fun w => .done w.t]), (66536, [.ex W_expr_Ref fun w => .done w.t]), (115688, [.ex W_expr_Not fun w => .done w.t]), (181224, [.ex W_expr_Neg fun w => .done w.t]), (246760, [.ex W_expr_Bin fun w => .done w.t])] [] []
noncomputable abbrev B48 : Code := Tryd.f48.body.getD .skip
set_option maxRecDepth 100000 in
theorem f48 (l : List T) (l1 : List T) (e : IfV) (R : T × List T) (h : cond (Nat.beq e.t 81)
  (∃ w : W_expr_Lit, (e.x = w.t) ∧
   (∃ y : T, ∃ l2 : List T, (Rn 71 [(.cbox 87 [(.sl 2 l), (mnC 83 2 l1)]), (st (bs [112, 117, 115, 104])), (i64 w.fN)] ((.tup []), [(.cbox 87 [(.sl 2 l), (.cown 83 2 (y :: l2))]), .dead, .dead])) ∧
    (R = ((.tup []), [(.cbox 87 [(.sl 2 l), (.cown 83 2 (y :: l2))]), .dead]))))
  (cond (Nat.beq e.t 96)
   (∃ w1 : W_expr_Ref, (e.x = w1.t) ∧
    (∃ n : Int, (Rn 47 [(.cbox 87 [(.sl 2 l), (mnC 83 2 l1)]), (st w1.fName)] ((i64 n), [(.cbox 87 [(.sl 2 l), (mnC 83 2 l1)]), .dead])) ∧
     (∃ y1 : T, ∃ l3 : List T, (Rn 71 [(.cbox 87 [(.sl 2 l), (mnC 83 2 l1)]), (st (bs [108, 111, 97, 100])), (i64 n)] ((.tup []), [(.cbox 87 [(.sl 2 l), (.cown 83 2 (y1 :: l3))]), .dead, .dead])) ∧
      (R = ((.tup []), [(.cbox 87 [(.sl 2 l), (.cown 83 2 (y1 :: l3))]), .dead])))))
   (cond (Nat.beq e.t 98)
    (∃ w2 : W_expr_Not, (e.x = w2.t) ∧
     (∃ y2 : T, ∃ l4 : List T, (Rn 48 [(.cbox 87 [(.sl 2 l), (mnC 83 2 l1)]), w2.fX.v] ((.tup []), [(.cbox 87 [(.sl 2 l), (.cown 83 2 (y2 :: l4))]), .dead])) ∧
      (∃ y3 : T, ∃ l5 : List T, (Rn 71 [(.cbox 87 [(.sl 2 l), (.cown 83 2 (y2 :: l4))]), (st (bs [110, 111, 116])), (i64 0)] ((.tup []), [(.cbox 87 [(.sl 2 l), (.cown 83 2 (y3 :: l5))]), .dead, .dead])) ∧
       (R = ((.tup []), [(.cbox 87 [(.sl 2 l), (.cown 83 2 (y3 :: l5))]), .dead])))))
    (cond (Nat.beq e.t 99)
     (∃ w3 : W_expr_Neg, (e.x = w3.t) ∧
      (∃ y4 : T, ∃ l6 : List T, (Rn 48 [(.cbox 87 [(.sl 2 l), (mnC 83 2 l1)]), w3.fX.v] ((.tup []), [(.cbox 87 [(.sl 2 l), (.cown 83 2 (y4 :: l6))]), .dead])) ∧
       (∃ y5 : T, ∃ l7 : List T, (Rn 71 [(.cbox 87 [(.sl 2 l), (.cown 83 2 (y4 :: l6))]), (st (bs [110, 101, 103])), (i64 0)] ((.tup []), [(.cbox 87 [(.sl 2 l), (.cown 83 2 (y5 :: l7))]), .dead, .dead])) ∧
        (R = ((.tup []), [(.cbox 87 [(.sl 2 l), (.cown 83 2 (y5 :: l7))]), .dead])))))
     (cond (Nat.beq e.t 101)
      (∃ w4 : W_expr_Bin, (e.x = w4.t) ∧
       (∃ y6 : T, ∃ l8 : List T, (Rn 48 [(.cbox 87 [(.sl 2 l), (mnC 83 2 l1)]), w4.fL.v] ((.tup []), [(.cbox 87 [(.sl 2 l), (.cown 83 2 (y6 :: l8))]), .dead])) ∧
        (cond (decide (w4.fOp = (bs [38, 38])))
         (∃ y7 : T, ∃ l9 : List T, (Rn 72 [(.cbox 87 [(.sl 2 l), (.cown 83 2 (y6 :: l8))]), (st (bs [97, 110, 100])), w4.fR.v] ((.tup []), [(.cbox 87 [(.sl 2 l), (.cown 83 2 (y7 :: l9))]), .dead, .dead])) ∧
          (R = ((.tup []), [(.cbox 87 [(.sl 2 l), (.cown 83 2 (y7 :: l9))]), .dead])))
         (cond (decide (w4.fOp = (bs [124, 124])))
          (∃ y8 : T, ∃ l10 : List T, (Rn 72 [(.cbox 87 [(.sl 2 l), (.cown 83 2 (y6 :: l8))]), (st (bs [111, 114])), w4.fR.v] ((.tup []), [(.cbox 87 [(.sl 2 l), (.cown 83 2 (y8 :: l10))]), .dead, .dead])) ∧
           (R = ((.tup []), [(.cbox 87 [(.sl 2 l), (.cown 83 2 (y8 :: l10))]), .dead])))
          (∃ y9 : T, ∃ l11 : List T, (Rn 48 [(.cbox 87 [(.sl 2 l), (.cown 83 2 (y6 :: l8))]), w4.fR.v] ((.tup []), [(.cbox 87 [(.sl 2 l), (.cown 83 2 (y9 :: l11))]), .dead])) ∧
           (∃ y10 : T, ∃ l12 : List T, (Rn 71 [(.cbox 87 [(.sl 2 l), (.cown 83 2 (y9 :: l11))]), (st w4.fOp), (i64 0)] ((.tup []), [(.cbox 87 [(.sl 2 l), (.cown 83 2 (y10 :: l12))]), .dead, .dead])) ∧
            (R = ((.tup []), [(.cbox 87 [(.sl 2 l), (.cown 83 2 (y10 :: l12))]), .dead]))))))))
      (R = ((.tup []), [(.cbox 87 [(.sl 2 l), (mnC 83 2 l1)]), .dead]))))))) : Rn 48 [(.cbox 87 [(.sl 2 l), (mnC 83 2 l1)]), e.v] R := by
  refine fn_rule (ann := A48) (mv := MV) (fz := true) mixed Tryd.func48 (c := B48) (by kernel_rfl) (by decide) ?_
  all_goals rcases l1 with _ | ⟨_, _⟩
  all_goals revert h
  all_goals refine via ?_
  all_goals kernel_rfl
/- tumbrel/tumbrelref04.Formed -/
noncomputable def A50 : Ann := mkAnn [(17448, (fun a => [.ex (Int) fun n => .done ((i64 n), [.dead])])), (17704, (fun a => [.ex (Int) fun n => .done ((i64 n), [.dead])])), (18024, (fun a => [.ex (Bool) fun b => .done ((tb b), [.dead])]))] [] [] []
noncomputable abbrev B50 : Code := Tryd.f50.body.getD .skip
set_option maxRecDepth 100000 in
theorem f50 (w : W_tumbrelref04_Node) (R : T × List T) (h : ∃ n : Int, (Rn 73 [w.t] ((i64 n), [.dead])) ∧
  (cond (decide ((n : Int) ≤ 40))
   (∃ n1 : Int, (Rn 74 [w.t] ((i64 n1), [.dead])) ∧
    (cond (decide ((n1 : Int) ≤ 12))
     (∃ b : Bool, (Rn 75 [w.t] ((tb b), [.dead])) ∧
      (R = ((tb b), [.dead])))
     (R = ((tb false), [.dead]))))
   (R = ((tb false), [.dead])))) : Rn 50 [w.t] R := by
  refine fn_rule (ann := A50) (mv := MV) (fz := true) mixed Tryd.func50 (c := B50) (by kernel_rfl) (by decide) ?_
  all_goals revert h
  all_goals refine via ?_
  all_goals kernel_rfl
/- tumbrel/tumbrelref04.Refs -/
noncomputable def A51 : Ann := mkAnn [(17448, (fun a => [.ex (Bool) fun b => .done ((tb b), [.dead])])), (50216, (fun a => [.ex (List T) fun l => .done ((.sl 1 l), [.dead, .dead])]))] [] [] []
noncomputable abbrev B51 : Code := Tryd.f51.body.getD .skip
set_option maxRecDepth 100000 in
theorem f51 (w : W_tumbrelref04_Node) (R : T × List T) (h : ∃ b : Bool, (Rn 50 [w.t] ((tb b), [.dead])) ∧
  (cond (!b)
   (R = ((.sl 1 []), [.dead]))
   (∃ l : List T, (Rn 76 [w.t, (.sl 1 [])] ((.sl 1 l), [.dead, .dead])) ∧
    (R = ((.sl 1 l), [.dead]))))) : Rn 51 [w.t] R := by
  refine fn_rule (ann := A51) (mv := MV) (fz := true) mixed Tryd.func51 (c := B51) (by kernel_rfl) (by decide) ?_
  all_goals revert h
  all_goals refine via ?_
  all_goals kernel_rfl
/- tumbrel/tumbrelref12.variable -/
noncomputable def A52 : Ann := mkAnn [] [(66664, [.ex W_api_Var fun w => .done w.t])] [] [(52, [0, 1, 7, 8])]
noncomputable abbrev B52 : Code := Tryd.f52.body.getD .skip
def L52_0 (vars : List T) (name : ByteArray) (n : Int) (n1 : Int) (R : T × List T) : Prop := CutL Tryd.prog Tryd.f52 B52 true [1, 0, 1, 0, 0] (mkSt 20 [(0, (.sl 2 vars)), (1, (st name)), (7, (i64 n)), (8, (i64 n1))] []) [.dead, .dead] R
set_option maxRecDepth 100000 in
theorem l52_0 (vars : List T) (name : ByteArray) (n : Int) (n1 : Int) (R : T × List T) (h : cond (decide ((n1 : Int) < n))
  (∃ w : W_api_Var, ((0 : Int) ≤ n1 ∧ vars[(Int.toNat n1)]? = some w.t) ∧
   (cond (decide (w.fName = name))
    (R = ((i64 n1), [.dead, .dead]))
    (L52_0 vars name n (IntKind.wrap .i64 (n1 + 1)) R)))
  (R = ((i64 (-1)), [.dead, .dead]))) : L52_0 vars name n n1 R := by
  unfold L52_0
  refine cutL_rule (ann := A52) (mv := MV) mixed (by kernel_rfl) ?_
  all_goals revert h
  all_goals refine via ?_
  all_goals kernel_rfl
set_option maxRecDepth 100000 in
theorem f52 (vars : List T) (name : ByteArray) (R : T × List T) (h : L52_0 vars name (((List.length vars) : Nat) : Int) 0 R) : Rn 52 [(.sl 2 vars), (st name)] R := by
  refine fn_rule (ann := A52) (mv := MV) (fz := true) mixed Tryd.func52 (c := B52) (by kernel_rfl) (by decide) ?_
  all_goals revert h
  all_goals refine via ?_
  all_goals kernel_rfl
/- tumbrel/tumbrelref12.code -/
noncomputable def A53 : Ann := mkAnn [(83112, (fun a => [.ex (Int) fun n => .done ((i64 n), [.dead, .dead])])), (116008, (fun a => [.ex (T) fun y => .ex (List T) fun l => .done ((.cown 105 2 (y :: l)), [.dead, .dead])])), (148776, (fun a => [.ex (T) fun y => .ex (List T) fun l => .done ((.cown 105 2 (y :: l)), [.dead, .dead])])), (165160, (fun a => [.ex (T) fun y => .ex (List T) fun l => .done ((.cown 105 2 (y :: l)), [.dead, .dead])])), (165544, (fun a => [.ex (T) fun y => .ex (List T) fun l => .done ((.cown 105 2 (y :: l)), [.dead, .dead])]))] [(115816, [.ex W_tumbrelref04_Node fun w => .done w.t]), (148584, [.ex W_tumbrelref04_Node fun w => .done w.t]), (164968, [.ex W_tumbrelref04_Node fun w => .done w.t]), (165352, [.ex W_tumbrelref04_Node fun w => .done w.t])] [] []
noncomputable abbrev B53 : Code := Tryd.f53.body.getD .skip
set_option maxRecDepth 100000 in
theorem f53 (w : W_tumbrelref04_Node) (vars : List T) (R : T × List T) (h : cond (decide ((w.fKind : Int) = 1))
  (R = ((.cown 105 2 [(.agg [(st (bs [112, 117, 115, 104])), (i64 w.fN)])]), [.dead, .dead]))
  (cond (decide ((w.fKind : Int) = 2))
   (∃ n : Int, (Rn 52 [(.sl 2 vars), (st w.fS)] ((i64 n), [.dead, .dead])) ∧
    (R = ((.cown 105 2 [(.agg [(st (bs [108, 111, 97, 100])), (i64 n)])]), [.dead, .dead])))
   (cond (decide ((w.fKind : Int) = 3))
    (∃ w1 : W_tumbrelref04_Node, ((0 : Int) ≤ 0 ∧ w.fParts[0]? = some w1.t) ∧
     (∃ y : T, ∃ l : List T, (Rn 53 [w1.t, (.sl 2 vars)] ((.cown 105 2 (y :: l)), [.dead, .dead])) ∧
      (chk (Nat.ble (((List.length (y :: l)) + 1) * 24) 140737488355328)
       (R = ((.cown 105 2 ((y :: l) ++ [(.agg [(st (bs [110, 111, 116])), (i64 0)])])), [.dead, .dead])))))
    (cond (decide ((w.fKind : Int) = 4))
     (∃ w2 : W_tumbrelref04_Node, ((0 : Int) ≤ 0 ∧ w.fParts[0]? = some w2.t) ∧
      (∃ y1 : T, ∃ l1 : List T, (Rn 53 [w2.t, (.sl 2 vars)] ((.cown 105 2 (y1 :: l1)), [.dead, .dead])) ∧
       (chk (Nat.ble (((List.length (y1 :: l1)) + 1) * 24) 140737488355328)
        (R = ((.cown 105 2 ((y1 :: l1) ++ [(.agg [(st (bs [110, 101, 103])), (i64 0)])])), [.dead, .dead])))))
     (∃ w3 : W_tumbrelref04_Node, ((0 : Int) ≤ 0 ∧ w.fParts[0]? = some w3.t) ∧
      (∃ y2 : T, ∃ l2 : List T, (Rn 53 [w3.t, (.sl 2 vars)] ((.cown 105 2 (y2 :: l2)), [.dead, .dead])) ∧
       (∃ w4 : W_tumbrelref04_Node, ((0 : Int) ≤ 1 ∧ w.fParts[1]? = some w4.t) ∧
        (∃ y3 : T, ∃ l3 : List T, (Rn 53 [w4.t, (.sl 2 vars)] ((.cown 105 2 (y3 :: l3)), [.dead, .dead])) ∧
         (cond (decide (w.fS = (bs [38, 38])))
          (chk (Nat.ble (((List.length (y2 :: l2)) + 1) * 24) 140737488355328)
           (chk (List.all (y3 :: l3) T.ok1)
            (chk (Nat.ble (((List.length ((y2 :: l2) ++ [(.agg [(st (bs [97, 110, 100])), (i64 (IntKind.wrap .i64 ((((List.length (y3 :: l3)) : Nat) : Int) + 1)))])])) + (List.length (y3 :: l3))) * 24) 140737488355328)
             (chk (Nat.ble (((List.length (((y2 :: l2) ++ [(.agg [(st (bs [97, 110, 100])), (i64 (IntKind.wrap .i64 ((((List.length (y3 :: l3)) : Nat) : Int) + 1)))])]) ++ (y3 :: l3))) + 1) * 24) 140737488355328)
              (R = ((.cown 105 2 ((((y2 :: l2) ++ [(.agg [(st (bs [97, 110, 100])), (i64 (IntKind.wrap .i64 ((((List.length (y3 :: l3)) : Nat) : Int) + 1)))])]) ++ (y3 :: l3)) ++ [(.agg [(st (bs [98, 111, 111, 108])), (i64 0)])])), [.dead, .dead]))))))
          (cond (decide (w.fS = (bs [124, 124])))
           (chk (Nat.ble (((List.length (y2 :: l2)) + 1) * 24) 140737488355328)
            (chk (List.all (y3 :: l3) T.ok1)
             (chk (Nat.ble (((List.length ((y2 :: l2) ++ [(.agg [(st (bs [111, 114])), (i64 (IntKind.wrap .i64 ((((List.length (y3 :: l3)) : Nat) : Int) + 1)))])])) + (List.length (y3 :: l3))) * 24) 140737488355328)
              (chk (Nat.ble (((List.length (((y2 :: l2) ++ [(.agg [(st (bs [111, 114])), (i64 (IntKind.wrap .i64 ((((List.length (y3 :: l3)) : Nat) : Int) + 1)))])]) ++ (y3 :: l3))) + 1) * 24) 140737488355328)
               (R = ((.cown 105 2 ((((y2 :: l2) ++ [(.agg [(st (bs [111, 114])), (i64 (IntKind.wrap .i64 ((((List.length (y3 :: l3)) : Nat) : Int) + 1)))])]) ++ (y3 :: l3)) ++ [(.agg [(st (bs [98, 111, 111, 108])), (i64 0)])])), [.dead, .dead]))))))
           (chk (List.all (y3 :: l3) T.ok1)
            (chk (Nat.ble (((List.length (y2 :: l2)) + (List.length (y3 :: l3))) * 24) 140737488355328)
             (chk (Nat.ble (((List.length ((y2 :: l2) ++ (y3 :: l3))) + 1) * 24) 140737488355328)
              (R = ((.cown 105 2 (((y2 :: l2) ++ (y3 :: l3)) ++ [(.agg [(st w.fS), (i64 0)])])), [.dead, .dead]))))))))))))))) : Rn 53 [w.t, (.sl 2 vars)] R := by
  refine fn_rule (ann := A53) (mv := MV) (fz := false) mixed Tryd.func53 (c := B53) (by kernel_rfl) (by decide) ?_
  all_goals revert h
  all_goals refine via ?_
  all_goals kernel_rfl
/- tumbrel/expr.Nodes -/
noncomputable def A62 : Ann := mkAnn [(17448, (fun a => [.ex (Int) fun n => .done ((i64 n), [.dead, .dead])]))] [] [] []
noncomputable abbrev B62 : Code := Tryd.f62.body.getD .skip
set_option maxRecDepth 100000 in
theorem f62 (e : IfV) (R : T × List T) (h : ∃ n : Int, (Rn 90 [e.v, (i64 40)] ((i64 n), [.dead, .dead])) ∧
  (R = ((i64 (if (41 : Int) < n then 41 else n)), [.dead]))) : Rn 62 [e.v] R := by
  refine fn_rule (ann := A62) (mv := MV) (fz := true) mixed Tryd.func62 (c := B62) (by kernel_rfl) (by decide) ?_
  all_goals revert h
  all_goals refine via ?_
  all_goals kernel_rfl
/- tumbrel/expr.sound -/
noncomputable def A63 : Ann := mkAnn [(99624, (fun a => [.ex (Bool) fun b => .done ((tb b), [.dead])])), (132200, (fun a => [.ex (List T) fun l => .done ((.sl 1 l), [])])), (132392, (fun a => [.ex (Bool) fun b => .done ((tb b), [.dead, .dead])])), (164904, (fun a => [.ex (List T) fun l => .done ((.sl 1 l), [.dead])])), (181864, (fun a => [.ex (Bool) fun b => .ex (Int) fun n => .done ((tb b), [.dead, (.fn (.func 94) [] [(.cbox 3 [(i64 n)])])])]))] [(17448, [.ex W_expr_Lit fun w => .done w.t]), (66600, [.ex W_expr_Ref fun w => .done w.t]), (115752, [.ex W_expr_Bin fun w => .done w.t])] [] []
noncomputable abbrev B63 : Code := Tryd.f63.body.getD .skip
set_option maxRecDepth 100000 in
theorem f63 (e : IfV) (nest : Int) (R : T × List T) (h : cond (Nat.beq e.t 81)
  (∃ w : W_expr_Lit, (e.x = w.t) ∧
   (cond (decide ((0 : Int) < nest))
    (cond (decide ((0 : Int) ≤ w.fN))
     (R = ((tb (decide ((w.fN : Int) ≤ 1000000000))), [.dead, .dead]))
     (R = ((tb false), [.dead, .dead])))
    (R = ((tb false), [.dead, .dead]))))
  (cond (Nat.beq e.t 96)
   (∃ w1 : W_expr_Ref, (e.x = w1.t) ∧
    (cond (decide ((0 : Int) < nest))
     (∃ b : Bool, (Rn 13 [(st w1.fName)] ((tb b), [.dead])) ∧
      (R = ((tb b), [.dead, .dead])))
     (R = ((tb false), [.dead, .dead]))))
   (cond (Nat.beq e.t 101)
    (∃ w2 : W_expr_Bin, (e.x = w2.t) ∧
     (∃ l : List T, (Rn 92 [] ((.sl 1 l), [])) ∧
      (∃ b1 : Bool, (Rn 91 [(.sl 1 l), (st w2.fOp)] ((tb b1), [.dead, .dead])) ∧
       (cond (!b1)
        (R = ((tb false), [.dead, .dead]))
        (∃ l1 : List T, (Rn 66 [e.v] ((.sl 1 l1), [.dead])) ∧
         (cond (decide ((0 : Int) < nest))
          (cond (decide ((0 : Int) < (((List.length l1) : Nat) : Int)))
           (∃ b2 : Bool, ∃ n : Int, (Rn 93 [(.sl 1 l1), (.fn (.func 94) [] [(.cbox 3 [(i64 nest)])])] ((tb b2), [.dead, (.fn (.func 94) [] [(.cbox 3 [(i64 n)])])])) ∧
            (R = ((tb (!b2)), [.dead, .dead])))
           (R = ((tb false), [.dead, .dead])))
          (R = ((tb false), [.dead, .dead]))))))))
    (∃ l2 : List T, (Rn 66 [e.v] ((.sl 1 l2), [.dead])) ∧
     (cond (decide ((0 : Int) < nest))
      (cond (decide ((0 : Int) < (((List.length l2) : Nat) : Int)))
       (∃ b3 : Bool, ∃ n1 : Int, (Rn 93 [(.sl 1 l2), (.fn (.func 94) [] [(.cbox 3 [(i64 nest)])])] ((tb b3), [.dead, (.fn (.func 94) [] [(.cbox 3 [(i64 n1)])])])) ∧
        (R = ((tb (!b3)), [.dead, .dead])))
       (R = ((tb false), [.dead, .dead])))
      (R = ((tb false), [.dead, .dead]))))))) : Rn 63 [e.v, (i64 nest)] R := by
  refine fn_rule (ann := A63) (mv := MV) (fz := true) mixed Tryd.func63 (c := B63) (by kernel_rfl) (by decide) ?_
  all_goals revert h
  all_goals refine via ?_
  all_goals kernel_rfl
/- slices.IndexFunc[[]string,string] -/
noncomputable def A64 : Ann := mkAnn [(66856, (fun a => [.ex (Bool) fun b => .done ((tb b), [.dead, (a.getD 1 .dead)])]))] [(66728, [.ex ByteArray fun w => .done (st w)])] [] [(52, [0, 1, 7, 8])]
noncomputable abbrev B64 : Code := Tryd.f64.body.getD .skip
def L64_0 (s : List T) (n : Int) (n1 : Int) (l : List T) (l1 : List T) (R : T × List T) : Prop := CutL Tryd.prog Tryd.f64 B64 true [1, 0, 1, 0, 0] (mkSt 19 [(0, (.sl 1 s)), (1, (.fn (.func 46) [] [(.ptr (0, 0) 0)])), (7, (i64 n)), (8, (i64 n1))] (([((0, 0), .box 85 [(.ptr (1, 0) 0)]), ((1, 0), .box 87 [(.sl 2 l), (mnT (2, 0) l1)])] ++ mnH (2, 0) 83 2 l1))) [.dead, (.fn (.func 46) [] [(.ptr (0, 0) 0)])] R
def L64_0a (s : List T) (n : Int) (n1 : Int) (l : List T) (l1 : List T) (R : T × List T) : Prop := CutL Tryd.prog Tryd.f64 B64 true [1, 0, 1, 0, 0] (mkSt 19 [(0, (.sl 1 s)), (1, (.fn (.func 46) [] [(.ptr (0, 0) 0)])), (7, (i64 n)), (8, (i64 n1))] (([((0, 0), .box 85 [(.ptr (1000041089, 0) 0)]), ((1000041089, 0), .box 87 [(.sl 2 l), (mnT (1005259394, 0) l1)])] ++ mnH (1005259394, 0) 83 2 l1))) [.dead, (.fn (.func 46) [] [(.ptr (0, 0) 0)])] R
set_option maxRecDepth 100000 in
theorem l64_0 (s : List T) (n : Int) (n1 : Int) (l : List T) (l1 : List T) (R : T × List T) (h : cond (decide ((n1 : Int) < n))
  (∃ s1 : ByteArray, ((0 : Int) ≤ n1 ∧ s[(Int.toNat n1)]? = some (st s1)) ∧
   (∃ b : Bool, (Rn 46 [(st s1), (.cbox 85 [(.cbox 87 [(.sl 2 l), (mnC 83 2 l1)])])] ((tb b), [.dead, (.cbox 85 [(.cbox 87 [(.sl 2 l), (mnC 83 2 l1)])])])) ∧
    (cond b
     (R = ((i64 n1), [.dead, (.fn (.func 46) [] [(.cbox 85 [(.cbox 87 [(.sl 2 l), (mnC 83 2 l1)])])])]))
     (L64_0a s n (IntKind.wrap .i64 (n1 + 1)) l l1 R))))
  (R = ((i64 (-1)), [.dead, (.fn (.func 46) [] [(.cbox 85 [(.cbox 87 [(.sl 2 l), (mnC 83 2 l1)])])])]))) : L64_0 s n n1 l l1 R := by
  unfold L64_0
  refine cutL_rule (ann := A64) (mv := MV) mixed (by kernel_rfl) ?_
  all_goals rcases l1 with _ | ⟨_, _⟩
  all_goals revert h
  all_goals refine via ?_
  all_goals kernel_rfl
set_option maxRecDepth 100000 in
theorem l64_0a (s : List T) (n : Int) (n1 : Int) (l : List T) (l1 : List T) (R : T × List T) (h : cond (decide ((n1 : Int) < n))
  (∃ s1 : ByteArray, ((0 : Int) ≤ n1 ∧ s[(Int.toNat n1)]? = some (st s1)) ∧
   (∃ b : Bool, (Rn 46 [(st s1), (.cbox 85 [(.cbox 87 [(.sl 2 l), (mnC 83 2 l1)])])] ((tb b), [.dead, (.cbox 85 [(.cbox 87 [(.sl 2 l), (mnC 83 2 l1)])])])) ∧
    (cond b
     (R = ((i64 n1), [.dead, (.fn (.func 46) [] [(.cbox 85 [(.cbox 87 [(.sl 2 l), (mnC 83 2 l1)])])])]))
     (L64_0a s n (IntKind.wrap .i64 (n1 + 1)) l l1 R))))
  (R = ((i64 (-1)), [.dead, (.fn (.func 46) [] [(.cbox 85 [(.cbox 87 [(.sl 2 l), (mnC 83 2 l1)])])])]))) : L64_0a s n n1 l l1 R := by
  unfold L64_0a
  refine cutL_rule (ann := A64) (mv := MV) mixed (by kernel_rfl) ?_
  all_goals rcases l1 with _ | ⟨_, _⟩
  all_goals revert h
  all_goals refine via ?_
  all_goals kernel_rfl
set_option maxRecDepth 100000 in
theorem f64 (s : List T) (l : List T) (l1 : List T) (R : T × List T) (h : L64_0 s (((List.length s) : Nat) : Int) 0 l l1 R) : Rn 64 [(.sl 1 s), (.fn (.func 46) [] [(.cbox 85 [(.cbox 87 [(.sl 2 l), (mnC 83 2 l1)])])])] R := by
  refine fn_rule (ann := A64) (mv := MV) (fz := true) mixed Tryd.func64 (c := B64) (by kernel_rfl) (by decide) ?_
  all_goals rcases l1 with _ | ⟨_, _⟩
  all_goals revert h
  all_goals refine via ?_
  all_goals kernel_rfl
/- (*tumbrel/table.coder).add -/
noncomputable def A71 : Ann := mkAnn [] [] [] []
noncomputable abbrev B71 : Code := Tryd.f71.body.getD .skip
set_option maxRecDepth 100000 in
theorem f71 (l : List T) (l1 : List T) (op : ByteArray) (n : Int) (R : T × List T) (h : chk (Nat.ble (((List.length l1) + 1) * 24) 140737488355328)
  (R = ((.tup []), [(.cbox 87 [(.sl 2 l), (.cown 83 2 (l1 ++ [(.agg [(st op), (i64 n)])]))]), .dead, .dead]))) : Rn 71 [(.cbox 87 [(.sl 2 l), (mnC 83 2 l1)]), (st op), (i64 n)] R := by
  refine fn_rule (ann := A71) (mv := MV) (fz := true) mixed Tryd.func71 (c := B71) (by kernel_rfl) (by decide) ?_
  all_goals rcases l1 with _ | ⟨_, _⟩
  all_goals revert h
  all_goals refine via ?_
  all_goals kernel_rfl
/- (*tumbrel/table.coder).variable -/
noncomputable def A47 : Ann := mkAnn [(17704, (fun a => [.ex (Int) fun n => .done ((i64 n), [.dead, (a.getD 1 .dead)])]))] [] [] []
noncomputable abbrev B47 : Code := Tryd.f47.body.getD .skip
set_option maxRecDepth 100000 in
theorem f47 (l : List T) (l1 : List T) (name : ByteArray) (R : T × List T) (h : ∃ n : Int, (Rn 69 [(.sl 2 l), (.fn (.func 70) [] [(.cbox 9 [(st name)])])] ((i64 n), [.dead, (.fn (.func 70) [] [(.cbox 9 [(st name)])])])) ∧
  (R = ((i64 n), [(.cbox 87 [(.sl 2 l), (mnC 83 2 l1)]), .dead]))) : Rn 47 [(.cbox 87 [(.sl 2 l), (mnC 83 2 l1)]), (st name)] R := by
  refine fn_rule (ann := A47) (mv := MV) (fz := true) mixed Tryd.func47 (c := B47) (by kernel_rfl) (by decide) ?_
  all_goals rcases l1 with _ | ⟨_, _⟩
  all_goals revert h
  all_goals refine via ?_
  all_goals kernel_rfl
/- (*tumbrel/table.coder).jump -/
noncomputable def A72 : Ann := mkAnn [(17512, (fun a => [.ex (T) fun y => .ex (List T) fun l => .done ((.tup []), [(.cbox 87 [(capA (a.getD 0 .dead) 0), (.cown 83 2 (y :: l))]), .dead, .dead])])), (33896, (fun a => [.ex (T) fun y => .ex (List T) fun l => .done ((.tup []), [(.cbox 87 [(capA (a.getD 0 .dead) 0), (.cown 83 2 (y :: l))]), .dead])])), (50216, (fun a => [.ex (T) fun y => .ex (List T) fun l => .done ((.tup []), [(.cbox 87 [(capA (a.getD 0 .dead) 0), (.cown 83 2 (y :: l))]), .dead, .dead])]))] [(67496, [.ex W_table_Instr fun w => .done w.t])] [] []
noncomputable abbrev B72 : Code := Tryd.f72.body.getD .skip
set_option maxRecDepth 100000 in
theorem f72 (l : List T) (l1 : List T) (op : ByteArray) (e : IfV) (R : T × List T) (h : ∃ y : T, ∃ l2 : List T, (Rn 71 [(.cbox 87 [(.sl 2 l), (mnC 83 2 l1)]), (st op), (i64 0)] ((.tup []), [(.cbox 87 [(.sl 2 l), (.cown 83 2 (y :: l2))]), .dead, .dead])) ∧
  (∃ y1 : T, ∃ l3 : List T, (Rn 48 [(.cbox 87 [(.sl 2 l), (.cown 83 2 (y :: l2))]), e.v] ((.tup []), [(.cbox 87 [(.sl 2 l), (.cown 83 2 (y1 :: l3))]), .dead])) ∧
   (∃ y2 : T, ∃ l4 : List T, (Rn 71 [(.cbox 87 [(.sl 2 l), (.cown 83 2 (y1 :: l3))]), (st (bs [98, 111, 111, 108])), (i64 0)] ((.tup []), [(.cbox 87 [(.sl 2 l), (.cown 83 2 (y2 :: l4))]), .dead, .dead])) ∧
    (((0 : Int) ≤ (((List.length l1) : Nat) : Int) ∧ (((List.length l1) : Nat) : Int) < (((List.length (y2 :: l4)) : Nat) : Int)) ∧
     (∃ w : W_table_Instr, ((y2 :: l4)[(Int.toNat (((List.length l1) : Nat) : Int))]? = some w.t) ∧
      (R = ((.tup []), [(.cbox 87 [(.sl 2 l), (.cown 83 2 (List.set (y2 :: l4) (Int.toNat (((List.length l1) : Nat) : Int)) (.agg [(st w.fOp), (i64 (IntKind.wrap .i64 ((IntKind.wrap .i64 ((((List.length (y2 :: l4)) : Nat) : Int) - (((List.length l1) : Nat) : Int))) - 1)))])))]), .dead, .dead]))))))) : Rn 72 [(.cbox 87 [(.sl 2 l), (mnC 83 2 l1)]), (st op), e.v] R := by
  refine fn_rule (ann := A72) (mv := MV) (fz := true) mixed Tryd.func72 (c := B72) (by kernel_rfl) (by decide) ?_
  all_goals rcases l1 with _ | ⟨_, _⟩
  all_goals revert h
  all_goals refine via ?_
  all_goals kernel_rfl
/- tumbrel/tumbrelref04.Nodes -/
noncomputable def A73 : Ann := mkAnn [(83304, (fun a => [.ex (Int) fun n => .done ((i64 n), [.dead])]))] [(83176, [.ex W_tumbrelref04_Node fun w => .done w.t])] [] [(116, [1, 3, 7, 8])]
noncomputable abbrev B73 : Code := Tryd.f73.body.getD .skip
def L73_0 (n : Int) (n1 : Int) (n2 : Int) (w : W_tumbrelref04_Node) (R : T × List T) : Prop := CutL Tryd.prog Tryd.f73 B73 true [1, 1, 0, 1, 0, 0] (mkSt 22 [(1, (.ptr (1000000002, 0) 0)), (3, (i64 n)), (7, (i64 n1)), (8, (i64 n2))] [((1000000002, 0), .box 37 [(i64 w.fKind), (i64 w.fN), (st w.fS), (.sl 4 w.fParts)])]) [.dead] R
set_option maxRecDepth 100000 in
theorem l73_0 (n : Int) (n1 : Int) (n2 : Int) (w : W_tumbrelref04_Node) (R : T × List T) (h : cond (decide ((n2 : Int) < n1))
  (∃ w1 : W_tumbrelref04_Node, ((0 : Int) ≤ n2 ∧ w.fParts[(Int.toNat n2)]? = some w1.t) ∧
   (∃ n3 : Int, (Rn 73 [w1.t] ((i64 n3), [.dead])) ∧
    (L73_0 (IntKind.wrap .i64 (n + n3)) n1 (IntKind.wrap .i64 (n2 + 1)) w R)))
  (R = ((i64 (if (41 : Int) < n then 41 else n)), [.dead]))) : L73_0 n n1 n2 w R := by
  unfold L73_0
  refine cutL_rule (ann := A73) (mv := MV) mixed (by kernel_rfl) ?_
  all_goals revert h
  all_goals refine via ?_
  all_goals kernel_rfl
set_option maxRecDepth 100000 in
theorem f73 (w : W_tumbrelref04_Node) (R : T × List T) (h : L73_0 1 (((List.length w.fParts) : Nat) : Int) 0 w R) : Rn 73 [w.t] R := by
  refine fn_rule (ann := A73) (mv := MV) (fz := true) mixed Tryd.func73 (c := B73) (by kernel_rfl) (by decide) ?_
  all_goals revert h
  all_goals refine via ?_
  all_goals kernel_rfl
/- tumbrel/tumbrelref04.deep -/
noncomputable def A74 : Ann := mkAnn [(83304, (fun a => [.ex (Int) fun n => .done ((i64 n), [.dead])]))] [(83176, [.ex W_tumbrelref04_Node fun w => .done w.t])] [] [(116, [1, 3, 7, 8])]
noncomputable abbrev B74 : Code := Tryd.f74.body.getD .skip
def L74_0 (n : Int) (n1 : Int) (n2 : Int) (w : W_tumbrelref04_Node) (R : T × List T) : Prop := CutL Tryd.prog Tryd.f74 B74 true [1, 1, 0, 1, 0, 0] (mkSt 22 [(1, (.ptr (1000000002, 0) 0)), (3, (i64 n)), (7, (i64 n1)), (8, (i64 n2))] [((1000000002, 0), .box 37 [(i64 w.fKind), (i64 w.fN), (st w.fS), (.sl 4 w.fParts)])]) [.dead] R
set_option maxRecDepth 100000 in
theorem l74_0 (n : Int) (n1 : Int) (n2 : Int) (w : W_tumbrelref04_Node) (R : T × List T) (h : cond (decide ((n2 : Int) < n1))
  (∃ w1 : W_tumbrelref04_Node, ((0 : Int) ≤ n2 ∧ w.fParts[(Int.toNat n2)]? = some w1.t) ∧
   (∃ n3 : Int, (Rn 74 [w1.t] ((i64 n3), [.dead])) ∧
    (L74_0 (if (n : Int) < n3 then n3 else n) n1 (IntKind.wrap .i64 (n2 + 1)) w R)))
  (R = ((i64 (IntKind.wrap .i64 (n + 1))), [.dead]))) : L74_0 n n1 n2 w R := by
  unfold L74_0
  refine cutL_rule (ann := A74) (mv := MV) mixed (by kernel_rfl) ?_
  all_goals revert h
  all_goals refine via ?_
  all_goals kernel_rfl
set_option maxRecDepth 100000 in
theorem f74 (w : W_tumbrelref04_Node) (R : T × List T) (h : L74_0 0 (((List.length w.fParts) : Nat) : Int) 0 w R) : Rn 74 [w.t] R := by
  refine fn_rule (ann := A74) (mv := MV) (fz := true) mixed Tryd.func74 (c := B74) (by kernel_rfl) (by decide) ?_
  all_goals revert h
  all_goals refine via ?_
  all_goals kernel_rfl
/- tumbrel/tumbrelref04.sound -/
noncomputable def A75 : Ann := mkAnn [(83048, (fun a => [.ex (Bool) fun b => .done ((tb b), [.dead])])), (148840, (fun a => [.ex (Bool) fun b => .done ((tb b), [.dead])])), (230696, (fun a => [.ex (Bool) fun b => .done ((tb b), [.dead])]))] [(230568, [.ex W_tumbrelref04_Node fun w => .done w.t])] [] [(55252, [1, 36, 37])]
noncomputable abbrev B75 : Code := Tryd.f75.body.getD .skip
def L75_0 (n : Int) (n1 : Int) (w : W_tumbrelref04_Node) (R : T × List T) : Prop := CutL Tryd.prog Tryd.f75 B75 true [1, 0, 1, 0, 1, 1, 1, 1, 1, 0, 1, 0, 1, 0, 0] (mkSt 48 [(1, (.ptr (1000000002, 0) 0)), (36, (i64 n)), (37, (i64 n1))] [((1000000002, 0), .box 37 [(i64 w.fKind), (i64 w.fN), (st w.fS), (.sl 4 w.fParts)])]) [.dead] R
set_option maxRecDepth 100000 in
theorem l75_0 (n : Int) (n1 : Int) (w : W_tumbrelref04_Node) (R : T × List T) (h : cond (decide ((n1 : Int) < n))
  (∃ w1 : W_tumbrelref04_Node, ((0 : Int) ≤ n1 ∧ w.fParts[(Int.toNat n1)]? = some w1.t) ∧
   (∃ b : Bool, (Rn 75 [w1.t] ((tb b), [.dead])) ∧
    (cond (!b)
     (R = ((tb false), [.dead]))
     (L75_0 n (IntKind.wrap .i64 (n1 + 1)) w R))))
  (R = ((tb true), [.dead]))) : L75_0 n n1 w R := by
  unfold L75_0
  refine cutL_rule (ann := A75) (mv := MV) mixed (by kernel_rfl) ?_
  all_goals revert h
  all_goals refine via ?_
  all_goals kernel_rfl
set_option maxRecDepth 100000 in
theorem f75 (w : W_tumbrelref04_Node) (R : T × List T) (h : cond (decide ((w.fKind : Int) = 1))
  (cond (decide ((0 : Int) ≤ w.fN))
   (R = ((tb (decide ((w.fN : Int) ≤ 1000000000))), [.dead]))
   (R = ((tb false), [.dead])))
  (cond (decide ((w.fKind : Int) = 2))
   (∃ b : Bool, (Rn 14 [(st w.fS)] ((tb b), [.dead])) ∧
    (R = ((tb b), [.dead])))
   (cond (decide ((w.fKind : Int) = 3))
    (cond (decide ((w.fKind : Int) = 5))
     (∃ b1 : Bool, (Rn 98 [(st w.fS)] ((tb b1), [.dead])) ∧
      (cond (!b1)
       (R = ((tb false), [.dead]))
       (L75_0 (((List.length w.fParts) : Nat) : Int) 0 w R)))
     (L75_0 (((List.length w.fParts) : Nat) : Int) 0 w R))
    (cond (decide ((w.fKind : Int) = 4))
     (cond (decide ((w.fKind : Int) = 5))
      (∃ b2 : Bool, (Rn 98 [(st w.fS)] ((tb b2), [.dead])) ∧
       (cond (!b2)
        (R = ((tb false), [.dead]))
        (L75_0 (((List.length w.fParts) : Nat) : Int) 0 w R)))
      (L75_0 (((List.length w.fParts) : Nat) : Int) 0 w R))
     (cond (decide ((w.fKind : Int) = 5))
      (cond (decide ((w.fKind : Int) = 5))
       (∃ b3 : Bool, (Rn 98 [(st w.fS)] ((tb b3), [.dead])) ∧
        (cond (!b3)
         (R = ((tb false), [.dead]))
         (L75_0 (((List.length w.fParts) : Nat) : Int) 0 w R)))
       (L75_0 (((List.length w.fParts) : Nat) : Int) 0 w R))
      (R = ((tb false), [.dead]))))))) : Rn 75 [w.t] R := by
  refine fn_rule (ann := A75) (mv := MV) (fz := true) mixed Tryd.func75 (c := B75) (by kernel_rfl) (by decide) ?_
  all_goals revert h
  all_goals refine via ?_
  all_goals kernel_rfl
/- tumbrel/tumbrelref04.refs -/
noncomputable def A76 : Ann := mkAnn [(33960, (fun a => [.ex (List T) fun l => .done ((.sl 1 l), [.dead, .dead])])), (99688, (fun a => [.ex (List T) fun l => .done ((.sl 1 l), [.dead, .dead])]))] [(99496, [.ex W_tumbrelref04_Node fun w => .done w.t])] [] [(116, [1, 2, 15, 16])]
noncomputable abbrev B76 : Code := Tryd.f76.body.getD .skip
def L76_0 (l : List T) (n : Int) (n1 : Int) (w : W_tumbrelref04_Node) (R : T × List T) : Prop := CutL Tryd.prog Tryd.f76 B76 true [1, 1, 0, 1, 0, 0] (mkSt 28 [(1, (.sl 1 l)), (2, (.ptr (1000000003, 0) 0)), (15, (i64 n)), (16, (i64 n1))] [((1000000003, 0), .box 37 [(i64 w.fKind), (i64 w.fN), (st w.fS), (.sl 4 w.fParts)])]) [.dead, .dead] R
set_option maxRecDepth 100000 in
theorem l76_0 (l : List T) (n : Int) (n1 : Int) (w : W_tumbrelref04_Node) (R : T × List T) (h : cond (decide ((n1 : Int) < n))
  (∃ w1 : W_tumbrelref04_Node, ((0 : Int) ≤ n1 ∧ w.fParts[(Int.toNat n1)]? = some w1.t) ∧
   (∃ l1 : List T, (Rn 76 [w1.t, (.sl 1 l)] ((.sl 1 l1), [.dead, .dead])) ∧
    (L76_0 l1 n (IntKind.wrap .i64 (n1 + 1)) w R)))
  (R = ((.sl 1 l), [.dead, .dead]))) : L76_0 l n n1 w R := by
  unfold L76_0
  refine cutL_rule (ann := A76) (mv := MV) mixed (by kernel_rfl) ?_
  all_goals revert h
  all_goals refine via ?_
  all_goals kernel_rfl
set_option maxRecDepth 100000 in
theorem f76 (w : W_tumbrelref04_Node) (l : List T) (R : T × List T) (h : cond (decide ((w.fKind : Int) = 2))
  (∃ l1 : List T, (Rn 99 [(.sl 1 l), (st w.fS)] ((.sl 1 l1), [.dead, .dead])) ∧
   (L76_0 l1 (((List.length w.fParts) : Nat) : Int) 0 w R))
  (L76_0 l (((List.length w.fParts) : Nat) : Int) 0 w R)) : Rn 76 [w.t, (.sl 1 l)] R := by
  refine fn_rule (ann := A76) (mv := MV) (fz := true) mixed Tryd.func76 (c := B76) (by kernel_rfl) (by decide) ?_
  all_goals revert h
  all_goals refine via ?_
  all_goals kernel_rfl
/- tumbrel/expr.count -/
noncomputable def A90 : Ann := mkAnn [(33832, (fun a => [.ex (List T) fun l => .done ((.sl 1 l), [.dead])])), (99624, (fun a => [.ex (Int) fun n => .done ((i64 n), [.dead, .dead])]))] [(66536, [.ex IfV fun w => .done w.v])] [] [(116, [1, 5, 9, 10, 11])]
noncomputable abbrev B90 : Code := Tryd.f90.body.getD .skip
def L90_0 (left : Int) (n : Int) (l : List T) (n1 : Int) (n2 : Int) (R : T × List T) : Prop := CutL Tryd.prog Tryd.f90 B90 true [1, 1, 0, 1, 0, 0] (mkSt 27 [(1, (i64 left)), (5, (i64 n)), (9, (.sl 1 l)), (10, (i64 n1)), (11, (i64 n2))] []) [.dead, .dead] R
set_option maxRecDepth 100000 in
theorem l90_0 (left : Int) (n : Int) (l : List T) (n1 : Int) (n2 : Int) (R : T × List T) (h : cond (decide ((n2 : Int) < n1))
  (∃ e : IfV, ((0 : Int) ≤ n2 ∧ l[(Int.toNat n2)]? = some e.v) ∧
   (cond (decide ((n : Int) ≤ left))
    (∃ n3 : Int, (Rn 90 [e.v, (i64 (IntKind.wrap .i64 (left - n)))] ((i64 n3), [.dead, .dead])) ∧
     (L90_0 left (IntKind.wrap .i64 (n + n3)) l n1 (IntKind.wrap .i64 (n2 + 1)) R))
    (L90_0 left n l n1 (IntKind.wrap .i64 (n2 + 1)) R)))
  (R = ((i64 n), [.dead, .dead]))) : L90_0 left n l n1 n2 R := by
  unfold L90_0
  refine cutL_rule (ann := A90) (mv := MV) mixed (by kernel_rfl) ?_
  all_goals revert h
  all_goals refine via ?_
  all_goals kernel_rfl
set_option maxRecDepth 100000 in
theorem f90 (e : IfV) (left : Int) (R : T × List T) (h : ∃ l : List T, (Rn 66 [e.v] ((.sl 1 l), [.dead])) ∧
  (L90_0 left 1 l (((List.length l) : Nat) : Int) 0 R)) : Rn 90 [e.v, (i64 left)] R := by
  refine fn_rule (ann := A90) (mv := MV) (fz := true) mixed Tryd.func90 (c := B90) (by kernel_rfl) (by decide) ?_
  all_goals revert h
  all_goals refine via ?_
  all_goals kernel_rfl
/- tumbrel/glyph.Name -/
noncomputable def A13 : Ann := mkAnn [(82984, (fun a => [.ex (Bool) fun b => .done ((tb b), [.dead])])), (83432, (fun a => [.ex (Bool) fun b => .done ((tb b), [.dead])]))] [] [] [(116, [3, 7])]
noncomputable abbrev B13 : Code := Tryd.f13.body.getD .skip
def L13_0 (n : Int) (s : ByteArray) (pos : Nat) (R : T × List T) : Prop := CutL Tryd.prog Tryd.f13 B13 true [1, 1, 0, 1, 0, 0] (mkSt 32 [(3, (i64 n)), (7, (.it (1000000008, 0)))] [((1000000008, 0), .iter s pos)]) [.dead] R
set_option maxRecDepth 100000 in
theorem l13_0 (n : Int) (s : ByteArray) (pos : Nat) (R : T × List T) (h : cond (Nat.ble (pos + 1) (ByteArray.size s))
  (∃ b : Bool, (Rn 39 [(i32 (Utf8.decode s pos).1)] ((tb b), [.dead])) ∧
   (cond (!b)
    (R = ((tb false), [.dead]))
    (cond (decide ((((pos : Nat) : Int) : Int) = 0))
     (∃ b1 : Bool, (Rn 15 [(i32 (Utf8.decode s pos).1)] ((tb b1), [.dead])) ∧
      (cond (!b1)
       (R = ((tb false), [.dead]))
       (L13_0 (IntKind.wrap .i64 (n + 1)) s (pos + (Utf8.decode s pos).2) R)))
     (L13_0 (IntKind.wrap .i64 (n + 1)) s (pos + (Utf8.decode s pos).2) R))))
  (cond (decide ((0 : Int) < n))
   (R = ((tb (decide ((n : Int) ≤ 24))), [.dead]))
   (R = ((tb false), [.dead])))) : L13_0 n s pos R := by
  unfold L13_0
  refine cutL_rule (ann := A13) (mv := MV) mixed (by kernel_rfl) ?_
  all_goals revert h
  all_goals refine via ?_
  all_goals kernel_rfl
set_option maxRecDepth 100000 in
theorem f13 (s : ByteArray) (R : T × List T) (h : L13_0 0 s 0 R) : Rn 13 [(st s)] R := by
  refine fn_rule (ann := A13) (mv := MV) (fz := true) mixed Tryd.func13 (c := B13) (by kernel_rfl) (by decide) ?_
  all_goals revert h
  all_goals refine via ?_
  all_goals kernel_rfl
/- tumbrel/expr.Operators -/
noncomputable def A92 : Ann := mkAnn [] [] [] []
noncomputable abbrev B92 : Code := Tryd.f92.body.getD .skip
set_option maxRecDepth 100000 in
theorem f92 (R : T × List T) (h : R = ((.sl 1 [(st (bs [43])), (st (bs [45])), (st (bs [42])), (st (bs [60])), (st (bs [60, 61])), (st (bs [61, 61])), (st (bs [33, 61])), (st (bs [38, 38])), (st (bs [124, 124]))]), [])) : Rn 92 [] R := by
  refine fn_rule (ann := A92) (mv := MV) (fz := true) mixed Tryd.func92 (c := B92) (by kernel_rfl) (by decide) ?_
  all_goals revert h
  all_goals refine via ?_
  all_goals kernel_rfl
/- slices.Contains[[]string,string] -/
noncomputable def A91 : Ann := mkAnn [(17512, (fun a => [.ex (Int) fun n => .done ((i64 n), [.dead, .dead])]))] [] [] []
noncomputable abbrev B91 : Code := Tryd.f91.body.getD .skip
set_option maxRecDepth 100000 in
theorem f91 (s : List T) (s1 : ByteArray) (R : T × List T) (h : ∃ n : Int, (Rn 108 [(.sl 1 s), (st s1)] ((i64 n), [.dead, .dead])) ∧
  (R = ((tb (decide ((0 : Int) ≤ n))), [.dead, .dead]))) : Rn 91 [(.sl 1 s), (st s1)] R := by
  refine fn_rule (ann := A91) (mv := MV) (fz := true) mixed Tryd.func91 (c := B91) (by kernel_rfl) (by decide) ?_
  all_goals revert h
  all_goals refine via ?_
  all_goals kernel_rfl
end Go.Proofs.YthcaodlfnlhfbaaDoorT
