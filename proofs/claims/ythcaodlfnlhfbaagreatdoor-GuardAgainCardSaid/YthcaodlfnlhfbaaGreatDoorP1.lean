/- What is to be shown of functions of the program, by their texts (printed by a program of this work; the kernel holds each against the text). -/
import Derived.Test.YthcaodlfnlhfbaaGreatDoorP0
namespace Go.Proofs.YthcaodlfnlhfbaaGreatDoorT
open Go Go.Proofs
set_option linter.unusedVariables false
/- tumbrel/tumbrellaw05.GuardBack -/
noncomputable def A3 : Ann := mkAnn [(17384, (fun a => [.ex (Bool) fun b => .done ((tb b), [])])), (17640, (fun a => [.ex (Bool) fun b => .done ((tb b), [.dead])])), (33768, (fun a => [.ex (Bool) fun b => .done ((tb b), [])])), (50216, (fun a => [.ex (IfV) fun e => .done (e.v, [.dead])])), (50280, (fun a => [.ex (ByteArray) fun s => .ex (Int) fun n => .done ((.tup [(st s), (i64 n)]), [.dead])])), (99368, (fun a => [.ex (IfV) fun e => .ex (Int) fun n => .done ((.tup [e.v, (i64 n)]), [.dead])])), (116008, (fun a => [.ex (IfV) fun e => .done (e.v, [.dead])])), (116072, (fun a => [.ex (Bool) fun b => .done ((tb b), [.dead, .dead])]))] [] [] []
noncomputable abbrev B3 : Code := Tryz.f3.body.getD .skip
set_option maxRecDepth 100000 in
theorem f3 (w : W_tumbrelref04_Node) (R : T × List T) (h : ∃ b : Bool, (Rn 6 [] ((tb b), [])) ∧
  (cond (!b)
   (∃ b1 : Bool, (Rn 6 [] ((tb b1), [])) ∧
    (R = ((tb b1), [.dead])))
   (∃ b2 : Bool, (Rn 7 [w.t] ((tb b2), [.dead])) ∧
    (cond (!b2)
     (∃ b3 : Bool, (Rn 6 [] ((tb b3), [])) ∧
      (R = ((tb b3), [.dead])))
     (∃ e : IfV, (Rn 9 [w.t] (e.v, [.dead])) ∧
      (∃ s : ByteArray, ∃ n : Int, (Rn 8 [e.v] ((.tup [(st s), (i64 n)]), [.dead])) ∧
       (cond (!(decide ((n : Int) = 0)))
        (R = ((tb (decide (s = (bs [])))), [.dead]))
        (∃ e1 : IfV, ∃ n1 : Int, (Rn 10 [(st s)] ((.tup [e1.v, (i64 n1)]), [.dead])) ∧
         (cond (decide ((n1 : Int) = 0))
          (∃ e2 : IfV, (Rn 9 [w.t] (e2.v, [.dead])) ∧
           (∃ b4 : Bool, (Rn 11 [e1.v, e2.v] ((tb b4), [.dead, .dead])) ∧
            (R = ((tb b4), [.dead]))))
          (R = ((tb false), [.dead]))))))))))) : Rn 3 [w.t] R := by
  refine fn_rule (ann := A3) (mv := MV) (fz := true) mixed Tryz.func3 (c := B3) (by kernel_rfl) (by decide) ?_
  all_goals revert h
  all_goals refine via ?_
  all_goals kernel_rfl
/- tumbrel/tumbrellaw05.GuardAgain -/
noncomputable def A4 : Ann := mkAnn [(17384, (fun a => [.ex (Bool) fun b => .done ((tb b), [])])), (17640, (fun a => [.ex (Bool) fun b => .done ((tb b), [.dead])])), (33768, (fun a => [.ex (Bool) fun b => .done ((tb b), [])])), (50216, (fun a => [.ex (IfV) fun e => .ex (Int) fun n => .done ((.tup [e.v, (i64 n)]), [.dead])])), (99368, (fun a => [.ex (ByteArray) fun s => .ex (Int) fun n => .done ((.tup [(st s), (i64 n)]), [.dead])])), (115752, (fun a => [.ex (IfV) fun e => .ex (Int) fun n => .done ((.tup [e.v, (i64 n)]), [.dead])])), (132264, (fun a => [.ex (IfV) fun e => .ex (Int) fun n => .done ((.tup [e.v, (i64 n)]), [.dead])])), (149288, (fun a => [.ex (Bool) fun b => .done ((tb b), [.dead, .dead])])), (149608, (fun a => [.ex (Bool) fun b => .done ((tb b), [.dead, .dead])]))] [] [] []
noncomputable abbrev B4 : Code := Tryz.f4.body.getD .skip
set_option maxRecDepth 100000 in
theorem f4 (s : ByteArray) (R : T × List T) (h : ∃ b : Bool, (Rn 6 [] ((tb b), [])) ∧
  (cond (!b)
   (∃ b1 : Bool, (Rn 6 [] ((tb b1), [])) ∧
    (R = ((tb b1), [.dead])))
   (∃ b2 : Bool, (Rn 12 [(st s)] ((tb b2), [.dead])) ∧
    (cond (!b2)
     (∃ b3 : Bool, (Rn 6 [] ((tb b3), [])) ∧
      (R = ((tb b3), [.dead])))
     (∃ e : IfV, ∃ n : Int, (Rn 10 [(st s)] ((.tup [e.v, (i64 n)]), [.dead])) ∧
      (cond (!(decide ((n : Int) = 0)))
       (R = ((tb (decide (e.t = 0))), [.dead]))
       (∃ s1 : ByteArray, ∃ n1 : Int, (Rn 8 [e.v] ((.tup [(st s1), (i64 n1)]), [.dead])) ∧
        (∃ e1 : IfV, ∃ n2 : Int, (Rn 10 [(st s1)] ((.tup [e1.v, (i64 n2)]), [.dead])) ∧
         ((((ByteArray.size (bs [40]) + ByteArray.size s1 : Nat) : Int) ≤ 9223372036854775807) ∧
          ((((ByteArray.size ((bs [40]) ++ s1) + ByteArray.size (bs [41]) : Nat) : Int) ≤ 9223372036854775807) ∧
           (∃ e2 : IfV, ∃ n3 : Int, (Rn 10 [(st (((bs [40]) ++ s1) ++ (bs [41])))] ((.tup [e2.v, (i64 n3)]), [.dead])) ∧
            (cond (decide ((n1 : Int) = 0))
             (cond (decide ((n2 : Int) = 0))
              (cond (decide ((n3 : Int) = 0))
               (∃ b4 : Bool, (Rn 11 [e.v, e1.v] ((tb b4), [.dead, .dead])) ∧
                (cond b4
                 (∃ b5 : Bool, (Rn 11 [e.v, e2.v] ((tb b5), [.dead, .dead])) ∧
                  (R = ((tb b5), [.dead])))
                 (R = ((tb false), [.dead]))))
               (R = ((tb false), [.dead])))
              (R = ((tb false), [.dead])))
             (R = ((tb false), [.dead])))))))))))))) : Rn 4 [(st s)] R := by
  refine fn_rule (ann := A4) (mv := MV) (fz := true) mixed Tryz.func4 (c := B4) (by kernel_rfl) (by decide) ?_
  all_goals revert h
  all_goals refine via ?_
  all_goals kernel_rfl
/- tumbrel/tumbrellaw05.GuardPrints -/
noncomputable def A5 : Ann := mkAnn [(17384, (fun a => [.ex (Bool) fun b => .done ((tb b), [])])), (17640, (fun a => [.ex (Bool) fun b => .done ((tb b), [.dead])])), (33768, (fun a => [.ex (Bool) fun b => .done ((tb b), [])])), (50216, (fun a => [.ex (IfV) fun e => .done (e.v, [.dead])])), (50280, (fun a => [.ex (ByteArray) fun s => .ex (Int) fun n => .done ((.tup [(st s), (i64 n)]), [.dead])])), (66600, (fun a => [.ex (W_tumbrelref04_Node) fun w => .done (w.t, [.dead])])), (66664, (fun a => [.ex (ByteArray) fun s => .ex (Int) fun n => .done ((.tup [(st s), (i64 n)]), [.dead])])), (83560, (fun a => [.ex (Bool) fun b => .done ((tb b), [.dead])])), (83688, (fun a => [.ex (Bool) fun b => .done ((tb b), [.dead])]))] [] [] []
noncomputable abbrev B5 : Code := Tryz.f5.body.getD .skip
set_option maxRecDepth 100000 in
theorem f5 (w : W_tumbrelref04_Node) (s : ByteArray) (R : T × List T) (h : ∃ b : Bool, (Rn 6 [] ((tb b), [])) ∧
  (cond (!b)
   (∃ b1 : Bool, (Rn 6 [] ((tb b1), [])) ∧
    (R = ((tb b1), [.dead, .dead])))
   (∃ b2 : Bool, (Rn 7 [w.t] ((tb b2), [.dead])) ∧
    (cond (!b2)
     (∃ b3 : Bool, (Rn 6 [] ((tb b3), [])) ∧
      (R = ((tb b3), [.dead, .dead])))
     (∃ e : IfV, (Rn 9 [w.t] (e.v, [.dead])) ∧
      (∃ s1 : ByteArray, ∃ n : Int, (Rn 8 [e.v] ((.tup [(st s1), (i64 n)]), [.dead])) ∧
       (∃ w1 : W_tumbrelref04_Node, (Rn 14 [w.t] (w1.t, [.dead])) ∧
        (∃ s2 : ByteArray, ∃ n1 : Int, (Rn 13 [w1.t] ((.tup [(st s2), (i64 n1)]), [.dead])) ∧
         (cond (decide (s1 = s2))
          (cond (decide ((n : Int) = n1))
           (∃ b4 : Bool, (Rn 15 [(st s)] ((tb b4), [.dead])) ∧
            (∃ b5 : Bool, (Rn 16 [(st s)] ((tb b5), [.dead])) ∧
             (R = ((tb (b4 == b5)), [.dead, .dead]))))
           (R = ((tb false), [.dead, .dead])))
          (R = ((tb false), [.dead, .dead]))))))))))) : Rn 5 [w.t, (st s)] R := by
  refine fn_rule (ann := A5) (mv := MV) (fz := true) mixed Tryz.func5 (c := B5) (by kernel_rfl) (by decide) ?_
  all_goals revert h
  all_goals refine via ?_
  all_goals kernel_rfl
/- tumbrel/tumbrellaw05.awake -/
noncomputable def A6 : Ann := mkAnn [(17384, (fun a => [.ex (IfV) fun e => .ex (Int) fun n => .done ((.tup [e.v, (i64 n)]), [.dead])])), (34408, (fun a => [.ex (Bool) fun b => .done ((tb b), [.dead, .dead])]))] [] [] []
noncomputable abbrev B6 : Code := Tryz.f6.body.getD .skip
set_option maxRecDepth 100000 in
theorem f6 (R : T × List T) (h : ∃ e : IfV, ∃ n : Int, (Rn 10 [(st (bs [49, 32, 43, 32, 50]))] ((.tup [e.v, (i64 n)]), [.dead])) ∧
  (cond (decide ((n : Int) = 0))
   (∃ b : Bool, (Rn 11 [e.v, (.ifc 43 (.agg [(st (bs [43])), (.ifc 41 (.agg [(i64 1)])), (.ifc 41 (.agg [(i64 2)]))]))] ((tb b), [.dead, .dead])) ∧
    (R = ((tb b), [])))
   (R = ((tb false), [])))) : Rn 6 [] R := by
  refine fn_rule (ann := A6) (mv := MV) (fz := true) mixed Tryz.func6 (c := B6) (by kernel_rfl) (by decide) ?_
  all_goals revert h
  all_goals refine via ?_
  all_goals kernel_rfl
/- tumbrel/tumbrelref04.Small -/
noncomputable def A7 : Ann := mkAnn [(17448, (fun a => [.ex (Int) fun n => .done ((i64 n), [.dead, .dead, .dead])]))] [] [] []
noncomputable abbrev B7 : Code := Tryz.f7.body.getD .skip
set_option maxRecDepth 100000 in
theorem f7 (w : W_tumbrelref04_Node) (R : T × List T) (h : ∃ n : Int, (Rn 17 [w.t, (i64 0), (i64 200)] ((i64 n), [.dead, .dead, .dead])) ∧
  (R = ((tb (decide ((0 : Int) ≤ n))), [.dead]))) : Rn 7 [w.t] R := by
  refine fn_rule (ann := A7) (mv := MV) (fz := true) mixed Tryz.func7 (c := B7) (by kernel_rfl) (by decide) ?_
  all_goals revert h
  all_goals refine via ?_
  all_goals kernel_rfl
/- tumbrel/tumbrellaw04.Theirs -/
noncomputable def A9 : Ann := mkAnn [(132136, (fun a => [.ex (IfV) fun e => .done (e.v, [.dead, (a.getD 1 .dead)])])), (164904, (fun a => [.ex (IfV) fun e => .done (e.v, [.dead, (a.getD 1 .dead)])])), (197800, (fun a => [.ex (IfV) fun e => .done (e.v, [.dead, (a.getD 1 .dead)])])), (197928, (fun a => [.ex (IfV) fun e => .done (e.v, [.dead, (a.getD 1 .dead)])]))] [] [] [] [(197800, [(1000, 0)]), (197928, [(1000, 0)])]
noncomputable abbrev B9 : Code := Tryz.f9.body.getD .skip
set_option maxRecDepth 100000 in
theorem f9 (w : W_tumbrelref04_Node) (R : T × List T) (h : cond (decide ((w.fKind : Int) = 1))
  (R = ((.ifc 41 (.agg [(i64 w.fN)])), [.dead]))
  (cond (decide ((w.fKind : Int) = 2))
   (R = ((.ifc 49 (.agg [(st w.fS)])), [.dead]))
   (cond (decide ((w.fKind : Int) = 3))
    (∃ e : IfV, (Rn 20 [(i64 0), (.cbox 24 [(i64 w.fKind), (i64 w.fN), (st w.fS), (.sl 4 w.fParts)])] (e.v, [.dead, (.cbox 24 [(i64 w.fKind), (i64 w.fN), (st w.fS), (.sl 4 w.fParts)])])) ∧
     (R = ((.ifc 51 (.agg [e.v])), [.dead])))
    (cond (decide ((w.fKind : Int) = 4))
     (∃ e1 : IfV, (Rn 20 [(i64 0), (.cbox 24 [(i64 w.fKind), (i64 w.fN), (st w.fS), (.sl 4 w.fParts)])] (e1.v, [.dead, (.cbox 24 [(i64 w.fKind), (i64 w.fN), (st w.fS), (.sl 4 w.fParts)])])) ∧
      (R = ((.ifc 52 (.agg [e1.v])), [.dead])))
     (cond (decide ((w.fKind : Int) = 5))
      (∃ e2 : IfV, (Rn 20 [(i64 0), (.cbox 24 [(i64 w.fKind), (i64 w.fN), (st w.fS), (.sl 4 w.fParts)])] (e2.v, [.dead, (.cbox 24 [(i64 w.fKind), (i64 w.fN), (st w.fS), (.sl 4 w.fParts)])])) ∧
       (((some (.box 24 [(i64 w.fKind), (i64 w.fN), (st w.fS), (.sl 4 w.fParts)]) : Option O) = some (.box 24 [(i64 w.fKind), (i64 w.fN), (st w.fS), (.sl 4 w.fParts)])) ∧
        (∃ e3 : IfV, (Rn 20 [(i64 1), (.cbox 24 [(i64 w.fKind), (i64 w.fN), (st w.fS), (.sl 4 w.fParts)])] (e3.v, [.dead, (.cbox 24 [(i64 w.fKind), (i64 w.fN), (st w.fS), (.sl 4 w.fParts)])])) ∧
         (((some (.box 24 [(i64 w.fKind), (i64 w.fN), (st w.fS), (.sl 4 w.fParts)]) : Option O) = some (.box 24 [(i64 w.fKind), (i64 w.fN), (st w.fS), (.sl 4 w.fParts)])) ∧
          (R = ((.ifc 43 (.agg [(st w.fS), e2.v, e3.v])), [.dead]))))))
      (R = ((.ifc 0 .dead), [.dead]))))))) : Rn 9 [w.t] R := by
  refine fn_rule (ann := A9) (mv := MV) (fz := true) mixed Tryz.func9 (c := B9) (by kernel_rfl) (by decide) ?_
  all_goals revert h
  all_goals refine via ?_
  all_goals kernel_rfl
/- tumbrel/guard.Print -/
noncomputable def A8 : Ann := mkAnn [(17448, (fun a => [.ex (Bool) fun b => .done ((tb b), [.dead])])), (50216, (fun a => [.ex (ByteArray) fun s => .done ((st s), [.dead])]))] [] [] []
noncomputable abbrev B8 : Code := Tryz.f8.body.getD .skip
set_option maxRecDepth 100000 in
theorem f8 (e : IfV) (R : T × List T) (h : ∃ b : Bool, (Rn 18 [e.v] ((tb b), [.dead])) ∧
  (cond (!b)
   (R = ((.tup [(st (bs [])), (i64 1)]), [.dead]))
   (∃ s : ByteArray, (Rn 19 [e.v] ((st s), [.dead])) ∧
    (R = ((.tup [(st s), (i64 0)]), [.dead]))))) : Rn 8 [e.v] R := by
  refine fn_rule (ann := A8) (mv := MV) (fz := true) mixed Tryz.func8 (c := B8) (by kernel_rfl) (by decide) ?_
  all_goals revert h
  all_goals refine via ?_
  all_goals kernel_rfl
/- tumbrel/guard.Parse -/
noncomputable def A10 : Ann := mkAnn [(17448, (fun a => [.ex (List T) fun l => .ex (W_api_Pos) fun w => .ex (Int) fun n => .done ((.tup [(.sl 4 l), w.t, (i64 n)]), [.dead])])), (66600, (fun a => [.ex (IfV) fun e => .ex (Int) fun n => .ex (Int) fun n1 => .done ((.tup [e.v, (i64 n), (i64 n1)]), [.dead])]))] [] [] []
noncomputable abbrev B10 : Code := Tryz.f10.body.getD .skip
set_option maxRecDepth 100000 in
theorem f10 (s : ByteArray) (R : T × List T) (h : ∃ l : List T, ∃ w : W_api_Pos, ∃ n : Int, (Rn 21 [(st s)] ((.tup [(.sl 4 l), w.t, (i64 n)]), [.dead])) ∧
  (cond (!(decide ((n : Int) = 0)))
   (R = ((.tup [(.ifc 0 .dead), (i64 n)]), [.dead]))
   (∃ e : IfV, ∃ n1 : Int, ∃ n2 : Int, (Rn 22 [(.sl 4 l)] ((.tup [e.v, (i64 n1), (i64 n2)]), [.dead])) ∧
    (cond (decide ((n2 : Int) = 0))
     (cond (decide ((n1 : Int) < (((List.length l) : Nat) : Int)))
      (R = ((.tup [(.ifc 0 .dead), (i64 12)]), [.dead]))
      (R = ((.tup [e.v, (i64 n2)]), [.dead])))
     (R = ((.tup [e.v, (i64 n2)]), [.dead])))))) : Rn 10 [(st s)] R := by
  refine fn_rule (ann := A10) (mv := MV) (fz := true) mixed Tryz.func10 (c := B10) (by kernel_rfl) (by decide) ?_
  all_goals revert h
  all_goals refine via ?_
  all_goals kernel_rfl
/- tumbrel/expr.Same -/
noncomputable def A11 : Ann := mkAnn [(17448, (fun a => [.ex (List T) fun l => .done ((.sl 1 l), [.dead])])), (17576, (fun a => [.ex (List T) fun l => .done ((.sl 1 l), [.dead])])), (345384, (fun a => [.ex (Int) fun n => .done ((i64 n), [.dead])])), (345512, (fun a => [.ex (Int) fun n => .done ((i64 n), [.dead])])), (345896, (fun a => [.ex (Bool) fun b => .done ((tb b), [.dead, .dead, .dead])]))] [(132072, [.ex W_expr_Lit fun w => .done w.t]), (164904, [.ex W_expr_Lit fun w => .done w.t]), (197608, [.ex W_expr_Ref fun w => .done w.t]), (230440, [.ex W_expr_Ref fun w => .done w.t]), (263144, [.ex W_expr_Bin fun w => .done w.t]), (295976, [.ex W_expr_Bin fun w => .done w.t])] [(345384, [(41, [.ex W_expr_Lit fun w => .done w.t]), (43, [.ex W_expr_Bin fun w => .done w.t]), (49, [.ex W_expr_Ref fun w => .done w.t]), (51, [.ex W_expr_Not fun w => .done w.t]), (52, [.ex W_expr_Neg fun w => .done w.t])]), (345512, [(41, [.ex W_expr_Lit fun w => .done w.t]), (43, [.ex W_expr_Bin fun w => .done w.t]), (49, [.ex W_expr_Ref fun w => .done w.t]), (51, [.ex W_expr_Not fun w => .done w.t]), (52, [.ex W_expr_Neg fun w => .done w.t])])] []
noncomputable abbrev B11 : Code := Tryz.f11.body.getD .skip
set_option maxRecDepth 100000 in
theorem f11 (e : IfV) (b : IfV) (R : T × List T) (h : ∃ l : List T, (Rn 23 [e.v] ((.sl 1 l), [.dead])) ∧
  (∃ l1 : List T, (Rn 23 [b.v] ((.sl 1 l1), [.dead])) ∧
   (cond (!(decide (((((List.length l) : Nat) : Int) : Int) = (((List.length l1) : Nat) : Int))))
    (R = ((tb false), [.dead, .dead]))
    (cond (decide (e.t = 0))
     (R = ((tb (decide (b.t = 0))), [.dead, .dead]))
     (cond (Nat.beq e.t 41)
      (∃ w : W_expr_Lit, (e.x = w.t) ∧
       (cond (Nat.beq b.t 41)
        (∃ w1 : W_expr_Lit, (b.x = w1.t) ∧
         (R = ((tb (((w.fN : Int) == w1.fN) && true)), [.dead, .dead])))
        (R = ((tb false), [.dead, .dead]))))
      (cond (Nat.beq e.t 49)
       (∃ w2 : W_expr_Ref, (e.x = w2.t) ∧
        (cond (Nat.beq b.t 49)
         (∃ w3 : W_expr_Ref, (b.x = w3.t) ∧
          (R = ((tb ((decide (w2.fName = w3.fName)) && true)), [.dead, .dead])))
         (R = ((tb false), [.dead, .dead]))))
       (cond (Nat.beq e.t 43)
        (∃ w4 : W_expr_Bin, (e.x = w4.t) ∧
         (cond (Nat.beq b.t 43)
          (∃ w5 : W_expr_Bin, (b.x = w5.t) ∧
           (cond (!(decide (w4.fOp = w5.fOp)))
            (R = ((tb false), [.dead, .dead]))
            (cond (decide ((0 : Int) < (((List.length l) : Nat) : Int)))
             (cond (Nat.beq e.t 41)
              (∃ w30 : W_expr_Lit, (e.x = w30.t) ∧
               (∃ n24 : Int, (Rn 147 [w30.t] ((i64 n24), [.dead])) ∧
                (cond (Nat.beq b.t 41)
                 (∃ w35 : W_expr_Lit, (b.x = w35.t) ∧
                  (∃ n29 : Int, (Rn 147 [w35.t] ((i64 n29), [.dead])) ∧
                   (cond (decide ((n24 : Int) = n29))
                    (∃ b25 : Bool, (Rn 24 [(.sl 1 l), (.sl 1 l1), (.s (.func (.func 11) #[] #[]))] ((tb b25), [.dead, .dead, .dead])) ∧
                     (R = ((tb b25), [.dead, .dead])))
                    (R = ((tb false), [.dead, .dead])))))
                 (cond (Nat.beq b.t 43)
                  (∃ w34 : W_expr_Bin, (b.x = w34.t) ∧
                   (∃ n28 : Int, (Rn 148 [w34.t] ((i64 n28), [.dead])) ∧
                    (cond (decide ((n24 : Int) = n28))
                     (∃ b24 : Bool, (Rn 24 [(.sl 1 l), (.sl 1 l1), (.s (.func (.func 11) #[] #[]))] ((tb b24), [.dead, .dead, .dead])) ∧
                      (R = ((tb b24), [.dead, .dead])))
                     (R = ((tb false), [.dead, .dead])))))
                  (cond (Nat.beq b.t 49)
                   (∃ w33 : W_expr_Ref, (b.x = w33.t) ∧
                    (∃ n27 : Int, (Rn 149 [w33.t] ((i64 n27), [.dead])) ∧
                     (cond (decide ((n24 : Int) = n27))
                      (∃ b23 : Bool, (Rn 24 [(.sl 1 l), (.sl 1 l1), (.s (.func (.func 11) #[] #[]))] ((tb b23), [.dead, .dead, .dead])) ∧
                       (R = ((tb b23), [.dead, .dead])))
                      (R = ((tb false), [.dead, .dead])))))
                   (cond (Nat.beq b.t 51)
                    (∃ w32 : W_expr_Not, (b.x = w32.t) ∧
                     (∃ n26 : Int, (Rn 150 [w32.t] ((i64 n26), [.dead])) ∧
                      (cond (decide ((n24 : Int) = n26))
                       (∃ b22 : Bool, (Rn 24 [(.sl 1 l), (.sl 1 l1), (.s (.func (.func 11) #[] #[]))] ((tb b22), [.dead, .dead, .dead])) ∧
                        (R = ((tb b22), [.dead, .dead])))
                       (R = ((tb false), [.dead, .dead])))))
                    (cond (Nat.beq b.t 52)
                     (∃ w31 : W_expr_Neg, (b.x = w31.t) ∧
                      (∃ n25 : Int, (Rn 151 [w31.t] ((i64 n25), [.dead])) ∧
                       (cond (decide ((n24 : Int) = n25))
                        (∃ b21 : Bool, (Rn 24 [(.sl 1 l), (.sl 1 l1), (.s (.func (.func 11) #[] #[]))] ((tb b21), [.dead, .dead, .dead])) ∧
                         (R = ((tb b21), [.dead, .dead])))
                        (R = ((tb false), [.dead, .dead])))))
                     (False))))))))
              (cond (Nat.beq e.t 43)
               (∃ w24 : W_expr_Bin, (e.x = w24.t) ∧
                (∃ n18 : Int, (Rn 148 [w24.t] ((i64 n18), [.dead])) ∧
                 (cond (Nat.beq b.t 41)
                  (∃ w29 : W_expr_Lit, (b.x = w29.t) ∧
                   (∃ n23 : Int, (Rn 147 [w29.t] ((i64 n23), [.dead])) ∧
                    (cond (decide ((n18 : Int) = n23))
                     (∃ b20 : Bool, (Rn 24 [(.sl 1 l), (.sl 1 l1), (.s (.func (.func 11) #[] #[]))] ((tb b20), [.dead, .dead, .dead])) ∧
                      (R = ((tb b20), [.dead, .dead])))
                     (R = ((tb false), [.dead, .dead])))))
                  (cond (Nat.beq b.t 43)
                   (∃ w28 : W_expr_Bin, (b.x = w28.t) ∧
                    (∃ n22 : Int, (Rn 148 [w28.t] ((i64 n22), [.dead])) ∧
                     (cond (decide ((n18 : Int) = n22))
                      (∃ b19 : Bool, (Rn 24 [(.sl 1 l), (.sl 1 l1), (.s (.func (.func 11) #[] #[]))] ((tb b19), [.dead, .dead, .dead])) ∧
                       (R = ((tb b19), [.dead, .dead])))
                      (R = ((tb false), [.dead, .dead])))))
                   (cond (Nat.beq b.t 49)
                    (∃ w27 : W_expr_Ref, (b.x = w27.t) ∧
                     (∃ n21 : Int, (Rn 149 [w27.t] ((i64 n21), [.dead])) ∧
                      (cond (decide ((n18 : Int) = n21))
                       (∃ b18 : Bool, (Rn 24 [(.sl 1 l), (.sl 1 l1), (.s (.func (.func 11) #[] #[]))] ((tb b18), [.dead, .dead, .dead])) ∧
                        (R = ((tb b18), [.dead, .dead])))
                       (R = ((tb false), [.dead, .dead])))))
                    (cond (Nat.beq b.t 51)
                     (∃ w26 : W_expr_Not, (b.x = w26.t) ∧
                      (∃ n20 : Int, (Rn 150 [w26.t] ((i64 n20), [.dead])) ∧
                       (cond (decide ((n18 : Int) = n20))
                        (∃ b17 : Bool, (Rn 24 [(.sl 1 l), (.sl 1 l1), (.s (.func (.func 11) #[] #[]))] ((tb b17), [.dead, .dead, .dead])) ∧
                         (R = ((tb b17), [.dead, .dead])))
                        (R = ((tb false), [.dead, .dead])))))
                     (cond (Nat.beq b.t 52)
                      (∃ w25 : W_expr_Neg, (b.x = w25.t) ∧
                       (∃ n19 : Int, (Rn 151 [w25.t] ((i64 n19), [.dead])) ∧
                        (cond (decide ((n18 : Int) = n19))
                         (∃ b16 : Bool, (Rn 24 [(.sl 1 l), (.sl 1 l1), (.s (.func (.func 11) #[] #[]))] ((tb b16), [.dead, .dead, .dead])) ∧
                          (R = ((tb b16), [.dead, .dead])))
                         (R = ((tb false), [.dead, .dead])))))
                      (False))))))))
               (cond (Nat.beq e.t 49)
                (∃ w18 : W_expr_Ref, (e.x = w18.t) ∧
                 (∃ n12 : Int, (Rn 149 [w18.t] ((i64 n12), [.dead])) ∧
                  (cond (Nat.beq b.t 41)
                   (∃ w23 : W_expr_Lit, (b.x = w23.t) ∧
                    (∃ n17 : Int, (Rn 147 [w23.t] ((i64 n17), [.dead])) ∧
                     (cond (decide ((n12 : Int) = n17))
                      (∃ b15 : Bool, (Rn 24 [(.sl 1 l), (.sl 1 l1), (.s (.func (.func 11) #[] #[]))] ((tb b15), [.dead, .dead, .dead])) ∧
                       (R = ((tb b15), [.dead, .dead])))
                      (R = ((tb false), [.dead, .dead])))))
                   (cond (Nat.beq b.t 43)
                    (∃ w22 : W_expr_Bin, (b.x = w22.t) ∧
                     (∃ n16 : Int, (Rn 148 [w22.t] ((i64 n16), [.dead])) ∧
                      (cond (decide ((n12 : Int) = n16))
                       (∃ b14 : Bool, (Rn 24 [(.sl 1 l), (.sl 1 l1), (.s (.func (.func 11) #[] #[]))] ((tb b14), [.dead, .dead, .dead])) ∧
                        (R = ((tb b14), [.dead, .dead])))
                       (R = ((tb false), [.dead, .dead])))))
                    (cond (Nat.beq b.t 49)
                     (∃ w21 : W_expr_Ref, (b.x = w21.t) ∧
                      (∃ n15 : Int, (Rn 149 [w21.t] ((i64 n15), [.dead])) ∧
                       (cond (decide ((n12 : Int) = n15))
                        (∃ b13 : Bool, (Rn 24 [(.sl 1 l), (.sl 1 l1), (.s (.func (.func 11) #[] #[]))] ((tb b13), [.dead, .dead, .dead])) ∧
                         (R = ((tb b13), [.dead, .dead])))
                        (R = ((tb false), [.dead, .dead])))))
                     (cond (Nat.beq b.t 51)
                      (∃ w20 : W_expr_Not, (b.x = w20.t) ∧
                       (∃ n14 : Int, (Rn 150 [w20.t] ((i64 n14), [.dead])) ∧
                        (cond (decide ((n12 : Int) = n14))
                         (∃ b12 : Bool, (Rn 24 [(.sl 1 l), (.sl 1 l1), (.s (.func (.func 11) #[] #[]))] ((tb b12), [.dead, .dead, .dead])) ∧
                          (R = ((tb b12), [.dead, .dead])))
                         (R = ((tb false), [.dead, .dead])))))
                      (cond (Nat.beq b.t 52)
                       (∃ w19 : W_expr_Neg, (b.x = w19.t) ∧
                        (∃ n13 : Int, (Rn 151 [w19.t] ((i64 n13), [.dead])) ∧
                         (cond (decide ((n12 : Int) = n13))
                          (∃ b11 : Bool, (Rn 24 [(.sl 1 l), (.sl 1 l1), (.s (.func (.func 11) #[] #[]))] ((tb b11), [.dead, .dead, .dead])) ∧
                           (R = ((tb b11), [.dead, .dead])))
                          (R = ((tb false), [.dead, .dead])))))
                       (False))))))))
                (cond (Nat.beq e.t 51)
                 (∃ w12 : W_expr_Not, (e.x = w12.t) ∧
                  (∃ n6 : Int, (Rn 150 [w12.t] ((i64 n6), [.dead])) ∧
                   (cond (Nat.beq b.t 41)
                    (∃ w17 : W_expr_Lit, (b.x = w17.t) ∧
                     (∃ n11 : Int, (Rn 147 [w17.t] ((i64 n11), [.dead])) ∧
                      (cond (decide ((n6 : Int) = n11))
                       (∃ b10 : Bool, (Rn 24 [(.sl 1 l), (.sl 1 l1), (.s (.func (.func 11) #[] #[]))] ((tb b10), [.dead, .dead, .dead])) ∧
                        (R = ((tb b10), [.dead, .dead])))
                       (R = ((tb false), [.dead, .dead])))))
                    (cond (Nat.beq b.t 43)
                     (∃ w16 : W_expr_Bin, (b.x = w16.t) ∧
                      (∃ n10 : Int, (Rn 148 [w16.t] ((i64 n10), [.dead])) ∧
                       (cond (decide ((n6 : Int) = n10))
                        (∃ b9 : Bool, (Rn 24 [(.sl 1 l), (.sl 1 l1), (.s (.func (.func 11) #[] #[]))] ((tb b9), [.dead, .dead, .dead])) ∧
                         (R = ((tb b9), [.dead, .dead])))
                        (R = ((tb false), [.dead, .dead])))))
                     (cond (Nat.beq b.t 49)
                      (∃ w15 : W_expr_Ref, (b.x = w15.t) ∧
                       (∃ n9 : Int, (Rn 149 [w15.t] ((i64 n9), [.dead])) ∧
                        (cond (decide ((n6 : Int) = n9))
                         (∃ b8 : Bool, (Rn 24 [(.sl 1 l), (.sl 1 l1), (.s (.func (.func 11) #[] #[]))] ((tb b8), [.dead, .dead, .dead])) ∧
                          (R = ((tb b8), [.dead, .dead])))
                         (R = ((tb false), [.dead, .dead])))))
                      (cond (Nat.beq b.t 51)
                       (∃ w14 : W_expr_Not, (b.x = w14.t) ∧
                        (∃ n8 : Int, (Rn 150 [w14.t] ((i64 n8), [.dead])) ∧
                         (cond (decide ((n6 : Int) = n8))
                          (∃ b7 : Bool, (Rn 24 [(.sl 1 l), (.sl 1 l1), (.s (.func (.func 11) #[] #[]))] ((tb b7), [.dead, .dead, .dead])) ∧
                           (R = ((tb b7), [.dead, .dead])))
                          (R = ((tb false), [.dead, .dead])))))
                       (cond (Nat.beq b.t 52)
                        (∃ w13 : W_expr_Neg, (b.x = w13.t) ∧
                         (∃ n7 : Int, (Rn 151 [w13.t] ((i64 n7), [.dead])) ∧
                          (cond (decide ((n6 : Int) = n7))
                           (∃ b6 : Bool, (Rn 24 [(.sl 1 l), (.sl 1 l1), (.s (.func (.func 11) #[] #[]))] ((tb b6), [.dead, .dead, .dead])) ∧
                            (R = ((tb b6), [.dead, .dead])))
                           (R = ((tb false), [.dead, .dead])))))
                        (False))))))))
                 (cond (Nat.beq e.t 52)
                  (∃ w6 : W_expr_Neg, (e.x = w6.t) ∧
                   (∃ n : Int, (Rn 151 [w6.t] ((i64 n), [.dead])) ∧
                    (cond (Nat.beq b.t 41)
                     (∃ w11 : W_expr_Lit, (b.x = w11.t) ∧
                      (∃ n5 : Int, (Rn 147 [w11.t] ((i64 n5), [.dead])) ∧
                       (cond (decide ((n : Int) = n5))
                        (∃ b5 : Bool, (Rn 24 [(.sl 1 l), (.sl 1 l1), (.s (.func (.func 11) #[] #[]))] ((tb b5), [.dead, .dead, .dead])) ∧
                         (R = ((tb b5), [.dead, .dead])))
                        (R = ((tb false), [.dead, .dead])))))
                     (cond (Nat.beq b.t 43)
                      (∃ w10 : W_expr_Bin, (b.x = w10.t) ∧
                       (∃ n4 : Int, (Rn 148 [w10.t] ((i64 n4), [.dead])) ∧
                        (cond (decide ((n : Int) = n4))
                         (∃ b4 : Bool, (Rn 24 [(.sl 1 l), (.sl 1 l1), (.s (.func (.func 11) #[] #[]))] ((tb b4), [.dead, .dead, .dead])) ∧
                          (R = ((tb b4), [.dead, .dead])))
                         (R = ((tb false), [.dead, .dead])))))
                      (cond (Nat.beq b.t 49)
                       (∃ w9 : W_expr_Ref, (b.x = w9.t) ∧
                        (∃ n3 : Int, (Rn 149 [w9.t] ((i64 n3), [.dead])) ∧
                         (cond (decide ((n : Int) = n3))
                          (∃ b3 : Bool, (Rn 24 [(.sl 1 l), (.sl 1 l1), (.s (.func (.func 11) #[] #[]))] ((tb b3), [.dead, .dead, .dead])) ∧
                           (R = ((tb b3), [.dead, .dead])))
                          (R = ((tb false), [.dead, .dead])))))
                       (cond (Nat.beq b.t 51)
                        (∃ w8 : W_expr_Not, (b.x = w8.t) ∧
                         (∃ n2 : Int, (Rn 150 [w8.t] ((i64 n2), [.dead])) ∧
                          (cond (decide ((n : Int) = n2))
                           (∃ b2 : Bool, (Rn 24 [(.sl 1 l), (.sl 1 l1), (.s (.func (.func 11) #[] #[]))] ((tb b2), [.dead, .dead, .dead])) ∧
                            (R = ((tb b2), [.dead, .dead])))
                           (R = ((tb false), [.dead, .dead])))))
                        (cond (Nat.beq b.t 52)
                         (∃ w7 : W_expr_Neg, (b.x = w7.t) ∧
                          (∃ n1 : Int, (Rn 151 [w7.t] ((i64 n1), [.dead])) ∧
                           (cond (decide ((n : Int) = n1))
                            (∃ b1 : Bool, (Rn 24 [(.sl 1 l), (.sl 1 l1), (.s (.func (.func 11) #[] #[]))] ((tb b1), [.dead, .dead, .dead])) ∧
                             (R = ((tb b1), [.dead, .dead])))
                            (R = ((tb false), [.dead, .dead])))))
                         (False))))))))
                  (False))))))
             (R = ((tb false), [.dead, .dead])))))
          (R = ((tb false), [.dead, .dead]))))
        (cond (decide ((0 : Int) < (((List.length l) : Nat) : Int)))
         (cond (Nat.beq e.t 41)
          (∃ w60 : W_expr_Lit, (e.x = w60.t) ∧
           (∃ n54 : Int, (Rn 147 [w60.t] ((i64 n54), [.dead])) ∧
            (cond (Nat.beq b.t 41)
             (∃ w65 : W_expr_Lit, (b.x = w65.t) ∧
              (∃ n59 : Int, (Rn 147 [w65.t] ((i64 n59), [.dead])) ∧
               (cond (decide ((n54 : Int) = n59))
                (∃ b50 : Bool, (Rn 24 [(.sl 1 l), (.sl 1 l1), (.s (.func (.func 11) #[] #[]))] ((tb b50), [.dead, .dead, .dead])) ∧
                 (R = ((tb b50), [.dead, .dead])))
                (R = ((tb false), [.dead, .dead])))))
             (cond (Nat.beq b.t 43)
              (∃ w64 : W_expr_Bin, (b.x = w64.t) ∧
               (∃ n58 : Int, (Rn 148 [w64.t] ((i64 n58), [.dead])) ∧
                (cond (decide ((n54 : Int) = n58))
                 (∃ b49 : Bool, (Rn 24 [(.sl 1 l), (.sl 1 l1), (.s (.func (.func 11) #[] #[]))] ((tb b49), [.dead, .dead, .dead])) ∧
                  (R = ((tb b49), [.dead, .dead])))
                 (R = ((tb false), [.dead, .dead])))))
              (cond (Nat.beq b.t 49)
               (∃ w63 : W_expr_Ref, (b.x = w63.t) ∧
                (∃ n57 : Int, (Rn 149 [w63.t] ((i64 n57), [.dead])) ∧
                 (cond (decide ((n54 : Int) = n57))
                  (∃ b48 : Bool, (Rn 24 [(.sl 1 l), (.sl 1 l1), (.s (.func (.func 11) #[] #[]))] ((tb b48), [.dead, .dead, .dead])) ∧
                   (R = ((tb b48), [.dead, .dead])))
                  (R = ((tb false), [.dead, .dead])))))
               (cond (Nat.beq b.t 51)
                (∃ w62 : W_expr_Not, (b.x = w62.t) ∧
                 (∃ n56 : Int, (Rn 150 [w62.t] ((i64 n56), [.dead])) ∧
                  (cond (decide ((n54 : Int) = n56))
                   (∃ b47 : Bool, (Rn 24 [(.sl 1 l), (.sl 1 l1), (.s (.func (.func 11) #[] #[]))] ((tb b47), [.dead, .dead, .dead])) ∧
                    (R = ((tb b47), [.dead, .dead])))
                   (R = ((tb false), [.dead, .dead])))))
                (cond (Nat.beq b.t 52)
                 (∃ w61 : W_expr_Neg, (b.x = w61.t) ∧
                  (∃ n55 : Int, (Rn 151 [w61.t] ((i64 n55), [.dead])) ∧
                   (cond (decide ((n54 : Int) = n55))
                    (∃ b46 : Bool, (Rn 24 [(.sl 1 l), (.sl 1 l1), (.s (.func (.func 11) #[] #[]))] ((tb b46), [.dead, .dead, .dead])) ∧
                     (R = ((tb b46), [.dead, .dead])))
                    (R = ((tb false), [.dead, .dead])))))
                 (False))))))))
          (cond (Nat.beq e.t 43)
           (∃ w54 : W_expr_Bin, (e.x = w54.t) ∧
            (∃ n48 : Int, (Rn 148 [w54.t] ((i64 n48), [.dead])) ∧
             (cond (Nat.beq b.t 41)
              (∃ w59 : W_expr_Lit, (b.x = w59.t) ∧
               (∃ n53 : Int, (Rn 147 [w59.t] ((i64 n53), [.dead])) ∧
                (cond (decide ((n48 : Int) = n53))
                 (∃ b45 : Bool, (Rn 24 [(.sl 1 l), (.sl 1 l1), (.s (.func (.func 11) #[] #[]))] ((tb b45), [.dead, .dead, .dead])) ∧
                  (R = ((tb b45), [.dead, .dead])))
                 (R = ((tb false), [.dead, .dead])))))
              (cond (Nat.beq b.t 43)
               (∃ w58 : W_expr_Bin, (b.x = w58.t) ∧
                (∃ n52 : Int, (Rn 148 [w58.t] ((i64 n52), [.dead])) ∧
                 (cond (decide ((n48 : Int) = n52))
                  (∃ b44 : Bool, (Rn 24 [(.sl 1 l), (.sl 1 l1), (.s (.func (.func 11) #[] #[]))] ((tb b44), [.dead, .dead, .dead])) ∧
                   (R = ((tb b44), [.dead, .dead])))
                  (R = ((tb false), [.dead, .dead])))))
               (cond (Nat.beq b.t 49)
                (∃ w57 : W_expr_Ref, (b.x = w57.t) ∧
                 (∃ n51 : Int, (Rn 149 [w57.t] ((i64 n51), [.dead])) ∧
                  (cond (decide ((n48 : Int) = n51))
                   (∃ b43 : Bool, (Rn 24 [(.sl 1 l), (.sl 1 l1), (.s (.func (.func 11) #[] #[]))] ((tb b43), [.dead, .dead, .dead])) ∧
                    (R = ((tb b43), [.dead, .dead])))
                   (R = ((tb false), [.dead, .dead])))))
                (cond (Nat.beq b.t 51)
                 (∃ w56 : W_expr_Not, (b.x = w56.t) ∧
                  (∃ n50 : Int, (Rn 150 [w56.t] ((i64 n50), [.dead])) ∧
                   (cond (decide ((n48 : Int) = n50))
                    (∃ b42 : Bool, (Rn 24 [(.sl 1 l), (.sl 1 l1), (.s (.func (.func 11) #[] #[]))] ((tb b42), [.dead, .dead, .dead])) ∧
                     (R = ((tb b42), [.dead, .dead])))
                    (R = ((tb false), [.dead, .dead])))))
                 (cond (Nat.beq b.t 52)
                  (∃ w55 : W_expr_Neg, (b.x = w55.t) ∧
                   (∃ n49 : Int, (Rn 151 [w55.t] ((i64 n49), [.dead])) ∧
                    (cond (decide ((n48 : Int) = n49))
                     (∃ b41 : Bool, (Rn 24 [(.sl 1 l), (.sl 1 l1), (.s (.func (.func 11) #[] #[]))] ((tb b41), [.dead, .dead, .dead])) ∧
                      (R = ((tb b41), [.dead, .dead])))
                     (R = ((tb false), [.dead, .dead])))))
                  (False))))))))
           (cond (Nat.beq e.t 49)
            (∃ w48 : W_expr_Ref, (e.x = w48.t) ∧
             (∃ n42 : Int, (Rn 149 [w48.t] ((i64 n42), [.dead])) ∧
              (cond (Nat.beq b.t 41)
               (∃ w53 : W_expr_Lit, (b.x = w53.t) ∧
                (∃ n47 : Int, (Rn 147 [w53.t] ((i64 n47), [.dead])) ∧
                 (cond (decide ((n42 : Int) = n47))
                  (∃ b40 : Bool, (Rn 24 [(.sl 1 l), (.sl 1 l1), (.s (.func (.func 11) #[] #[]))] ((tb b40), [.dead, .dead, .dead])) ∧
                   (R = ((tb b40), [.dead, .dead])))
                  (R = ((tb false), [.dead, .dead])))))
               (cond (Nat.beq b.t 43)
                (∃ w52 : W_expr_Bin, (b.x = w52.t) ∧
                 (∃ n46 : Int, (Rn 148 [w52.t] ((i64 n46), [.dead])) ∧
                  (cond (decide ((n42 : Int) = n46))
                   (∃ b39 : Bool, (Rn 24 [(.sl 1 l), (.sl 1 l1), (.s (.func (.func 11) #[] #[]))] ((tb b39), [.dead, .dead, .dead])) ∧
                    (R = ((tb b39), [.dead, .dead])))
                   (R = ((tb false), [.dead, .dead])))))
                (cond (Nat.beq b.t 49)
                 (∃ w51 : W_expr_Ref, (b.x = w51.t) ∧
                  (∃ n45 : Int, (Rn 149 [w51.t] ((i64 n45), [.dead])) ∧
                   (cond (decide ((n42 : Int) = n45))
                    (∃ b38 : Bool, (Rn 24 [(.sl 1 l), (.sl 1 l1), (.s (.func (.func 11) #[] #[]))] ((tb b38), [.dead, .dead, .dead])) ∧
                     (R = ((tb b38), [.dead, .dead])))
                    (R = ((tb false), [.dead, .dead])))))
                 (cond (Nat.beq b.t 51)
                  (∃ w50 : W_expr_Not, (b.x = w50.t) ∧
                   (∃ n44 : Int, (Rn 150 [w50.t] ((i64 n44), [.dead])) ∧
                    (cond (decide ((n42 : Int) = n44))
                     (∃ b37 : Bool, (Rn 24 [(.sl 1 l), (.sl 1 l1), (.s (.func (.func 11) #[] #[]))] ((tb b37), [.dead, .dead, .dead])) ∧
                      (R = ((tb b37), [.dead, .dead])))
                     (R = ((tb false), [.dead, .dead])))))
                  (cond (Nat.beq b.t 52)
                   (∃ w49 : W_expr_Neg, (b.x = w49.t) ∧
                    (∃ n43 : Int, (Rn 151 [w49.t] ((i64 n43), [.dead])) ∧
                     (cond (decide ((n42 : Int) = n43))
                      (∃ b36 : Bool, (Rn 24 [(.sl 1 l), (.sl 1 l1), (.s (.func (.func 11) #[] #[]))] ((tb b36), [.dead, .dead, .dead])) ∧
                       (R = ((tb b36), [.dead, .dead])))
                      (R = ((tb false), [.dead, .dead])))))
                   (False))))))))
            (cond (Nat.beq e.t 51)
             (∃ w42 : W_expr_Not, (e.x = w42.t) ∧
              (∃ n36 : Int, (Rn 150 [w42.t] ((i64 n36), [.dead])) ∧
               (cond (Nat.beq b.t 41)
                (∃ w47 : W_expr_Lit, (b.x = w47.t) ∧
                 (∃ n41 : Int, (Rn 147 [w47.t] ((i64 n41), [.dead])) ∧
                  (cond (decide ((n36 : Int) = n41))
                   (∃ b35 : Bool, (Rn 24 [(.sl 1 l), (.sl 1 l1), (.s (.func (.func 11) #[] #[]))] ((tb b35), [.dead, .dead, .dead])) ∧
                    (R = ((tb b35), [.dead, .dead])))
                   (R = ((tb false), [.dead, .dead])))))
                (cond (Nat.beq b.t 43)
                 (∃ w46 : W_expr_Bin, (b.x = w46.t) ∧
                  (∃ n40 : Int, (Rn 148 [w46.t] ((i64 n40), [.dead])) ∧
                   (cond (decide ((n36 : Int) = n40))
                    (∃ b34 : Bool, (Rn 24 [(.sl 1 l), (.sl 1 l1), (.s (.func (.func 11) #[] #[]))] ((tb b34), [.dead, .dead, .dead])) ∧
                     (R = ((tb b34), [.dead, .dead])))
                    (R = ((tb false), [.dead, .dead])))))
                 (cond (Nat.beq b.t 49)
                  (∃ w45 : W_expr_Ref, (b.x = w45.t) ∧
                   (∃ n39 : Int, (Rn 149 [w45.t] ((i64 n39), [.dead])) ∧
                    (cond (decide ((n36 : Int) = n39))
                     (∃ b33 : Bool, (Rn 24 [(.sl 1 l), (.sl 1 l1), (.s (.func (.func 11) #[] #[]))] ((tb b33), [.dead, .dead, .dead])) ∧
                      (R = ((tb b33), [.dead, .dead])))
                     (R = ((tb false), [.dead, .dead])))))
                  (cond (Nat.beq b.t 51)
                   (∃ w44 : W_expr_Not, (b.x = w44.t) ∧
                    (∃ n38 : Int, (Rn 150 [w44.t] ((i64 n38), [.dead])) ∧
                     (cond (decide ((n36 : Int) = n38))
                      (∃ b32 : Bool, (Rn 24 [(.sl 1 l), (.sl 1 l1), (.s (.func (.func 11) #[] #[]))] ((tb b32), [.dead, .dead, .dead])) ∧
                       (R = ((tb b32), [.dead, .dead])))
                      (R = ((tb false), [.dead, .dead])))))
                   (cond (Nat.beq b.t 52)
                    (∃ w43 : W_expr_Neg, (b.x = w43.t) ∧
                     (∃ n37 : Int, (Rn 151 [w43.t] ((i64 n37), [.dead])) ∧
                      (cond (decide ((n36 : Int) = n37))
                       (∃ b31 : Bool, (Rn 24 [(.sl 1 l), (.sl 1 l1), (.s (.func (.func 11) #[] #[]))] ((tb b31), [.dead, .dead, .dead])) ∧
                        (R = ((tb b31), [.dead, .dead])))
                       (R = ((tb false), [.dead, .dead])))))
                    (False))))))))
             (cond (Nat.beq e.t 52)
              (∃ w36 : W_expr_Neg, (e.x = w36.t) ∧
               (∃ n30 : Int, (Rn 151 [w36.t] ((i64 n30), [.dead])) ∧
                (cond (Nat.beq b.t 41)
                 (∃ w41 : W_expr_Lit, (b.x = w41.t) ∧
                  (∃ n35 : Int, (Rn 147 [w41.t] ((i64 n35), [.dead])) ∧
                   (cond (decide ((n30 : Int) = n35))
                    (∃ b30 : Bool, (Rn 24 [(.sl 1 l), (.sl 1 l1), (.s (.func (.func 11) #[] #[]))] ((tb b30), [.dead, .dead, .dead])) ∧
                     (R = ((tb b30), [.dead, .dead])))
                    (R = ((tb false), [.dead, .dead])))))
                 (cond (Nat.beq b.t 43)
                  (∃ w40 : W_expr_Bin, (b.x = w40.t) ∧
                   (∃ n34 : Int, (Rn 148 [w40.t] ((i64 n34), [.dead])) ∧
                    (cond (decide ((n30 : Int) = n34))
                     (∃ b29 : Bool, (Rn 24 [(.sl 1 l), (.sl 1 l1), (.s (.func (.func 11) #[] #[]))] ((tb b29), [.dead, .dead, .dead])) ∧
                      (R = ((tb b29), [.dead, .dead])))
                     (R = ((tb false), [.dead, .dead])))))
                  (cond (Nat.beq b.t 49)
                   (∃ w39 : W_expr_Ref, (b.x = w39.t) ∧
                    (∃ n33 : Int, (Rn 149 [w39.t] ((i64 n33), [.dead])) ∧
                     (cond (decide ((n30 : Int) = n33))
                      (∃ b28 : Bool, (Rn 24 [(.sl 1 l), (.sl 1 l1), (.s (.func (.func 11) #[] #[]))] ((tb b28), [.dead, .dead, .dead])) ∧
                       (R = ((tb b28), [.dead, .dead])))
                      (R = ((tb false), [.dead, .dead])))))
                   (cond (Nat.beq b.t 51)
                    (∃ w38 : W_expr_Not, (b.x = w38.t) ∧
                     (∃ n32 : Int, (Rn 150 [w38.t] ((i64 n32), [.dead])) ∧
                      (cond (decide ((n30 : Int) = n32))
                       (∃ b27 : Bool, (Rn 24 [(.sl 1 l), (.sl 1 l1), (.s (.func (.func 11) #[] #[]))] ((tb b27), [.dead, .dead, .dead])) ∧
                        (R = ((tb b27), [.dead, .dead])))
                       (R = ((tb false), [.dead, .dead])))))
                    (cond (Nat.beq b.t 52)
                     (∃ w37 : W_expr_Neg, (b.x = w37.t) ∧
                      (∃ n31 : Int, (Rn 151 [w37.t] ((i64 n31), [.dead])) ∧
                       (cond (decide ((n30 : Int) = n31))
                        (∃ b26 : Bool, (Rn 24 [(.sl 1 l), (.sl 1 l1), (.s (.func (.func 11) #[] #[]))] ((tb b26), [.dead, .dead, .dead])) ∧
                         (R = ((tb b26), [.dead, .dead])))
                        (R = ((tb false), [.dead, .dead])))))
                     (False))))))))
              (False))))))
         (R = ((tb false), [.dead, .dead])))))))))) : Rn 11 [e.v, b.v] R := by
  refine fn_rule (ann := A11) (mv := MV) (fz := true) mixed Tryz.func11 (c := B11) (by kernel_rfl) (by decide) ?_
  all_goals revert h
  all_goals refine via ?_
  all_goals kernel_rfl
/- tumbrel/tumbrellaw05.few -/
noncomputable def A12 : Ann := mkAnn [] [] [] []
noncomputable abbrev B12 : Code := Tryz.f12.body.getD .skip
set_option maxRecDepth 100000 in
theorem f12 (s : ByteArray) (R : T × List T) (h : R = ((tb (decide (((((ByteArray.size s) : Nat) : Int) : Int) ≤ 12000))), [.dead])) : Rn 12 [(st s)] R := by
  refine fn_rule (ann := A12) (mv := MV) (fz := true) mixed Tryz.func12 (c := B12) (by kernel_rfl) (by decide) ?_
  all_goals revert h
  all_goals refine via ?_
  all_goals kernel_rfl
/- tumbrel/tumbrelref04.Clean -/
noncomputable def A14 : Ann := mkAnn [(296232, (fun a => [.ex (W_tumbrelref04_Node) fun w => .done (w.t, [.dead])]))] [(296104, [.ex W_tumbrelref04_Node fun w => .done w.t])] [] [(500, [1, 2, 3, 31, 32])]
noncomputable abbrev B14 : Code := Tryz.f14.body.getD .skip
def L14_0 (n : Int) (n1 : Int) (w : W_tumbrelref04_Node) (n2 : Int) (n3 : Int) (s : ByteArray) (n4 : Int) (n5 : Int) (s1 : ByteArray) (l : List T) (R : T × List T) : Prop := CutL Tryz.prog Tryz.f14 B14 true [1, 1, 1, 1, 0, 1, 0, 0] (mkSt 55 [(1, (.ptr (1000000002, 0) 0)), (2, (.ptr (1000000003, 0) 0)), (3, (.ptr (1000000004, 0) 0)), (31, (i64 n)), (32, (i64 n1))] (([((1000000002, 0), .box 24 [(i64 w.fKind), (i64 w.fN), (st w.fS), (.sl 4 w.fParts)]), ((1000000003, 0), .box 24 [(i64 n2), (i64 n3), (st s), nilS]), ((1000000004, 0), .box 24 [(i64 n4), (i64 n5), (st s1), (mnT (1000000516, 0) l)])] ++ mnH (1000000516, 0) 24 4 l))) [.dead] R
set_option maxRecDepth 100000 in
theorem l14_0 (n : Int) (n1 : Int) (w : W_tumbrelref04_Node) (n2 : Int) (n3 : Int) (s : ByteArray) (n4 : Int) (n5 : Int) (s1 : ByteArray) (l : List T) (R : T × List T) (h : cond (decide ((n1 : Int) < n))
  (cond (decide ((n1 : Int) < (((List.length w.fParts) : Nat) : Int)))
   (∃ w1 : W_tumbrelref04_Node, ((0 : Int) ≤ n1 ∧ w.fParts[(Int.toNat n1)]? = some w1.t) ∧
    (∃ w2 : W_tumbrelref04_Node, (Rn 14 [w1.t] (w2.t, [.dead])) ∧
     (chk (Nat.ble (((List.length l) + 1) * 56) 140737488355328)
      (L14_0 n (IntKind.wrap .i64 (n1 + 1)) w n2 n3 s n4 n5 s1 (l ++ [w2.t]) R))))
   (chk (Nat.ble (((List.length l) + 1) * 56) 140737488355328)
    (L14_0 n (IntKind.wrap .i64 (n1 + 1)) w n2 n3 s n4 n5 s1 (l ++ [(.agg [(i64 0), (i64 0), (st (bs [])), (.sl 4 [])])]) R)))
  (R = ((.agg [(i64 n4), (i64 n5), (st s1), (.sl 4 l)]), [.dead]))) : L14_0 n n1 w n2 n3 s n4 n5 s1 l R := by
  unfold L14_0
  refine cutL_rule (ann := A14) (mv := MV) mixed (by kernel_rfl) ?_
  all_goals rcases l with _ | ⟨_, _⟩
  all_goals revert h
  all_goals refine via ?_
  all_goals kernel_rfl
set_option maxRecDepth 100000 in
theorem f14 (w : W_tumbrelref04_Node) (R : T × List T) (h : cond (decide ((w.fKind : Int) = 1))
  (R = ((.agg [(i64 1), (i64 w.fN), (st (bs [])), (.sl 4 [])]), [.dead]))
  (cond (decide ((w.fKind : Int) = 2))
   (R = ((.agg [(i64 2), (i64 0), (st w.fS), (.sl 4 [])]), [.dead]))
   (cond (decide ((w.fKind : Int) = 3))
    (L14_0 1 0 w 0 0 (bs []) w.fKind 0 (bs []) ([] : List T) R)
    (cond (decide ((w.fKind : Int) = 4))
     (L14_0 1 0 w 0 0 (bs []) w.fKind 0 (bs []) ([] : List T) R)
     (cond (decide ((w.fKind : Int) = 5))
      (L14_0 2 0 w 0 0 (bs []) 5 0 w.fS ([] : List T) R)
      (L14_0 0 0 w 0 0 (bs []) 0 0 (bs []) ([] : List T) R)))))) : Rn 14 [w.t] R := by
  refine fn_rule (ann := A14) (mv := MV) (fz := true) mixed Tryz.func14 (c := B14) (by kernel_rfl) (by decide) ?_
  all_goals revert h
  all_goals refine via ?_
  all_goals kernel_rfl
/- tumbrel/tumbrelref04.Print -/
noncomputable def A13 : Ann := mkAnn [(17448, (fun a => [.ex (Bool) fun b => .done ((tb b), [.dead])])), (50216, (fun a => [.ex (ByteArray) fun s => .done ((st s), [.dead])]))] [] [] []
noncomputable abbrev B13 : Code := Tryz.f13.body.getD .skip
set_option maxRecDepth 100000 in
theorem f13 (w : W_tumbrelref04_Node) (R : T × List T) (h : ∃ b : Bool, (Rn 25 [w.t] ((tb b), [.dead])) ∧
  (cond (!b)
   (R = ((.tup [(st (bs [])), (i64 1)]), [.dead]))
   (∃ s : ByteArray, (Rn 26 [w.t] ((st s), [.dead])) ∧
    (R = ((.tup [(st s), (i64 0)]), [.dead]))))) : Rn 13 [w.t] R := by
  refine fn_rule (ann := A13) (mv := MV) (fz := true) mixed Tryz.func13 (c := B13) (by kernel_rfl) (by decide) ?_
  all_goals revert h
  all_goals refine via ?_
  all_goals kernel_rfl
/- tumbrel/guard.Reserved -/
noncomputable def A15 : Ann := mkAnn [(17512, (fun a => [.ex (Bool) fun b => .done ((tb b), [.dead, .dead])]))] [] [] []
noncomputable abbrev B15 : Code := Tryz.f15.body.getD .skip
set_option maxRecDepth 100000 in
theorem f15 (s : ByteArray) (R : T × List T) (h : ∃ b : Bool, (Rn 27 [(.sl 1 [(st (bs [99, 104, 97, 114, 116])), (st (bs [118, 97, 114])), (st (bs [115, 116, 97, 116, 101])), (st (bs [97, 108, 108])), (st (bs [101, 110, 100])), (st (bs [100, 111])), (st (bs [117, 110, 100, 111])), (st (bs [97, 116])), (st (bs [114, 101, 116, 114, 105, 101, 115])), (st (bs [111, 110])), (st (bs [105, 102])), (st (bs [103, 111])), (st (bs [115, 101, 116]))]), (st s)] ((tb b), [.dead, .dead])) ∧
  (R = ((tb b), [.dead]))) : Rn 15 [(st s)] R := by
  refine fn_rule (ann := A15) (mv := MV) (fz := true) mixed Tryz.func15 (c := B15) (by kernel_rfl) (by decide) ?_
  all_goals revert h
  all_goals refine via ?_
  all_goals kernel_rfl
/- tumbrel/tumbrelref03.Reserved -/
noncomputable def A16 : Ann := mkAnn [] [] [] []
noncomputable abbrev B16 : Code := Tryz.f16.body.getD .skip
set_option maxRecDepth 100000 in
theorem f16 (s : ByteArray) (R : T × List T) (h : cond (decide (s = (bs [99, 104, 97, 114, 116])))
  (R = ((tb true), [.dead]))
  (cond (decide (s = (bs [118, 97, 114])))
   (R = ((tb true), [.dead]))
   (cond (decide (s = (bs [115, 116, 97, 116, 101])))
    (R = ((tb true), [.dead]))
    (cond (decide (s = (bs [97, 108, 108])))
     (R = ((tb true), [.dead]))
     (cond (decide (s = (bs [101, 110, 100])))
      (R = ((tb true), [.dead]))
      (cond (decide (s = (bs [100, 111])))
       (R = ((tb true), [.dead]))
       (cond (decide (s = (bs [117, 110, 100, 111])))
        (R = ((tb true), [.dead]))
        (cond (decide (s = (bs [97, 116])))
         (R = ((tb true), [.dead]))
         (cond (decide (s = (bs [114, 101, 116, 114, 105, 101, 115])))
          (R = ((tb true), [.dead]))
          (cond (decide (s = (bs [111, 110])))
           (R = ((tb true), [.dead]))
           (cond (decide (s = (bs [105, 102])))
            (R = ((tb true), [.dead]))
            (cond (decide (s = (bs [103, 111])))
             (R = ((tb true), [.dead]))
             (cond (decide (s = (bs [115, 101, 116])))
              (R = ((tb true), [.dead]))
              (R = ((tb false), [.dead]))))))))))))))) : Rn 16 [(st s)] R := by
  refine fn_rule (ann := A16) (mv := MV) (fz := true) mixed Tryz.func16 (c := B16) (by kernel_rfl) (by decide) ?_
  all_goals revert h
  all_goals refine via ?_
  all_goals kernel_rfl
/- tumbrel/tumbrelref04.small -/
noncomputable def A17 : Ann := mkAnn [(116200, (fun a => [.ex (Int) fun n => .done ((i64 n), [.dead, .dead, .dead])]))] [(115880, [.ex W_tumbrelref04_Node fun w => .done w.t])] [] [(244, [1, 2, 3, 24, 25])]
noncomputable abbrev B17 : Code := Tryz.f17.body.getD .skip
def L17_0 (depth : Int) (left : Int) (n : Int) (n1 : Int) (w : W_tumbrelref04_Node) (R : T × List T) : Prop := CutL Tryz.prog Tryz.f17 B17 true [1, 1, 1, 0, 1, 0, 0] (mkSt 41 [(1, (i64 depth)), (2, (i64 left)), (3, (.ptr (1000000004, 0) 0)), (24, (i64 n)), (25, (i64 n1))] [((1000000004, 0), .box 24 [(i64 w.fKind), (i64 w.fN), (st w.fS), (.sl 4 w.fParts)])]) [.dead, .dead, .dead] R
set_option maxRecDepth 100000 in
theorem l17_0 (depth : Int) (left : Int) (n : Int) (n1 : Int) (w : W_tumbrelref04_Node) (R : T × List T) (h : cond (decide ((n1 : Int) < n))
  (∃ w1 : W_tumbrelref04_Node, ((0 : Int) ≤ n1 ∧ w.fParts[(Int.toNat n1)]? = some w1.t) ∧
   (∃ n2 : Int, (Rn 17 [w1.t, (i64 (IntKind.wrap .i64 (depth + 1))), (i64 left)] ((i64 n2), [.dead, .dead, .dead])) ∧
    (cond (decide ((n2 : Int) < 0))
     (R = ((i64 (-1)), [.dead, .dead, .dead]))
     (L17_0 depth n2 n (IntKind.wrap .i64 (n1 + 1)) w R))))
  (R = ((i64 left), [.dead, .dead, .dead]))) : L17_0 depth left n n1 w R := by
  unfold L17_0
  refine cutL_rule (ann := A17) (mv := MV) mixed (by kernel_rfl) ?_
  all_goals revert h
  all_goals refine via ?_
  all_goals kernel_rfl
set_option maxRecDepth 100000 in
theorem f17 (w : W_tumbrelref04_Node) (depth : Int) (left : Int) (R : T × List T) (h : cond (decide ((60 : Int) < depth))
  (R = ((i64 (-1)), [.dead, .dead, .dead]))
  (cond (decide (((IntKind.wrap .i64 (left - 1)) : Int) < 0))
   (R = ((i64 (-1)), [.dead, .dead, .dead]))
   (cond (decide ((1000 : Int) < (((ByteArray.size w.fS) : Nat) : Int)))
    (R = ((i64 (-1)), [.dead, .dead, .dead]))
    (L17_0 depth (IntKind.wrap .i64 (left - 1)) (((List.length w.fParts) : Nat) : Int) 0 w R)))) : Rn 17 [w.t, (i64 depth), (i64 left)] R := by
  refine fn_rule (ann := A17) (mv := MV) (fz := true) mixed Tryz.func17 (c := B17) (by kernel_rfl) (by decide) ?_
  all_goals revert h
  all_goals refine via ?_
  all_goals kernel_rfl
/- tumbrel/tumbrellaw04.Theirs$1 -/
noncomputable def A20 : Ann := mkAnn [(34088, (fun a => [.ex (IfV) fun e => .done (e.v, [.dead])]))] [(33960, [.ex W_tumbrelref04_Node fun w => .done w.t])] [] []
noncomputable abbrev B20 : Code := Tryz.f20.body.getD .skip
set_option maxRecDepth 100000 in
theorem f20 (i : Int) (n : Int) (n1 : Int) (s : ByteArray) (l : List T) (R : T × List T) (h : cond (decide ((i : Int) < (((List.length l) : Nat) : Int)))
  (∃ w : W_tumbrelref04_Node, ((0 : Int) ≤ i ∧ l[(Int.toNat i)]? = some w.t) ∧
   (∃ e : IfV, (Rn 9 [w.t] (e.v, [.dead])) ∧
    (R = (e.v, [.dead, (.cbox 24 [(i64 n), (i64 n1), (st s), (.sl 4 l)])]))))
  (R = ((.ifc 0 .dead), [.dead, (.cbox 24 [(i64 n), (i64 n1), (st s), (.sl 4 l)])]))) : Rn 20 [(i64 i), (.cbox 24 [(i64 n), (i64 n1), (st s), (.sl 4 l)])] R := by
  refine fn_rule (ann := A20) (mv := MV) (fz := true) mixed Tryz.func20 (c := B20) (by kernel_rfl) (by decide) ?_
  all_goals revert h
  all_goals refine via ?_
  all_goals kernel_rfl
/- tumbrel/guard.Readable -/
noncomputable def A18 : Ann := mkAnn [(17448, (fun a => [.ex (Bool) fun b => .done ((tb b), [.dead])])), (17640, (fun a => [.ex (List T) fun l => .done ((.sl 1 l), [.dead])])), (17704, (fun a => [.ex (Bool) fun b => .done ((tb b), [.dead, .dead])]))] [] [] []
noncomputable abbrev B18 : Code := Tryz.f18.body.getD .skip
set_option maxRecDepth 100000 in
theorem f18 (e : IfV) (R : T × List T) (h : ∃ b : Bool, (Rn 28 [e.v] ((tb b), [.dead])) ∧
  (cond b
   (∃ l : List T, (Rn 30 [e.v] ((.sl 1 l), [.dead])) ∧
    (∃ b1 : Bool, (Rn 29 [(.sl 1 l), (.s (.func (.func 15) #[] #[]))] ((tb b1), [.dead, .dead])) ∧
     (R = ((tb (!b1)), [.dead]))))
   (R = ((tb false), [.dead])))) : Rn 18 [e.v] R := by
  refine fn_rule (ann := A18) (mv := MV) (fz := true) mixed Tryz.func18 (c := B18) (by kernel_rfl) (by decide) ?_
  all_goals revert h
  all_goals refine via ?_
  all_goals kernel_rfl
/- tumbrel/guard.text -/
noncomputable def A19 : Ann := mkAnn [(66664, (fun a => [.ex (ByteArray) fun s => .done ((st s), [.dead, .dead])])), (164968, (fun a => [.ex (ByteArray) fun s => .done ((st s), [.dead, .dead])])), (214120, (fun a => [.ex (ByteArray) fun s => .done ((st s), [.dead, .dead])])), (263272, (fun a => [.ex (Int) fun n => .done ((i64 n), [.dead])])), (328872, (fun a => [.ex (ByteArray) fun s => .done ((st s), [.dead, .dead])])), (329512, (fun a => [.ex (ByteArray) fun s => .done ((st s), [.dead, .dead])]))] [(33768, [.ex W_expr_Lit fun w => .done w.t]), (82920, [.ex W_expr_Ref fun w => .done w.t]), (132072, [.ex W_expr_Not fun w => .done w.t]), (181224, [.ex W_expr_Neg fun w => .done w.t]), (230376, [.ex W_expr_Bin fun w => .done w.t])] [] []
noncomputable abbrev B19 : Code := Tryz.f19.body.getD .skip
set_option maxRecDepth 100000 in
theorem f19 (e : IfV) (R : T × List T) (h : cond (Nat.beq e.t 41)
  (∃ w : W_expr_Lit, (e.x = w.t) ∧
   (∃ s : ByteArray, (Rn 31 [(i64 w.fN), (i64 10)] ((st s), [.dead, .dead])) ∧
    (R = ((st s), [.dead]))))
  (cond (Nat.beq e.t 49)
   (∃ w1 : W_expr_Ref, (e.x = w1.t) ∧
    (R = ((st w1.fName), [.dead])))
   (cond (Nat.beq e.t 51)
    (∃ w2 : W_expr_Not, (e.x = w2.t) ∧
     (∃ s1 : ByteArray, (Rn 32 [w2.fX.v, (i64 6)] ((st s1), [.dead, .dead])) ∧
      ((((ByteArray.size (bs [33]) + ByteArray.size s1 : Nat) : Int) ≤ 9223372036854775807) ∧
       (R = ((st ((bs [33]) ++ s1)), [.dead])))))
    (cond (Nat.beq e.t 52)
     (∃ w3 : W_expr_Neg, (e.x = w3.t) ∧
      (∃ s2 : ByteArray, (Rn 32 [w3.fX.v, (i64 6)] ((st s2), [.dead, .dead])) ∧
       ((((ByteArray.size (bs [45]) + ByteArray.size s2 : Nat) : Int) ≤ 9223372036854775807) ∧
        (R = ((st ((bs [45]) ++ s2)), [.dead])))))
     (cond (Nat.beq e.t 43)
      (∃ w4 : W_expr_Bin, (e.x = w4.t) ∧
       (∃ n : Int, (Rn 33 [(st w4.fOp)] ((i64 n), [.dead])) ∧
        (cond (decide ((n : Int) = 3))
         (∃ s3 : ByteArray, (Rn 32 [w4.fL.v, (i64 (IntKind.wrap .i64 (n + 1)))] ((st s3), [.dead, .dead])) ∧
          ((((ByteArray.size s3 + ByteArray.size (bs [32]) : Nat) : Int) ≤ 9223372036854775807) ∧
           ((((ByteArray.size (s3 ++ (bs [32])) + ByteArray.size w4.fOp : Nat) : Int) ≤ 9223372036854775807) ∧
            ((((ByteArray.size ((s3 ++ (bs [32])) ++ w4.fOp) + ByteArray.size (bs [32]) : Nat) : Int) ≤ 9223372036854775807) ∧
             (∃ s4 : ByteArray, (Rn 32 [w4.fR.v, (i64 (IntKind.wrap .i64 (n + 1)))] ((st s4), [.dead, .dead])) ∧
              ((((ByteArray.size (((s3 ++ (bs [32])) ++ w4.fOp) ++ (bs [32])) + ByteArray.size s4 : Nat) : Int) ≤ 9223372036854775807) ∧
               (R = ((st ((((s3 ++ (bs [32])) ++ w4.fOp) ++ (bs [32])) ++ s4)), [.dead]))))))))
         (∃ s5 : ByteArray, (Rn 32 [w4.fL.v, (i64 n)] ((st s5), [.dead, .dead])) ∧
          ((((ByteArray.size s5 + ByteArray.size (bs [32]) : Nat) : Int) ≤ 9223372036854775807) ∧
           ((((ByteArray.size (s5 ++ (bs [32])) + ByteArray.size w4.fOp : Nat) : Int) ≤ 9223372036854775807) ∧
            ((((ByteArray.size ((s5 ++ (bs [32])) ++ w4.fOp) + ByteArray.size (bs [32]) : Nat) : Int) ≤ 9223372036854775807) ∧
             (∃ s6 : ByteArray, (Rn 32 [w4.fR.v, (i64 (IntKind.wrap .i64 (n + 1)))] ((st s6), [.dead, .dead])) ∧
              ((((ByteArray.size (((s5 ++ (bs [32])) ++ w4.fOp) ++ (bs [32])) + ByteArray.size s6 : Nat) : Int) ≤ 9223372036854775807) ∧
               (R = ((st ((((s5 ++ (bs [32])) ++ w4.fOp) ++ (bs [32])) ++ s6)), [.dead])))))))))))
      (R = ((st (bs [])), [.dead]))))))) : Rn 19 [e.v] R := by
  refine fn_rule (ann := A19) (mv := MV) (fz := true) mixed Tryz.func19 (c := B19) (by kernel_rfl) (by decide) ?_
  all_goals revert h
  all_goals refine via ?_
  all_goals kernel_rfl
end Go.Proofs.YthcaodlfnlhfbaaGreatDoorT
