/- What is to be shown of functions of the program, by their texts (printed by a program of this work; the kernel holds each against the text). -/
import Derived.Test.YthcaodlfnlhfbaaGreatDoorP0
namespace Go.Proofs.YthcaodlfnlhfbaaGreatDoorT
open Go Go.Proofs
set_option linter.unusedVariables false
/- tumbrel/glyph.Words -/
noncomputable def A21 : Ann := mkAnn [(165032, (fun a => [.ex (Int) fun n => .ex (ByteArray) fun s => .ex (Int) fun n1 => .ex (Bool) fun b => .ex (Int) fun n2 => .ex (Int) fun n3 => .done ((i64 n), [(.cbox 77 [(st s), nilS, (i64 n1), (tb b), (i64 n2), (i64 n3)]), .dead, .dead]), .ex (Int) fun n => .ex (ByteArray) fun s => .ex (T) fun y => .ex (List T) fun l => .ex (Int) fun n1 => .ex (Bool) fun b => .ex (Int) fun n2 => .ex (Int) fun n3 => .done ((i64 n), [(.cbox 77 [(st s), (.cown 98 4 (y :: l)), (i64 n1), (tb b), (i64 n2), (i64 n3)]), .dead, .dead])])), (214376, (fun a => [.ex (W_api_Pos) fun w => .done (w.t, [.dead, .dead])]))] [] [] [(244, [3, 5, 21])]
noncomputable abbrev B21 : Code := Tryz.f21.body.getD .skip
def L21_0 (w : W_api_Pos) (s : ByteArray) (l : List T) (n : Int) (b : Bool) (n1 : Int) (n2 : Int) (s1 : ByteArray) (pos : Nat) (R : T × List T) : Prop := CutL Tryz.prog Tryz.f21 B21 true [1, 1, 1, 0, 1, 0, 0] (mkSt 61 [(3, (.ptr (1000000004, 0) 0)), (5, (.ptr (1000000006, 0) 0)), (21, (.it (1000000022, 0)))] (([((1000000004, 0), .box 55 [(i64 w.fLine), (i64 w.fCol)]), ((1000000006, 0), .box 77 [(st s), (mnT (1000000770, 0) l), (i64 n), (tb b), (i64 n1), (i64 n2)]), ((1000000022, 0), .iter s1 pos)] ++ mnH (1000000770, 0) 98 4 l))) [.dead] R
set_option maxRecDepth 100000 in
theorem l21_0 (w : W_api_Pos) (s : ByteArray) (l : List T) (n : Int) (b : Bool) (n1 : Int) (n2 : Int) (s1 : ByteArray) (pos : Nat) (R : T × List T) (h : cond (Nat.ble (pos + 1) (ByteArray.size s1))
  (cond (decide (((Utf8.decode s1 pos).1 : Int) = 10))
   ((∃ n3 : Int, ∃ s2 : ByteArray, ∃ n4 : Int, ∃ b1 : Bool, ∃ n5 : Int, ∃ n6 : Int, (Rn 34 [(.cbox 77 [(st s), (mnC 98 4 l), (i64 n), (tb false), (i64 n1), (i64 n2)]), (i64 ((pos : Nat) : Int)), (i32 (Utf8.decode s1 pos).1)] ((i64 n3), [(.cbox 77 [(st s2), nilS, (i64 n4), (tb b1), (i64 n5), (i64 n6)]), .dead, .dead])) ∧
     (cond (!(decide ((n3 : Int) = 0)))
      (R = ((.tup [(.sl 4 []), (.agg [(i64 n5), (i64 n6)]), (i64 n3)]), [.dead]))
      (∃ w1 : W_api_Pos, (Rn 35 [(.agg [(i64 n5), (i64 n6)]), (i32 (Utf8.decode s1 pos).1)] (w1.t, [.dead, .dead])) ∧
       (L21_0 w s2 ([] : List T) n4 b1 w1.fLine w1.fCol s1 (pos + (Utf8.decode s1 pos).2) R)))) ∨
    (∃ n7 : Int, ∃ s3 : ByteArray, ∃ y : T, ∃ l1 : List T, ∃ n8 : Int, ∃ b2 : Bool, ∃ n9 : Int, ∃ n10 : Int, (Rn 34 [(.cbox 77 [(st s), (mnC 98 4 l), (i64 n), (tb false), (i64 n1), (i64 n2)]), (i64 ((pos : Nat) : Int)), (i32 (Utf8.decode s1 pos).1)] ((i64 n7), [(.cbox 77 [(st s3), (.cown 98 4 (y :: l1)), (i64 n8), (tb b2), (i64 n9), (i64 n10)]), .dead, .dead])) ∧
     (cond (!(decide ((n7 : Int) = 0)))
      (R = ((.tup [(.sl 4 []), (.agg [(i64 n9), (i64 n10)]), (i64 n7)]), [.dead]))
      (∃ w2 : W_api_Pos, (Rn 35 [(.agg [(i64 n9), (i64 n10)]), (i32 (Utf8.decode s1 pos).1)] (w2.t, [.dead, .dead])) ∧
       (L21_0 w s3 (y :: l1) n8 b2 w2.fLine w2.fCol s1 (pos + (Utf8.decode s1 pos).2) R)))))
   (cond (!b)
    ((∃ n11 : Int, ∃ s4 : ByteArray, ∃ n12 : Int, ∃ b3 : Bool, ∃ n13 : Int, ∃ n14 : Int, (Rn 34 [(.cbox 77 [(st s), (mnC 98 4 l), (i64 n), (tb b), (i64 n1), (i64 n2)]), (i64 ((pos : Nat) : Int)), (i32 (Utf8.decode s1 pos).1)] ((i64 n11), [(.cbox 77 [(st s4), nilS, (i64 n12), (tb b3), (i64 n13), (i64 n14)]), .dead, .dead])) ∧
      (cond (!(decide ((n11 : Int) = 0)))
       (R = ((.tup [(.sl 4 []), (.agg [(i64 n13), (i64 n14)]), (i64 n11)]), [.dead]))
       (∃ w3 : W_api_Pos, (Rn 35 [(.agg [(i64 n13), (i64 n14)]), (i32 (Utf8.decode s1 pos).1)] (w3.t, [.dead, .dead])) ∧
        (L21_0 w s4 ([] : List T) n12 b3 w3.fLine w3.fCol s1 (pos + (Utf8.decode s1 pos).2) R)))) ∨
     (∃ n15 : Int, ∃ s5 : ByteArray, ∃ y1 : T, ∃ l2 : List T, ∃ n16 : Int, ∃ b4 : Bool, ∃ n17 : Int, ∃ n18 : Int, (Rn 34 [(.cbox 77 [(st s), (mnC 98 4 l), (i64 n), (tb b), (i64 n1), (i64 n2)]), (i64 ((pos : Nat) : Int)), (i32 (Utf8.decode s1 pos).1)] ((i64 n15), [(.cbox 77 [(st s5), (.cown 98 4 (y1 :: l2)), (i64 n16), (tb b4), (i64 n17), (i64 n18)]), .dead, .dead])) ∧
      (cond (!(decide ((n15 : Int) = 0)))
       (R = ((.tup [(.sl 4 []), (.agg [(i64 n17), (i64 n18)]), (i64 n15)]), [.dead]))
       (∃ w4 : W_api_Pos, (Rn 35 [(.agg [(i64 n17), (i64 n18)]), (i32 (Utf8.decode s1 pos).1)] (w4.t, [.dead, .dead])) ∧
        (L21_0 w s5 (y1 :: l2) n16 b4 w4.fLine w4.fCol s1 (pos + (Utf8.decode s1 pos).2) R)))))
    (∃ w5 : W_api_Pos, (Rn 35 [(.agg [(i64 n1), (i64 n2)]), (i32 (Utf8.decode s1 pos).1)] (w5.t, [.dead, .dead])) ∧
     (L21_0 w s l n b w5.fLine w5.fCol s1 (pos + (Utf8.decode s1 pos).2) R))))
  (R = ((.tup [(.sl 4 l), (.agg [(i64 0), (i64 0)]), (i64 0)]), [.dead]))) : L21_0 w s l n b n1 n2 s1 pos R := by
  unfold L21_0
  refine cutL_rule (ann := A21) (mv := MV) mixed (by kernel_rfl) ?_
  all_goals rcases l with _ | ⟨_, _⟩
  all_goals revert h
  all_goals refine via ?_
  all_goals kernel_rfl
set_option maxRecDepth 100000 in
theorem f21 (s : ByteArray) (R : T × List T) (h : cond (decide ((12000 : Int) < (((ByteArray.size s) : Nat) : Int)))
  (R = ((.tup [(.sl 4 []), (.agg [(i64 1), (i64 1)]), (i64 4)]), [.dead]))
  (L21_0 ⟨0, 0⟩ s ([] : List T) 0 false 1 1 s 0 R)) : Rn 21 [(st s)] R := by
  refine fn_rule (ann := A21) (mv := MV) (fz := true) mixed Tryz.func21 (c := B21) (by kernel_rfl) (by decide) ?_
  all_goals revert h
  all_goals refine via ?_
  all_goals kernel_rfl
/- tumbrel/guard.Take -/
noncomputable def A22 : Ann := mkAnn [(33832, (fun a => [.ex (IfV) fun e => .ex (List T) fun l => .ex (Int) fun n => .ex (Bool) fun b => .done (e.v, [(.cbox 82 [(.sl 4 l), (i64 n), (tb b)]), .dead])])), (82984, (fun a => [.ex (Bool) fun b => .done ((tb b), [.dead])]))] [] [] []
noncomputable abbrev B22 : Code := Tryz.f22.body.getD .skip
set_option maxRecDepth 100000 in
theorem f22 (words : List T) (R : T × List T) (h : ∃ e : IfV, ∃ l : List T, ∃ n : Int, ∃ b : Bool, (Rn 36 [(.cbox 82 [(.sl 4 words), (i64 0), (tb false)]), (i64 1)] (e.v, [(.cbox 82 [(.sl 4 l), (i64 n), (tb b)]), .dead])) ∧
  (cond b
   (R = ((.tup [(.ifc 0 .dead), (i64 n), (i64 12)]), [.dead]))
   (∃ b1 : Bool, (Rn 28 [e.v] ((tb b1), [.dead])) ∧
    (cond (!b1)
     (R = ((.tup [(.ifc 0 .dead), (i64 0), (i64 13)]), [.dead]))
     (R = ((.tup [e.v, (i64 n), (i64 0)]), [.dead])))))) : Rn 22 [(.sl 4 words)] R := by
  refine fn_rule (ann := A22) (mv := MV) (fz := true) mixed Tryz.func22 (c := B22) (by kernel_rfl) (by decide) ?_
  all_goals revert h
  all_goals refine via ?_
  all_goals kernel_rfl
/- tumbrel/expr.operands -/
noncomputable def A23 : Ann := mkAnn [] [(17448, [.ex W_expr_Not fun w => .done w.t]), (66600, [.ex W_expr_Neg fun w => .done w.t]), (115752, [.ex W_expr_Bin fun w => .done w.t])] [] []
noncomputable abbrev B23 : Code := Tryz.f23.body.getD .skip
set_option maxRecDepth 100000 in
theorem f23 (e : IfV) (R : T × List T) (h : cond (Nat.beq e.t 51)
  (∃ w : W_expr_Not, (e.x = w.t) ∧
   (R = ((.sl 1 [w.fX.v]), [.dead])))
  (cond (Nat.beq e.t 52)
   (∃ w1 : W_expr_Neg, (e.x = w1.t) ∧
    (R = ((.sl 1 [w1.fX.v]), [.dead])))
   (cond (Nat.beq e.t 43)
    (∃ w2 : W_expr_Bin, (e.x = w2.t) ∧
     (R = ((.sl 1 [w2.fL.v, w2.fR.v]), [.dead])))
    (R = ((.sl 1 []), [.dead]))))) : Rn 23 [e.v] R := by
  refine fn_rule (ann := A23) (mv := MV) (fz := true) mixed Tryz.func23 (c := B23) (by kernel_rfl) (by decide) ?_
  all_goals revert h
  all_goals refine via ?_
  all_goals kernel_rfl
/- (tumbrel/expr.Neg).Kind -/
noncomputable def A151 : Ann := mkAnn [] [] [] []
noncomputable abbrev B151 : Code := Tryz.f151.body.getD .skip
set_option maxRecDepth 100000 in
theorem f151 (w : W_expr_Neg) (R : T × List T) (h : R = ((i64 4), [.dead])) : Rn 151 [w.t] R := by
  refine fn_rule (ann := A151) (mv := MV) (fz := true) mixed Tryz.func151 (c := B151) (by kernel_rfl) (by decide) ?_
  all_goals revert h
  all_goals refine via ?_
  all_goals kernel_rfl
/- slices.EqualFunc[[]tumbrel/expr.Expr,[]tumbrel/expr.Expr,tumbrel/expr.Expr,tumbrel/expr.Expr] -/
noncomputable def A24 : Ann := mkAnn [(115880, (fun a => [.ex (Bool) fun b => .done ((tb b), [.dead, .dead])]))] [(82984, [.ex IfV fun w => .done w.v]), (99432, [.ex IfV fun w => .done w.v])] [] [(116, [1, 2, 15, 16, 17])]
noncomputable abbrev B24 : Code := Tryz.f24.body.getD .skip
def L24_0 (s2 : List T) (l : List T) (n : Int) (n1 : Int) (R : T × List T) : Prop := CutL Tryz.prog Tryz.f24 B24 true [1, 1, 0, 1, 0, 0] (mkSt 32 [(1, (.sl 1 s2)), (2, (.s (.func (.func 11) #[] #[]))), (15, (.sl 1 l)), (16, (i64 n)), (17, (i64 n1))] []) [.dead, .dead, .dead] R
set_option maxRecDepth 100000 in
theorem l24_0 (s2 : List T) (l : List T) (n : Int) (n1 : Int) (R : T × List T) (h : cond (decide ((n1 : Int) < n))
  (∃ e : IfV, ((0 : Int) ≤ n1 ∧ l[(Int.toNat n1)]? = some e.v) ∧
   (∃ e1 : IfV, ((0 : Int) ≤ n1 ∧ s2[(Int.toNat n1)]? = some e1.v) ∧
    (∃ b : Bool, (Rn 11 [e.v, e1.v] ((tb b), [.dead, .dead])) ∧
     (cond (!b)
      (R = ((tb false), [.dead, .dead, .dead]))
      (L24_0 s2 l n (IntKind.wrap .i64 (n1 + 1)) R)))))
  (R = ((tb true), [.dead, .dead, .dead]))) : L24_0 s2 l n n1 R := by
  unfold L24_0
  refine cutL_rule (ann := A24) (mv := MV) mixed (by kernel_rfl) ?_
  all_goals revert h
  all_goals refine via ?_
  all_goals kernel_rfl
set_option maxRecDepth 100000 in
theorem f24 (s1 : List T) (s2 : List T) (R : T × List T) (h : cond (!(decide (((((List.length s1) : Nat) : Int) : Int) = (((List.length s2) : Nat) : Int))))
  (R = ((tb false), [.dead, .dead, .dead]))
  (L24_0 s2 s1 (((List.length s1) : Nat) : Int) 0 R)) : Rn 24 [(.sl 1 s1), (.sl 1 s2), (.s (.func (.func 11) #[] #[]))] R := by
  refine fn_rule (ann := A24) (mv := MV) (fz := true) mixed Tryz.func24 (c := B24) (by kernel_rfl) (by decide) ?_
  all_goals revert h
  all_goals refine via ?_
  all_goals kernel_rfl
/- (tumbrel/expr.Not).Kind -/
noncomputable def A150 : Ann := mkAnn [] [] [] []
noncomputable abbrev B150 : Code := Tryz.f150.body.getD .skip
set_option maxRecDepth 100000 in
theorem f150 (w : W_expr_Not) (R : T × List T) (h : R = ((i64 3), [.dead])) : Rn 150 [w.t] R := by
  refine fn_rule (ann := A150) (mv := MV) (fz := true) mixed Tryz.func150 (c := B150) (by kernel_rfl) (by decide) ?_
  all_goals revert h
  all_goals refine via ?_
  all_goals kernel_rfl
/- (tumbrel/expr.Ref).Kind -/
noncomputable def A149 : Ann := mkAnn [] [] [] []
noncomputable abbrev B149 : Code := Tryz.f149.body.getD .skip
set_option maxRecDepth 100000 in
theorem f149 (w : W_expr_Ref) (R : T × List T) (h : R = ((i64 2), [.dead])) : Rn 149 [w.t] R := by
  refine fn_rule (ann := A149) (mv := MV) (fz := true) mixed Tryz.func149 (c := B149) (by kernel_rfl) (by decide) ?_
  all_goals revert h
  all_goals refine via ?_
  all_goals kernel_rfl
/- (tumbrel/expr.Bin).Kind -/
noncomputable def A148 : Ann := mkAnn [] [] [] []
noncomputable abbrev B148 : Code := Tryz.f148.body.getD .skip
set_option maxRecDepth 100000 in
theorem f148 (w : W_expr_Bin) (R : T × List T) (h : R = ((i64 5), [.dead])) : Rn 148 [w.t] R := by
  refine fn_rule (ann := A148) (mv := MV) (fz := true) mixed Tryz.func148 (c := B148) (by kernel_rfl) (by decide) ?_
  all_goals revert h
  all_goals refine via ?_
  all_goals kernel_rfl
/- (tumbrel/expr.Lit).Kind -/
noncomputable def A147 : Ann := mkAnn [] [] [] []
noncomputable abbrev B147 : Code := Tryz.f147.body.getD .skip
set_option maxRecDepth 100000 in
theorem f147 (w : W_expr_Lit) (R : T × List T) (h : R = ((i64 1), [.dead])) : Rn 147 [w.t] R := by
  refine fn_rule (ann := A147) (mv := MV) (fz := true) mixed Tryz.func147 (c := B147) (by kernel_rfl) (by decide) ?_
  all_goals revert h
  all_goals refine via ?_
  all_goals kernel_rfl
/- tumbrel/tumbrelref04.Readable -/
noncomputable def A25 : Ann := mkAnn [(17448, (fun a => [.ex (Bool) fun b => .done ((tb b), [.dead])])), (17640, (fun a => [.ex (Bool) fun b => .done ((tb b), [.dead])]))] [] [] []
noncomputable abbrev B25 : Code := Tryz.f25.body.getD .skip
set_option maxRecDepth 100000 in
theorem f25 (w : W_tumbrelref04_Node) (R : T × List T) (h : ∃ b : Bool, (Rn 37 [w.t] ((tb b), [.dead])) ∧
  (cond b
   (∃ b1 : Bool, (Rn 38 [w.t] ((tb b1), [.dead])) ∧
    (R = ((tb b1), [.dead])))
   (R = ((tb false), [.dead])))) : Rn 25 [w.t] R := by
  refine fn_rule (ann := A25) (mv := MV) (fz := true) mixed Tryz.func25 (c := B25) (by kernel_rfl) (by decide) ?_
  all_goals revert h
  all_goals refine via ?_
  all_goals kernel_rfl
/- tumbrel/tumbrelref04.text -/
noncomputable def A26 : Ann := mkAnn [(50280, (fun a => [.ex (ByteArray) fun s => .done ((st s), [.dead, .dead])])), (115944, (fun a => [.ex (ByteArray) fun s => .done ((st s), [.dead, .dead])])), (148712, (fun a => [.ex (ByteArray) fun s => .done ((st s), [.dead, .dead])])), (164968, (fun a => [.ex (Int) fun n => .done ((i64 n), [.dead])])), (230696, (fun a => [.ex (ByteArray) fun s => .done ((st s), [.dead, .dead])])), (231464, (fun a => [.ex (ByteArray) fun s => .done ((st s), [.dead, .dead])]))] [(115816, [.ex W_tumbrelref04_Node fun w => .done w.t]), (148584, [.ex W_tumbrelref04_Node fun w => .done w.t]), (230504, [.ex W_tumbrelref04_Node fun w => .done w.t]), (231208, [.ex W_tumbrelref04_Node fun w => .done w.t])] [] []
noncomputable abbrev B26 : Code := Tryz.f26.body.getD .skip
set_option maxRecDepth 100000 in
theorem f26 (w : W_tumbrelref04_Node) (R : T × List T) (h : cond (decide ((w.fKind : Int) = 1))
  (∃ s : ByteArray, (Rn 31 [(i64 w.fN), (i64 10)] ((st s), [.dead, .dead])) ∧
   (R = ((st s), [.dead])))
  (cond (decide ((w.fKind : Int) = 2))
   (R = ((st w.fS), [.dead]))
   (cond (decide ((w.fKind : Int) = 3))
    (∃ w1 : W_tumbrelref04_Node, ((0 : Int) ≤ 0 ∧ w.fParts[0]? = some w1.t) ∧
     (∃ s1 : ByteArray, (Rn 39 [w1.t, (i64 6)] ((st s1), [.dead, .dead])) ∧
      ((((ByteArray.size (bs [33]) + ByteArray.size s1 : Nat) : Int) ≤ 9223372036854775807) ∧
       (R = ((st ((bs [33]) ++ s1)), [.dead])))))
    (cond (decide ((w.fKind : Int) = 4))
     (∃ w2 : W_tumbrelref04_Node, ((0 : Int) ≤ 0 ∧ w.fParts[0]? = some w2.t) ∧
      (∃ s2 : ByteArray, (Rn 39 [w2.t, (i64 6)] ((st s2), [.dead, .dead])) ∧
       ((((ByteArray.size (bs [45]) + ByteArray.size s2 : Nat) : Int) ≤ 9223372036854775807) ∧
        (R = ((st ((bs [45]) ++ s2)), [.dead])))))
     (∃ n : Int, (Rn 40 [(st w.fS)] ((i64 n), [.dead])) ∧
      (cond (decide ((n : Int) = 3))
       (∃ w3 : W_tumbrelref04_Node, ((0 : Int) ≤ 0 ∧ w.fParts[0]? = some w3.t) ∧
        (∃ s3 : ByteArray, (Rn 39 [w3.t, (i64 4)] ((st s3), [.dead, .dead])) ∧
         ((((ByteArray.size s3 + ByteArray.size (bs [32]) : Nat) : Int) ≤ 9223372036854775807) ∧
          ((((ByteArray.size (s3 ++ (bs [32])) + ByteArray.size w.fS : Nat) : Int) ≤ 9223372036854775807) ∧
           ((((ByteArray.size ((s3 ++ (bs [32])) ++ w.fS) + ByteArray.size (bs [32]) : Nat) : Int) ≤ 9223372036854775807) ∧
            (∃ w4 : W_tumbrelref04_Node, ((0 : Int) ≤ 1 ∧ w.fParts[1]? = some w4.t) ∧
             (∃ s4 : ByteArray, (Rn 39 [w4.t, (i64 (IntKind.wrap .i64 (n + 1)))] ((st s4), [.dead, .dead])) ∧
              ((((ByteArray.size (((s3 ++ (bs [32])) ++ w.fS) ++ (bs [32])) + ByteArray.size s4 : Nat) : Int) ≤ 9223372036854775807) ∧
               (R = ((st ((((s3 ++ (bs [32])) ++ w.fS) ++ (bs [32])) ++ s4)), [.dead]))))))))))
       (∃ w5 : W_tumbrelref04_Node, ((0 : Int) ≤ 0 ∧ w.fParts[0]? = some w5.t) ∧
        (∃ s5 : ByteArray, (Rn 39 [w5.t, (i64 n)] ((st s5), [.dead, .dead])) ∧
         ((((ByteArray.size s5 + ByteArray.size (bs [32]) : Nat) : Int) ≤ 9223372036854775807) ∧
          ((((ByteArray.size (s5 ++ (bs [32])) + ByteArray.size w.fS : Nat) : Int) ≤ 9223372036854775807) ∧
           ((((ByteArray.size ((s5 ++ (bs [32])) ++ w.fS) + ByteArray.size (bs [32]) : Nat) : Int) ≤ 9223372036854775807) ∧
            (∃ w6 : W_tumbrelref04_Node, ((0 : Int) ≤ 1 ∧ w.fParts[1]? = some w6.t) ∧
             (∃ s6 : ByteArray, (Rn 39 [w6.t, (i64 (IntKind.wrap .i64 (n + 1)))] ((st s6), [.dead, .dead])) ∧
              ((((ByteArray.size (((s5 ++ (bs [32])) ++ w.fS) ++ (bs [32])) + ByteArray.size s6 : Nat) : Int) ≤ 9223372036854775807) ∧
               (R = ((st ((((s5 ++ (bs [32])) ++ w.fS) ++ (bs [32])) ++ s6)), [.dead])))))))))))))))) : Rn 26 [w.t] R := by
  refine fn_rule (ann := A26) (mv := MV) (fz := true) mixed Tryz.func26 (c := B26) (by kernel_rfl) (by decide) ?_
  all_goals revert h
  all_goals refine via ?_
  all_goals kernel_rfl
/- slices.Contains[[]string,string] -/
noncomputable def A27 : Ann := mkAnn [(17512, (fun a => [.ex (Int) fun n => .done ((i64 n), [.dead, .dead])]))] [] [] []
noncomputable abbrev B27 : Code := Tryz.f27.body.getD .skip
set_option maxRecDepth 100000 in
theorem f27 (s : List T) (s1 : ByteArray) (R : T × List T) (h : ∃ n : Int, (Rn 41 [(.sl 1 s), (st s1)] ((i64 n), [.dead, .dead])) ∧
  (R = ((tb (decide ((0 : Int) ≤ n))), [.dead, .dead]))) : Rn 27 [(.sl 1 s), (st s1)] R := by
  refine fn_rule (ann := A27) (mv := MV) (fz := true) mixed Tryz.func27 (c := B27) (by kernel_rfl) (by decide) ?_
  all_goals revert h
  all_goals refine via ?_
  all_goals kernel_rfl
/- tumbrel/expr.Formed -/
noncomputable def A28 : Ann := mkAnn [(17448, (fun a => [.ex (Int) fun n => .done ((i64 n), [.dead])])), (17704, (fun a => [.ex (Bool) fun b => .done ((tb b), [.dead, .dead])]))] [] [] []
noncomputable abbrev B28 : Code := Tryz.f28.body.getD .skip
set_option maxRecDepth 100000 in
theorem f28 (e : IfV) (R : T × List T) (h : ∃ n : Int, (Rn 42 [e.v] ((i64 n), [.dead])) ∧
  (cond (decide ((n : Int) ≤ 40))
   (∃ b : Bool, (Rn 43 [e.v, (i64 12)] ((tb b), [.dead, .dead])) ∧
    (R = ((tb b), [.dead])))
   (R = ((tb false), [.dead])))) : Rn 28 [e.v] R := by
  refine fn_rule (ann := A28) (mv := MV) (fz := true) mixed Tryz.func28 (c := B28) (by kernel_rfl) (by decide) ?_
  all_goals revert h
  all_goals refine via ?_
  all_goals kernel_rfl
/- slices.ContainsFunc[[]string,string] -/
noncomputable def A29 : Ann := mkAnn [(17512, (fun a => [.ex (Int) fun n => .done ((i64 n), [.dead, .dead])]))] [] [] []
noncomputable abbrev B29 : Code := Tryz.f29.body.getD .skip
set_option maxRecDepth 100000 in
theorem f29 (s : List T) (R : T × List T) (h : ∃ n : Int, (Rn 44 [(.sl 1 s), (.s (.func (.func 15) #[] #[]))] ((i64 n), [.dead, .dead])) ∧
  (R = ((tb (decide ((0 : Int) ≤ n))), [.dead, .dead]))) : Rn 29 [(.sl 1 s), (.s (.func (.func 15) #[] #[]))] R := by
  refine fn_rule (ann := A29) (mv := MV) (fz := true) mixed Tryz.func29 (c := B29) (by kernel_rfl) (by decide) ?_
  all_goals revert h
  all_goals refine via ?_
  all_goals kernel_rfl
/- strconv.FormatInt -/
noncomputable def A31 : Ann := mkAnn [(17512, (fun a => [.ex (ByteArray) fun s => .done ((st s), [.dead, .dead])]))] [] [] []
noncomputable abbrev B31 : Code := Tryz.f31.body.getD .skip
set_option maxRecDepth 100000 in
theorem f31 (i : Int) (base : Int) (R : T × List T) (h : ∃ s : ByteArray, (Rn 48 [(i64 i), (i64 base)] ((st s), [.dead, .dead])) ∧
  (R = ((st s), [.dead, .dead]))) : Rn 31 [(i64 i), (i64 base)] R := by
  refine fn_rule (ann := A31) (mv := MV) (fz := true) mixed Tryz.func31 (c := B31) (by kernel_rfl) (by decide) ?_
  all_goals revert h
  all_goals refine via ?_
  all_goals kernel_rfl
/- tumbrel/guard.operand -/
noncomputable def A32 : Ann := mkAnn [(17448, (fun a => [.ex (ByteArray) fun s => .done ((st s), [.dead])])), (33832, (fun a => [.ex (Int) fun n => .done ((i64 n), [.dead])]))] [] [] []
noncomputable abbrev B32 : Code := Tryz.f32.body.getD .skip
set_option maxRecDepth 100000 in
theorem f32 (e : IfV) (least : Int) (R : T × List T) (h : ∃ s : ByteArray, (Rn 19 [e.v] ((st s), [.dead])) ∧
  (∃ n : Int, (Rn 49 [e.v] ((i64 n), [.dead])) ∧
   (cond (decide ((least : Int) ≤ n))
    (R = ((st s), [.dead, .dead]))
    ((((ByteArray.size (bs [40]) + ByteArray.size s : Nat) : Int) ≤ 9223372036854775807) ∧
     ((((ByteArray.size ((bs [40]) ++ s) + ByteArray.size (bs [41]) : Nat) : Int) ≤ 9223372036854775807) ∧
      (R = ((st (((bs [40]) ++ s) ++ (bs [41]))), [.dead, .dead]))))))) : Rn 32 [e.v, (i64 least)] R := by
  refine fn_rule (ann := A32) (mv := MV) (fz := true) mixed Tryz.func32 (c := B32) (by kernel_rfl) (by decide) ?_
  all_goals revert h
  all_goals refine via ?_
  all_goals kernel_rfl
/- tumbrel/guard.level -/
noncomputable def A33 : Ann := mkAnn [(66664, (fun a => [.ex (Bool) fun b => .done ((tb b), [.dead, .dead])]))] [(50280, [.ex (List T) fun w => .done (.sl 1 w)])] [] [(52, [0, 11, 12, 13])]
noncomputable abbrev B33 : Code := Tryz.f33.body.getD .skip
def L33_0 (op : ByteArray) (n : Int) (n1 : Int) (l : List T) (R : T × List T) : Prop := CutL Tryz.prog Tryz.f33 B33 true [1, 0, 1, 0, 0] (mkSt 23 [(0, (st op)), (11, (.own (1000000012, 0))), (12, (i64 n)), (13, (i64 n1))] [((1000000012, 0), .arr 69 1 l)]) [.dead] R
set_option maxRecDepth 100000 in
theorem l33_0 (op : ByteArray) (n : Int) (n1 : Int) (l : List T) (R : T × List T) (h : cond (decide ((n1 : Int) < n))
  (((0 : Int) ≤ n1 ∧ n1 < (((List.length l) : Nat) : Int)) ∧
   (∃ l1 : List T, (l[(Int.toNat n1)]? = some (.sl 1 l1)) ∧
    (∃ b : Bool, (Rn 27 [(.sl 1 l1), (st op)] ((tb b), [.dead, .dead])) ∧
     (cond b
      (R = ((i64 n1), [.dead]))
      (L33_0 op n (IntKind.wrap .i64 (n1 + 1)) l R)))))
  (R = ((i64 0), [.dead]))) : L33_0 op n n1 l R := by
  unfold L33_0
  refine cutL_rule (ann := A33) (mv := MV) mixed (by kernel_rfl) ?_
  all_goals revert h
  all_goals refine via ?_
  all_goals kernel_rfl
set_option maxRecDepth 100000 in
theorem f33 (op : ByteArray) (R : T × List T) (h : L33_0 op 6 0 ([(.sl 1 []), (.sl 1 [(st (bs [124, 124]))]), (.sl 1 [(st (bs [38, 38]))]), (.sl 1 [(st (bs [60])), (st (bs [60, 61])), (st (bs [61, 61])), (st (bs [33, 61]))]), (.sl 1 [(st (bs [43])), (st (bs [45]))]), (.sl 1 [(st (bs [42]))])] : List T) R) : Rn 33 [(st op)] R := by
  refine fn_rule (ann := A33) (mv := MV) (fz := true) mixed Tryz.func33 (c := B33) (by kernel_rfl) (by decide) ?_
  all_goals revert h
  all_goals refine via ?_
  all_goals kernel_rfl
/- (*tumbrel/glyph.lexer).rune -/
noncomputable def A34 : Ann := mkAnn [(99496, (fun a => [.ex (W_glyph_Word) fun w => .ex (Bool) fun b => .done ((.tup [w.t, (tb b)]), [(a.getD 0 .dead), .dead, .dead])]))] [] [] []
noncomputable abbrev B34 : Code := Tryz.f34.body.getD .skip
set_option maxRecDepth 100000 in
theorem f34 (s : ByteArray) (l : List T) (n : Int) (b : Bool) (n1 : Int) (n2 : Int) (i : Int) (n3 : Int) (R : T × List T) (h : cond (decide ((i : Int) < n))
  (R = ((i64 0), [(.cbox 77 [(st s), (mnC 98 4 l), (i64 n), (tb b), (i64 n1), (i64 n2)]), .dead, .dead]))
  (cond (decide ((n3 : Int) = 32))
   (R = ((i64 0), [(.cbox 77 [(st s), (mnC 98 4 l), (i64 n), (tb b), (i64 n1), (i64 n2)]), .dead, .dead]))
   (cond (decide ((n3 : Int) = 9))
    (R = ((i64 0), [(.cbox 77 [(st s), (mnC 98 4 l), (i64 n), (tb b), (i64 n1), (i64 n2)]), .dead, .dead]))
    (cond (decide ((n3 : Int) = 10))
     (R = ((i64 0), [(.cbox 77 [(st s), (mnC 98 4 l), (i64 n), (tb b), (i64 n1), (i64 n2)]), .dead, .dead]))
     (cond (decide ((n3 : Int) = 35))
      (R = ((i64 0), [(.cbox 77 [(st s), (mnC 98 4 l), (i64 n), (tb true), (i64 n1), (i64 n2)]), .dead, .dead]))
      (∃ w : W_glyph_Word, ∃ b1 : Bool, (Rn 50 [(.cbox 77 [(st s), (mnC 98 4 l), (i64 n), (tb b), (i64 n1), (i64 n2)]), (i64 i), (i32 n3)] ((.tup [w.t, (tb b1)]), [(.cbox 77 [(st s), (mnC 98 4 l), (i64 n), (tb b), (i64 n1), (i64 n2)]), .dead, .dead])) ∧
       (cond (!b1)
        (R = ((i64 11), [(.cbox 77 [(st s), (mnC 98 4 l), (i64 n), (tb b), (i64 n1), (i64 n2)]), .dead, .dead]))
        (cond (decide (((((List.length l) : Nat) : Int) : Int) = 3000))
         (R = ((i64 4), [(.cbox 77 [(st s), (mnC 98 4 l), (i64 n), (tb b), (i64 n1), (i64 n2)]), .dead, .dead]))
         (chk (Nat.ble (((List.length l) + 1) * 40) 140737488355328)
          (R = ((i64 0), [(.cbox 77 [(st s), (.cown 98 4 (l ++ [w.t])), (i64 (IntKind.wrap .i64 (i + (((ByteArray.size w.fText) : Nat) : Int)))), (tb b), (i64 n1), (i64 n2)]), .dead, .dead]))))))))))) : Rn 34 [(.cbox 77 [(st s), (mnC 98 4 l), (i64 n), (tb b), (i64 n1), (i64 n2)]), (i64 i), (i32 n3)] R := by
  refine fn_rule (ann := A34) (mv := MV) (fz := true) mixed Tryz.func34 (c := B34) (by kernel_rfl) (by decide) ?_
  all_goals rcases l with _ | ⟨_, _⟩
  all_goals revert h
  all_goals refine via ?_
  all_goals kernel_rfl
/- tumbrel/glyph.behind -/
noncomputable def A35 : Ann := mkAnn [] [] [] []
noncomputable abbrev B35 : Code := Tryz.f35.body.getD .skip
set_option maxRecDepth 100000 in
theorem f35 (at_ : W_api_Pos) (n : Int) (R : T × List T) (h : cond (decide ((n : Int) = 10))
  (R = ((.agg [(i64 (IntKind.wrap .i64 (at_.fLine + 1))), (i64 1)]), [.dead, .dead]))
  (R = ((.agg [(i64 at_.fLine), (i64 (IntKind.wrap .i64 (at_.fCol + 1)))]), [.dead, .dead]))) : Rn 35 [at_.t, (i32 n)] R := by
  refine fn_rule (ann := A35) (mv := MV) (fz := true) mixed Tryz.func35 (c := B35) (by kernel_rfl) (by decide) ?_
  all_goals revert h
  all_goals refine via ?_
  all_goals kernel_rfl
/- (*tumbrel/guard.parser).climb -/
noncomputable def A36 : Ann := mkAnn [(17448, (fun a => [.ex (IfV) fun e => .ex (List T) fun l => .ex (Int) fun n => .ex (Bool) fun b => .done (e.v, [(.cbox 82 [(.sl 4 l), (i64 n), (tb b)])])])), (66600, (fun a => [.ex (W_glyph_Word) fun w => .ex (List T) fun l => .ex (Int) fun n => .ex (Bool) fun b => .done (w.t, [(.cbox 82 [(.sl 4 l), (i64 n), (tb b)])])])), (83048, (fun a => [.ex (Int) fun n => .done ((i64 n), [.dead])])), (132264, (fun a => [.ex (IfV) fun e => .ex (List T) fun l => .ex (Int) fun n => .ex (Bool) fun b => .done (e.v, [(.cbox 82 [(.sl 4 l), (i64 n), (tb b)]), .dead])]))] [] [] [(116, [0, 1, 5, 6])]
noncomputable abbrev B36 : Code := Tryz.f36.body.getD .skip
def L36_0 (least : Int) (left : IfV) (most : Int) (w : W_guard_parser) (R : T × List T) : Prop := CutL Tryz.prog Tryz.f36 B36 true [1, 1, 0, 1, 0, 0] (mkSt 58 [(0, (.ptr (0, 0) 0)), (1, (i64 least)), (5, left.v), (6, (i64 most))] [((0, 0), .box 82 [(.sl 4 w.fwords), (i64 w.fat), (tb w.fbad)])]) [(.ptr (0, 0) 0), .dead] R
set_option maxRecDepth 100000 in
theorem l36_0 (least : Int) (left : IfV) (most : Int) (w : W_guard_parser) (R : T × List T) (h : cond (!w.fbad)
  (∃ w1 : W_glyph_Word, ∃ l : List T, ∃ n : Int, ∃ b : Bool, (Rn 52 [(.cbox 82 [(.sl 4 w.fwords), (i64 w.fat), (tb w.fbad)])] (w1.t, [(.cbox 82 [(.sl 4 l), (i64 n), (tb b)])])) ∧
   (∃ n1 : Int, (Rn 33 [(st w1.fText)] ((i64 n1), [.dead])) ∧
    (cond (!(decide ((w1.fKind : Int) = 3)))
     (R = (left.v, [(.cbox 82 [(.sl 4 l), (i64 n), (tb b)]), .dead]))
     (cond (decide ((n1 : Int) < least))
      (R = (left.v, [(.cbox 82 [(.sl 4 l), (i64 n), (tb b)]), .dead]))
      (cond (decide ((most : Int) < n1))
       (R = (left.v, [(.cbox 82 [(.sl 4 l), (i64 n), (tb b)]), .dead]))
       (∃ e : IfV, ∃ l1 : List T, ∃ n2 : Int, ∃ b1 : Bool, (Rn 36 [(.cbox 82 [(.sl 4 l), (i64 (IntKind.wrap .i64 (n + 1))), (tb b)]), (i64 (IntKind.wrap .i64 (n1 + 1)))] (e.v, [(.cbox 82 [(.sl 4 l1), (i64 n2), (tb b1)]), .dead])) ∧
        (cond (decide ((n1 : Int) = 3))
         (L36_0 least ⟨43, (.agg [(st w1.fText), left.v, e.v])⟩ (IntKind.wrap .i64 (n1 - 1)) ⟨l1, n2, b1⟩ R)
         (L36_0 least ⟨43, (.agg [(st w1.fText), left.v, e.v])⟩ n1 ⟨l1, n2, b1⟩ R))))))))
  (R = (left.v, [(.cbox 82 [(.sl 4 w.fwords), (i64 w.fat), (tb w.fbad)]), .dead]))) : L36_0 least left most w R := by
  unfold L36_0
  refine cutL_rule (ann := A36) (mv := MV) mixed (by kernel_rfl) ?_
  all_goals revert h
  all_goals refine via ?_
  all_goals kernel_rfl
set_option maxRecDepth 100000 in
theorem f36 (l : List T) (n : Int) (b : Bool) (least : Int) (R : T × List T) (h : ∃ e : IfV, ∃ l1 : List T, ∃ n1 : Int, ∃ b1 : Bool, (Rn 51 [(.cbox 82 [(.sl 4 l), (i64 n), (tb b)])] (e.v, [(.cbox 82 [(.sl 4 l1), (i64 n1), (tb b1)])])) ∧
  (L36_0 least e 6 ⟨l1, n1, b1⟩ R)) : Rn 36 [(.cbox 82 [(.sl 4 l), (i64 n), (tb b)]), (i64 least)] R := by
  refine fn_rule (ann := A36) (mv := MV) (fz := true) mixed Tryz.func36 (c := B36) (by kernel_rfl) (by decide) ?_
  all_goals revert h
  all_goals refine via ?_
  all_goals kernel_rfl
/- tumbrel/tumbrelref04.Formed -/
noncomputable def A37 : Ann := mkAnn [(17448, (fun a => [.ex (Int) fun n => .done ((i64 n), [.dead])])), (17704, (fun a => [.ex (Int) fun n => .done ((i64 n), [.dead])])), (18024, (fun a => [.ex (Bool) fun b => .done ((tb b), [.dead])]))] [] [] []
noncomputable abbrev B37 : Code := Tryz.f37.body.getD .skip
set_option maxRecDepth 100000 in
theorem f37 (w : W_tumbrelref04_Node) (R : T × List T) (h : ∃ n : Int, (Rn 53 [w.t] ((i64 n), [.dead])) ∧
  (cond (decide ((n : Int) ≤ 40))
   (∃ n1 : Int, (Rn 54 [w.t] ((i64 n1), [.dead])) ∧
    (cond (decide ((n1 : Int) ≤ 12))
     (∃ b : Bool, (Rn 55 [w.t] ((tb b), [.dead])) ∧
      (R = ((tb b), [.dead])))
     (R = ((tb false), [.dead]))))
   (R = ((tb false), [.dead])))) : Rn 37 [w.t] R := by
  refine fn_rule (ann := A37) (mv := MV) (fz := true) mixed Tryz.func37 (c := B37) (by kernel_rfl) (by decide) ?_
  all_goals revert h
  all_goals refine via ?_
  all_goals kernel_rfl
/- tumbrel/tumbrelref04.plain -/
noncomputable def A38 : Ann := mkAnn [(17768, (fun a => [.ex (Bool) fun b => .done ((tb b), [.dead])])), (99624, (fun a => [.ex (Bool) fun b => .done ((tb b), [.dead])]))] [(99496, [.ex W_tumbrelref04_Node fun w => .done w.t])] [] [(116, [1, 14, 15])]
noncomputable abbrev B38 : Code := Tryz.f38.body.getD .skip
def L38_0 (n : Int) (n1 : Int) (w : W_tumbrelref04_Node) (R : T × List T) : Prop := CutL Tryz.prog Tryz.f38 B38 true [1, 1, 0, 1, 0, 0] (mkSt 26 [(1, (.ptr (1000000002, 0) 0)), (14, (i64 n)), (15, (i64 n1))] [((1000000002, 0), .box 24 [(i64 w.fKind), (i64 w.fN), (st w.fS), (.sl 4 w.fParts)])]) [.dead] R
set_option maxRecDepth 100000 in
theorem l38_0 (n : Int) (n1 : Int) (w : W_tumbrelref04_Node) (R : T × List T) (h : cond (decide ((n1 : Int) < n))
  (∃ w1 : W_tumbrelref04_Node, ((0 : Int) ≤ n1 ∧ w.fParts[(Int.toNat n1)]? = some w1.t) ∧
   (∃ b : Bool, (Rn 38 [w1.t] ((tb b), [.dead])) ∧
    (cond (!b)
     (R = ((tb false), [.dead]))
     (L38_0 n (IntKind.wrap .i64 (n1 + 1)) w R))))
  (R = ((tb true), [.dead]))) : L38_0 n n1 w R := by
  unfold L38_0
  refine cutL_rule (ann := A38) (mv := MV) mixed (by kernel_rfl) ?_
  all_goals revert h
  all_goals refine via ?_
  all_goals kernel_rfl
set_option maxRecDepth 100000 in
theorem f38 (w : W_tumbrelref04_Node) (R : T × List T) (h : cond (decide ((w.fKind : Int) = 2))
  (∃ b : Bool, (Rn 16 [(st w.fS)] ((tb b), [.dead])) ∧
   (cond b
    (R = ((tb false), [.dead]))
    (L38_0 (((List.length w.fParts) : Nat) : Int) 0 w R)))
  (L38_0 (((List.length w.fParts) : Nat) : Int) 0 w R)) : Rn 38 [w.t] R := by
  refine fn_rule (ann := A38) (mv := MV) (fz := true) mixed Tryz.func38 (c := B38) (by kernel_rfl) (by decide) ?_
  all_goals revert h
  all_goals refine via ?_
  all_goals kernel_rfl
/- tumbrel/tumbrelref04.around -/
noncomputable def A39 : Ann := mkAnn [(17448, (fun a => [.ex (Int) fun n => .done ((i64 n), [.dead])])), (33832, (fun a => [.ex (ByteArray) fun s => .done ((st s), [.dead])])), (50216, (fun a => [.ex (ByteArray) fun s => .done ((st s), [.dead])]))] [] [] []
noncomputable abbrev B39 : Code := Tryz.f39.body.getD .skip
set_option maxRecDepth 100000 in
theorem f39 (w : W_tumbrelref04_Node) (least : Int) (R : T × List T) (h : ∃ n : Int, (Rn 56 [w.t] ((i64 n), [.dead])) ∧
  (cond (decide ((n : Int) < least))
   (∃ s : ByteArray, (Rn 26 [w.t] ((st s), [.dead])) ∧
    ((((ByteArray.size (bs [40]) + ByteArray.size s : Nat) : Int) ≤ 9223372036854775807) ∧
     ((((ByteArray.size ((bs [40]) ++ s) + ByteArray.size (bs [41]) : Nat) : Int) ≤ 9223372036854775807) ∧
      (R = ((st (((bs [40]) ++ s) ++ (bs [41]))), [.dead, .dead])))))
   (∃ s1 : ByteArray, (Rn 26 [w.t] ((st s1), [.dead])) ∧
    (R = ((st s1), [.dead, .dead]))))) : Rn 39 [w.t, (i64 least)] R := by
  refine fn_rule (ann := A39) (mv := MV) (fz := true) mixed Tryz.func39 (c := B39) (by kernel_rfl) (by decide) ?_
  all_goals revert h
  all_goals refine via ?_
  all_goals kernel_rfl
/- tumbrel/tumbrelref04.level -/
noncomputable def A40 : Ann := mkAnn [] [] [] []
noncomputable abbrev B40 : Code := Tryz.f40.body.getD .skip
set_option maxRecDepth 100000 in
theorem f40 (s : ByteArray) (R : T × List T) (h : cond (decide (s = (bs [124, 124])))
  (R = ((i64 1), [.dead]))
  (cond (decide (s = (bs [38, 38])))
   (R = ((i64 2), [.dead]))
   (cond (decide (s = (bs [60])))
    (R = ((i64 3), [.dead]))
    (cond (decide (s = (bs [60, 61])))
     (R = ((i64 3), [.dead]))
     (cond (decide (s = (bs [61, 61])))
      (R = ((i64 3), [.dead]))
      (cond (decide (s = (bs [33, 61])))
       (R = ((i64 3), [.dead]))
       (cond (decide (s = (bs [43])))
        (R = ((i64 4), [.dead]))
        (cond (decide (s = (bs [45])))
         (R = ((i64 4), [.dead]))
         (cond (decide (s = (bs [42])))
          (R = ((i64 5), [.dead]))
          (R = ((i64 0), [.dead]))))))))))) : Rn 40 [(st s)] R := by
  refine fn_rule (ann := A40) (mv := MV) (fz := true) mixed Tryz.func40 (c := B40) (by kernel_rfl) (by decide) ?_
  all_goals revert h
  all_goals refine via ?_
  all_goals kernel_rfl
/- slices.Index[[]string,string] -/
noncomputable def A41 : Ann := mkAnn [] [(66728, [.ex ByteArray fun w => .done (st w)])] [] [(52, [0, 1, 7, 8])]
noncomputable abbrev B41 : Code := Tryz.f41.body.getD .skip
def L41_0 (s : List T) (s1 : ByteArray) (n : Int) (n1 : Int) (R : T × List T) : Prop := CutL Tryz.prog Tryz.f41 B41 true [1, 0, 1, 0, 0] (mkSt 19 [(0, (.sl 1 s)), (1, (st s1)), (7, (i64 n)), (8, (i64 n1))] []) [.dead, .dead] R
set_option maxRecDepth 100000 in
theorem l41_0 (s : List T) (s1 : ByteArray) (n : Int) (n1 : Int) (R : T × List T) (h : cond (decide ((n1 : Int) < n))
  (∃ s2 : ByteArray, ((0 : Int) ≤ n1 ∧ s[(Int.toNat n1)]? = some (st s2)) ∧
   (cond (decide (s1 = s2))
    (R = ((i64 n1), [.dead, .dead]))
    (L41_0 s s1 n (IntKind.wrap .i64 (n1 + 1)) R)))
  (R = ((i64 (-1)), [.dead, .dead]))) : L41_0 s s1 n n1 R := by
  unfold L41_0
  refine cutL_rule (ann := A41) (mv := MV) mixed (by kernel_rfl) ?_
  all_goals revert h
  all_goals refine via ?_
  all_goals kernel_rfl
set_option maxRecDepth 100000 in
theorem f41 (s : List T) (s1 : ByteArray) (R : T × List T) (h : L41_0 s s1 (((List.length s) : Nat) : Int) 0 R) : Rn 41 [(.sl 1 s), (st s1)] R := by
  refine fn_rule (ann := A41) (mv := MV) (fz := true) mixed Tryz.func41 (c := B41) (by kernel_rfl) (by decide) ?_
  all_goals revert h
  all_goals refine via ?_
  all_goals kernel_rfl
/- tumbrel/expr.Nodes -/
noncomputable def A42 : Ann := mkAnn [(17448, (fun a => [.ex (Int) fun n => .done ((i64 n), [.dead, .dead])]))] [] [] []
noncomputable abbrev B42 : Code := Tryz.f42.body.getD .skip
set_option maxRecDepth 100000 in
theorem f42 (e : IfV) (R : T × List T) (h : ∃ n : Int, (Rn 57 [e.v, (i64 40)] ((i64 n), [.dead, .dead])) ∧
  (R = ((i64 (if (41 : Int) < n then 41 else n)), [.dead]))) : Rn 42 [e.v] R := by
  refine fn_rule (ann := A42) (mv := MV) (fz := true) mixed Tryz.func42 (c := B42) (by kernel_rfl) (by decide) ?_
  all_goals revert h
  all_goals refine via ?_
  all_goals kernel_rfl
/- tumbrel/expr.sound -/
noncomputable def A43 : Ann := mkAnn [(99624, (fun a => [.ex (Bool) fun b => .done ((tb b), [.dead])])), (132200, (fun a => [.ex (List T) fun l => .done ((.sl 1 l), [])])), (132392, (fun a => [.ex (Bool) fun b => .done ((tb b), [.dead, .dead])])), (164904, (fun a => [.ex (List T) fun l => .done ((.sl 1 l), [.dead])])), (181864, (fun a => [.ex (Bool) fun b => .ex (Int) fun n => .done ((tb b), [.dead, (.fn (.func 61) [] [(.cbox 3 [(i64 n)])])])]))] [(17448, [.ex W_expr_Lit fun w => .done w.t]), (66600, [.ex W_expr_Ref fun w => .done w.t]), (115752, [.ex W_expr_Bin fun w => .done w.t])] [] []
noncomputable abbrev B43 : Code := Tryz.f43.body.getD .skip
set_option maxRecDepth 100000 in
theorem f43 (e : IfV) (nest : Int) (R : T × List T) (h : cond (Nat.beq e.t 41)
  (∃ w : W_expr_Lit, (e.x = w.t) ∧
   (cond (decide ((0 : Int) < nest))
    (cond (decide ((0 : Int) ≤ w.fN))
     (R = ((tb (decide ((w.fN : Int) ≤ 1000000000))), [.dead, .dead]))
     (R = ((tb false), [.dead, .dead])))
    (R = ((tb false), [.dead, .dead]))))
  (cond (Nat.beq e.t 49)
   (∃ w1 : W_expr_Ref, (e.x = w1.t) ∧
    (cond (decide ((0 : Int) < nest))
     (∃ b : Bool, (Rn 58 [(st w1.fName)] ((tb b), [.dead])) ∧
      (R = ((tb b), [.dead, .dead])))
     (R = ((tb false), [.dead, .dead]))))
   (cond (Nat.beq e.t 43)
    (∃ w2 : W_expr_Bin, (e.x = w2.t) ∧
     (∃ l : List T, (Rn 59 [] ((.sl 1 l), [])) ∧
      (∃ b1 : Bool, (Rn 27 [(.sl 1 l), (st w2.fOp)] ((tb b1), [.dead, .dead])) ∧
       (cond (!b1)
        (R = ((tb false), [.dead, .dead]))
        (∃ l1 : List T, (Rn 23 [e.v] ((.sl 1 l1), [.dead])) ∧
         (cond (decide ((0 : Int) < nest))
          (cond (decide ((0 : Int) < (((List.length l1) : Nat) : Int)))
           (∃ b2 : Bool, ∃ n : Int, (Rn 60 [(.sl 1 l1), (.fn (.func 61) [] [(.cbox 3 [(i64 nest)])])] ((tb b2), [.dead, (.fn (.func 61) [] [(.cbox 3 [(i64 n)])])])) ∧
            (R = ((tb (!b2)), [.dead, .dead])))
           (R = ((tb false), [.dead, .dead])))
          (R = ((tb false), [.dead, .dead]))))))))
    (∃ l2 : List T, (Rn 23 [e.v] ((.sl 1 l2), [.dead])) ∧
     (cond (decide ((0 : Int) < nest))
      (cond (decide ((0 : Int) < (((List.length l2) : Nat) : Int)))
       (∃ b3 : Bool, ∃ n1 : Int, (Rn 60 [(.sl 1 l2), (.fn (.func 61) [] [(.cbox 3 [(i64 nest)])])] ((tb b3), [.dead, (.fn (.func 61) [] [(.cbox 3 [(i64 n1)])])])) ∧
        (R = ((tb (!b3)), [.dead, .dead])))
       (R = ((tb false), [.dead, .dead])))
      (R = ((tb false), [.dead, .dead]))))))) : Rn 43 [e.v, (i64 nest)] R := by
  refine fn_rule (ann := A43) (mv := MV) (fz := true) mixed Tryz.func43 (c := B43) (by kernel_rfl) (by decide) ?_
  all_goals revert h
  all_goals refine via ?_
  all_goals kernel_rfl
/- slices.IndexFunc[[]string,string] -/
noncomputable def A44 : Ann := mkAnn [(66856, (fun a => [.ex (Bool) fun b => .done ((tb b), [.dead])]))] [(66728, [.ex ByteArray fun w => .done (st w)])] [] [(52, [0, 1, 7, 8])]
noncomputable abbrev B44 : Code := Tryz.f44.body.getD .skip
def L44_0 (s : List T) (n : Int) (n1 : Int) (R : T × List T) : Prop := CutL Tryz.prog Tryz.f44 B44 true [1, 0, 1, 0, 0] (mkSt 19 [(0, (.sl 1 s)), (1, (.s (.func (.func 15) #[] #[]))), (7, (i64 n)), (8, (i64 n1))] []) [.dead, .dead] R
set_option maxRecDepth 100000 in
theorem l44_0 (s : List T) (n : Int) (n1 : Int) (R : T × List T) (h : cond (decide ((n1 : Int) < n))
  (∃ s1 : ByteArray, ((0 : Int) ≤ n1 ∧ s[(Int.toNat n1)]? = some (st s1)) ∧
   (∃ b : Bool, (Rn 15 [(st s1)] ((tb b), [.dead])) ∧
    (cond b
     (R = ((i64 n1), [.dead, .dead]))
     (L44_0 s n (IntKind.wrap .i64 (n1 + 1)) R))))
  (R = ((i64 (-1)), [.dead, .dead]))) : L44_0 s n n1 R := by
  unfold L44_0
  refine cutL_rule (ann := A44) (mv := MV) mixed (by kernel_rfl) ?_
  all_goals revert h
  all_goals refine via ?_
  all_goals kernel_rfl
set_option maxRecDepth 100000 in
theorem f44 (s : List T) (R : T × List T) (h : L44_0 s (((List.length s) : Nat) : Int) 0 R) : Rn 44 [(.sl 1 s), (.s (.func (.func 15) #[] #[]))] R := by
  refine fn_rule (ann := A44) (mv := MV) (fz := true) mixed Tryz.func44 (c := B44) (by kernel_rfl) (by decide) ?_
  all_goals revert h
  all_goals refine via ?_
  all_goals kernel_rfl
/- tumbrel/guard.strength -/
noncomputable def A49 : Ann := mkAnn [(50280, (fun a => [.ex (Int) fun n => .done ((i64 n), [.dead])]))] [(17448, [.ex W_expr_Bin fun w => .done w.t])] [] []
noncomputable abbrev B49 : Code := Tryz.f49.body.getD .skip
set_option maxRecDepth 100000 in
theorem f49 (e : IfV) (R : T × List T) (h : cond (Nat.beq e.t 43)
  (∃ w : W_expr_Bin, (e.x = w.t) ∧
   (∃ n : Int, (Rn 33 [(st w.fOp)] ((i64 n), [.dead])) ∧
    (R = ((i64 n), [.dead]))))
  (R = ((i64 6), [.dead]))) : Rn 49 [e.v] R := by
  refine fn_rule (ann := A49) (mv := MV) (fz := true) mixed Tryz.func49 (c := B49) (by kernel_rfl) (by decide) ?_
  all_goals revert h
  all_goals refine via ?_
  all_goals kernel_rfl
/- (*tumbrel/glyph.lexer).word -/
noncomputable def A50 : Ann := mkAnn [(33832, (fun a => [.ex (Bool) fun b => .done ((tb b), [.dead])])), (50344, (fun a => [.ex (Int) fun n => .done ((i64 n), [(a.getD 0 .dead), .dead])])), (66984, (fun a => [.ex (Bool) fun b => .done ((tb b), [.dead])])), (82984, (fun a => [.ex (Bool) fun b => .done ((tb b), [.dead])])), (99496, (fun a => [.ex (Int) fun n => .done ((i64 n), [(a.getD 0 .dead), .dead])])), (116136, (fun a => [.ex (Bool) fun b => .done ((tb b), [.dead])])), (181352, (fun a => [.ex (Bool) fun b => .done ((tb b), [.dead, .dead])]))] [(164904, [.ex ByteArray fun w => .done (st w)])] [] [(244, [0, 6, 8, 51, 52, 53])]
noncomputable abbrev B50 : Code := Tryz.f50.body.getD .skip
def L50_0 (rest : ByteArray) (n : Int) (n1 : Int) (s : ByteArray) (l : List T) (n2 : Int) (b : Bool) (n3 : Int) (n4 : Int) (w : W_glyph_Word) (l1 : List T) (R : T × List T) : Prop := CutL Tryz.prog Tryz.f50 B50 true [1, 1, 1, 0, 1, 0, 0] (mkSt 68 [(0, (.ptr (0, 0) 0)), (6, (.ptr (1000000007, 0) 0)), (8, (st rest)), (51, (.own (1000000052, 0))), (52, (i64 n)), (53, (i64 n1))] (([((0, 0), .box 77 [(st s), (mnT (1, 0) l), (i64 n2), (tb b), (i64 n3), (i64 n4)]), ((1000000007, 0), .box 98 [(i64 w.fKind), (st w.fText), (i64 w.fAt_Line), (i64 w.fAt_Col)]), ((1000000052, 0), .arr 9 1 l1)] ++ mnH (1, 0) 98 4 l))) [(.ptr (0, 0) 0), .dead, .dead] R
set_option maxRecDepth 100000 in
theorem l50_0 (rest : ByteArray) (n : Int) (n1 : Int) (s : ByteArray) (l : List T) (n2 : Int) (b : Bool) (n3 : Int) (n4 : Int) (w : W_glyph_Word) (l1 : List T) (R : T × List T) (h : cond (decide ((n1 : Int) < n))
  (((0 : Int) ≤ n1 ∧ n1 < (((List.length l1) : Nat) : Int)) ∧
   (∃ s1 : ByteArray, (l1[(Int.toNat n1)]? = some (st s1)) ∧
    (∃ b1 : Bool, (Rn 73 [(st rest), (st s1)] ((tb b1), [.dead, .dead])) ∧
     (cond b1
      (R = ((.tup [(.agg [(i64 3), (st s1), (i64 n3), (i64 n4)]), (tb true)]), [(.cbox 77 [(st s), (mnC 98 4 l), (i64 n2), (tb b), (i64 n3), (i64 n4)]), .dead, .dead]))
      (L50_0 rest n (IntKind.wrap .i64 (n1 + 1)) s l n2 b n3 n4 w l1 R)))))
  (R = ((.tup [(.agg [(i64 0), (st (bs [])), (i64 0), (i64 0)]), (tb false)]), [(.cbox 77 [(st s), (mnC 98 4 l), (i64 n2), (tb b), (i64 n3), (i64 n4)]), .dead, .dead]))) : L50_0 rest n n1 s l n2 b n3 n4 w l1 R := by
  unfold L50_0
  refine cutL_rule (ann := A50) (mv := MV) mixed (by kernel_rfl) ?_
  all_goals rcases l with _ | ⟨_, _⟩
  all_goals revert h
  all_goals refine via ?_
  all_goals kernel_rfl
set_option maxRecDepth 100000 in
theorem f50 (s : ByteArray) (l : List T) (n : Int) (b : Bool) (n1 : Int) (n2 : Int) (i : Int) (n3 : Int) (R : T × List T) (h : ((0 : Int) ≤ i ∧ i ≤ (((ByteArray.size s) : Nat) : Int)) ∧
  (∃ b1 : Bool, (Rn 69 [(i32 n3)] ((tb b1), [.dead])) ∧
   (cond b1
    (∃ n4 : Int, (Rn 70 [(.cbox 77 [(st s), (mnC 98 4 l), (i64 n), (tb b), (i64 n1), (i64 n2)]), (i64 i)] ((i64 n4), [(.cbox 77 [(st s), (mnC 98 4 l), (i64 n), (tb b), (i64 n1), (i64 n2)]), .dead])) ∧
     (((0 : Int) ≤ n4 ∧ n4 ≤ (((ByteArray.size (ByteArray.extract s (Int.toNat i) (ByteArray.size s))) : Nat) : Int)) ∧
      (∃ b2 : Bool, (Rn 58 [(st (ByteArray.extract (ByteArray.extract s (Int.toNat i) (ByteArray.size s)) 0 (Int.toNat n4)))] ((tb b2), [.dead])) ∧
       (R = ((.tup [(.agg [(i64 1), (st (ByteArray.extract (ByteArray.extract s (Int.toNat i) (ByteArray.size s)) 0 (Int.toNat n4))), (i64 n1), (i64 n2)]), (tb b2)]), [(.cbox 77 [(st s), (mnC 98 4 l), (i64 n), (tb b), (i64 n1), (i64 n2)]), .dead, .dead])))))
    (∃ b3 : Bool, (Rn 71 [(i32 n3)] ((tb b3), [.dead])) ∧
     (cond b3
      (∃ n5 : Int, (Rn 70 [(.cbox 77 [(st s), (mnC 98 4 l), (i64 n), (tb b), (i64 n1), (i64 n2)]), (i64 i)] ((i64 n5), [(.cbox 77 [(st s), (mnC 98 4 l), (i64 n), (tb b), (i64 n1), (i64 n2)]), .dead])) ∧
       (((0 : Int) ≤ n5 ∧ n5 ≤ (((ByteArray.size (ByteArray.extract s (Int.toNat i) (ByteArray.size s))) : Nat) : Int)) ∧
        (∃ b4 : Bool, (Rn 72 [(st (ByteArray.extract (ByteArray.extract s (Int.toNat i) (ByteArray.size s)) 0 (Int.toNat n5)))] ((tb b4), [.dead])) ∧
         (R = ((.tup [(.agg [(i64 2), (st (ByteArray.extract (ByteArray.extract s (Int.toNat i) (ByteArray.size s)) 0 (Int.toNat n5))), (i64 n1), (i64 n2)]), (tb b4)]), [(.cbox 77 [(st s), (mnC 98 4 l), (i64 n), (tb b), (i64 n1), (i64 n2)]), .dead, .dead])))))
      (L50_0 ((ByteArray.extract s (Int.toNat i) (ByteArray.size s))) 15 0 s l n b n1 n2 ⟨0, (bs []), 0, 0⟩ ([(st (bs [61, 61])), (st (bs [33, 61])), (st (bs [60, 61])), (st (bs [38, 38])), (st (bs [124, 124])), (st (bs [123])), (st (bs [125])), (st (bs [40])), (st (bs [41])), (st (bs [61])), (st (bs [33])), (st (bs [60])), (st (bs [43])), (st (bs [45])), (st (bs [42]))] : List T) R)))))) : Rn 50 [(.cbox 77 [(st s), (mnC 98 4 l), (i64 n), (tb b), (i64 n1), (i64 n2)]), (i64 i), (i32 n3)] R := by
  refine fn_rule (ann := A50) (mv := MV) (fz := true) mixed Tryz.func50 (c := B50) (by kernel_rfl) (by decide) ?_
  all_goals rcases l with _ | ⟨_, _⟩
  all_goals revert h
  all_goals refine via ?_
  all_goals kernel_rfl
/- (*tumbrel/guard.parser).single -/
noncomputable def A51 : Ann := mkAnn [(17448, (fun a => [.ex (W_glyph_Word) fun w => .ex (List T) fun l => .ex (Int) fun n => .ex (Bool) fun b => .done (w.t, [(.cbox 82 [(.sl 4 l), (i64 n), (tb b)])])])), (115816, (fun a => [.ex (Int) fun n => .ex (IfV) fun e => .done ((.tup [(i64 n), e.v]), [.dead, .dead, .dead])])), (148840, (fun a => [.ex (Bool) fun b => .done ((tb b), [.dead])])), (197672, (fun a => [.ex (IfV) fun e => .ex (List T) fun l => .ex (Int) fun n => .ex (Bool) fun b => .done (e.v, [(.cbox 82 [(.sl 4 l), (i64 n), (tb b)])])])), (230440, (fun a => [.ex (IfV) fun e => .ex (List T) fun l => .ex (Int) fun n => .ex (Bool) fun b => .done (e.v, [(.cbox 82 [(.sl 4 l), (i64 n), (tb b)])])])), (263208, (fun a => [.ex (IfV) fun e => .ex (List T) fun l => .ex (Int) fun n => .ex (Bool) fun b => .done (e.v, [(.cbox 82 [(.sl 4 l), (i64 n), (tb b)]), .dead])])), (279976, (fun a => [.ex (W_glyph_Word) fun w => .ex (List T) fun l => .ex (Int) fun n => .ex (Bool) fun b => .done (w.t, [(.cbox 82 [(.sl 4 l), (i64 n), (tb b)])])]))] [] [] []
noncomputable abbrev B51 : Code := Tryz.f51.body.getD .skip
set_option maxRecDepth 100000 in
theorem f51 (l : List T) (n : Int) (b : Bool) (R : T × List T) (h : ∃ w : W_glyph_Word, ∃ l1 : List T, ∃ n1 : Int, ∃ b1 : Bool, (Rn 52 [(.cbox 82 [(.sl 4 l), (i64 n), (tb b)])] (w.t, [(.cbox 82 [(.sl 4 l1), (i64 n1), (tb b1)])])) ∧
  (cond (decide ((w.fKind : Int) = 0))
   (R = ((.ifc 0 .dead), [(.cbox 82 [(.sl 4 l1), (i64 n1), (tb true)])]))
   (cond b1
    (R = ((.ifc 0 .dead), [(.cbox 82 [(.sl 4 l1), (i64 n1), (tb true)])]))
    (cond (decide ((w.fKind : Int) = 2))
     (∃ n2 : Int, ∃ e : IfV, (Rn 74 [(st w.fText), (i64 10), (i64 64)] ((.tup [(i64 n2), e.v]), [.dead, .dead, .dead])) ∧
      (R = ((.ifc 41 (.agg [(i64 n2)])), [(.cbox 82 [(.sl 4 l1), (i64 (IntKind.wrap .i64 (n1 + 1))), (tb b1)])])))
     (cond (decide ((w.fKind : Int) = 1))
      (∃ b2 : Bool, (Rn 15 [(st w.fText)] ((tb b2), [.dead])) ∧
       (cond (!b2)
        (R = ((.ifc 49 (.agg [(st w.fText)])), [(.cbox 82 [(.sl 4 l1), (i64 (IntKind.wrap .i64 (n1 + 1))), (tb b1)])]))
        (cond (decide (w.fText = (bs [33])))
         (∃ e1 : IfV, ∃ l2 : List T, ∃ n3 : Int, ∃ b3 : Bool, (Rn 51 [(.cbox 82 [(.sl 4 l1), (i64 (IntKind.wrap .i64 (n1 + 1))), (tb b1)])] (e1.v, [(.cbox 82 [(.sl 4 l2), (i64 n3), (tb b3)])])) ∧
          (R = ((.ifc 51 (.agg [e1.v])), [(.cbox 82 [(.sl 4 l2), (i64 n3), (tb b3)])])))
         (cond (decide (w.fText = (bs [45])))
          (∃ e2 : IfV, ∃ l3 : List T, ∃ n4 : Int, ∃ b4 : Bool, (Rn 51 [(.cbox 82 [(.sl 4 l1), (i64 (IntKind.wrap .i64 (n1 + 1))), (tb b1)])] (e2.v, [(.cbox 82 [(.sl 4 l3), (i64 n4), (tb b4)])])) ∧
           (R = ((.ifc 52 (.agg [e2.v])), [(.cbox 82 [(.sl 4 l3), (i64 n4), (tb b4)])])))
          (cond (decide (w.fText = (bs [40])))
           (∃ e3 : IfV, ∃ l4 : List T, ∃ n5 : Int, ∃ b5 : Bool, (Rn 36 [(.cbox 82 [(.sl 4 l1), (i64 (IntKind.wrap .i64 (n1 + 1))), (tb b1)]), (i64 1)] (e3.v, [(.cbox 82 [(.sl 4 l4), (i64 n5), (tb b5)]), .dead])) ∧
            (cond (!b5)
             (∃ w1 : W_glyph_Word, ∃ l5 : List T, ∃ n6 : Int, ∃ b6 : Bool, (Rn 52 [(.cbox 82 [(.sl 4 l4), (i64 n5), (tb b5)])] (w1.t, [(.cbox 82 [(.sl 4 l5), (i64 n6), (tb b6)])])) ∧
              (cond (decide (w1.fText = (bs [41])))
               (R = (e3.v, [(.cbox 82 [(.sl 4 l5), (i64 (IntKind.wrap .i64 (n6 + 1))), (tb b6)])]))
               (R = ((.ifc 0 .dead), [(.cbox 82 [(.sl 4 l5), (i64 n6), (tb true)])]))))
             (R = ((.ifc 0 .dead), [(.cbox 82 [(.sl 4 l4), (i64 n5), (tb true)])]))))
           (R = ((.ifc 0 .dead), [(.cbox 82 [(.sl 4 l1), (i64 (IntKind.wrap .i64 ((IntKind.wrap .i64 (n1 + 1)) - 1))), (tb true)])])))))))
      (cond (decide (w.fText = (bs [33])))
       (∃ e4 : IfV, ∃ l6 : List T, ∃ n7 : Int, ∃ b7 : Bool, (Rn 51 [(.cbox 82 [(.sl 4 l1), (i64 (IntKind.wrap .i64 (n1 + 1))), (tb b1)])] (e4.v, [(.cbox 82 [(.sl 4 l6), (i64 n7), (tb b7)])])) ∧
        (R = ((.ifc 51 (.agg [e4.v])), [(.cbox 82 [(.sl 4 l6), (i64 n7), (tb b7)])])))
       (cond (decide (w.fText = (bs [45])))
        (∃ e5 : IfV, ∃ l7 : List T, ∃ n8 : Int, ∃ b8 : Bool, (Rn 51 [(.cbox 82 [(.sl 4 l1), (i64 (IntKind.wrap .i64 (n1 + 1))), (tb b1)])] (e5.v, [(.cbox 82 [(.sl 4 l7), (i64 n8), (tb b8)])])) ∧
         (R = ((.ifc 52 (.agg [e5.v])), [(.cbox 82 [(.sl 4 l7), (i64 n8), (tb b8)])])))
        (cond (decide (w.fText = (bs [40])))
         (∃ e6 : IfV, ∃ l8 : List T, ∃ n9 : Int, ∃ b9 : Bool, (Rn 36 [(.cbox 82 [(.sl 4 l1), (i64 (IntKind.wrap .i64 (n1 + 1))), (tb b1)]), (i64 1)] (e6.v, [(.cbox 82 [(.sl 4 l8), (i64 n9), (tb b9)]), .dead])) ∧
          (cond (!b9)
           (∃ w2 : W_glyph_Word, ∃ l9 : List T, ∃ n10 : Int, ∃ b10 : Bool, (Rn 52 [(.cbox 82 [(.sl 4 l8), (i64 n9), (tb b9)])] (w2.t, [(.cbox 82 [(.sl 4 l9), (i64 n10), (tb b10)])])) ∧
            (cond (decide (w2.fText = (bs [41])))
             (R = (e6.v, [(.cbox 82 [(.sl 4 l9), (i64 (IntKind.wrap .i64 (n10 + 1))), (tb b10)])]))
             (R = ((.ifc 0 .dead), [(.cbox 82 [(.sl 4 l9), (i64 n10), (tb true)])]))))
           (R = ((.ifc 0 .dead), [(.cbox 82 [(.sl 4 l8), (i64 n9), (tb true)])]))))
         (R = ((.ifc 0 .dead), [(.cbox 82 [(.sl 4 l1), (i64 (IntKind.wrap .i64 ((IntKind.wrap .i64 (n1 + 1)) - 1))), (tb true)])])))))))))) : Rn 51 [(.cbox 82 [(.sl 4 l), (i64 n), (tb b)])] R := by
  refine fn_rule (ann := A51) (mv := MV) (fz := true) mixed Tryz.func51 (c := B51) (by kernel_rfl) (by decide) ?_
  all_goals revert h
  all_goals refine via ?_
  all_goals kernel_rfl
/- (*tumbrel/guard.parser).peek -/
noncomputable def A52 : Ann := mkAnn [] [(34280, [.ex W_glyph_Word fun w => .done w.t])] [] []
noncomputable abbrev B52 : Code := Tryz.f52.body.getD .skip
set_option maxRecDepth 100000 in
theorem f52 (l : List T) (n : Int) (b : Bool) (R : T × List T) (h : cond (decide ((n : Int) < (((List.length l) : Nat) : Int)))
  (∃ w : W_glyph_Word, ((0 : Int) ≤ n ∧ l[(Int.toNat n)]? = some w.t) ∧
   (R = (w.t, [(.cbox 82 [(.sl 4 l), (i64 n), (tb b)])])))
  (R = ((.agg [(i64 0), (st (bs [])), (i64 0), (i64 0)]), [(.cbox 82 [(.sl 4 l), (i64 n), (tb b)])]))) : Rn 52 [(.cbox 82 [(.sl 4 l), (i64 n), (tb b)])] R := by
  refine fn_rule (ann := A52) (mv := MV) (fz := true) mixed Tryz.func52 (c := B52) (by kernel_rfl) (by decide) ?_
  all_goals revert h
  all_goals refine via ?_
  all_goals kernel_rfl
/- tumbrel/tumbrelref04.Nodes -/
noncomputable def A53 : Ann := mkAnn [(83304, (fun a => [.ex (Int) fun n => .done ((i64 n), [.dead])]))] [(83176, [.ex W_tumbrelref04_Node fun w => .done w.t])] [] [(116, [1, 3, 7, 8])]
noncomputable abbrev B53 : Code := Tryz.f53.body.getD .skip
def L53_0 (n : Int) (n1 : Int) (n2 : Int) (w : W_tumbrelref04_Node) (R : T × List T) : Prop := CutL Tryz.prog Tryz.f53 B53 true [1, 1, 0, 1, 0, 0] (mkSt 22 [(1, (.ptr (1000000002, 0) 0)), (3, (i64 n)), (7, (i64 n1)), (8, (i64 n2))] [((1000000002, 0), .box 24 [(i64 w.fKind), (i64 w.fN), (st w.fS), (.sl 4 w.fParts)])]) [.dead] R
set_option maxRecDepth 100000 in
theorem l53_0 (n : Int) (n1 : Int) (n2 : Int) (w : W_tumbrelref04_Node) (R : T × List T) (h : cond (decide ((n2 : Int) < n1))
  (∃ w1 : W_tumbrelref04_Node, ((0 : Int) ≤ n2 ∧ w.fParts[(Int.toNat n2)]? = some w1.t) ∧
   (∃ n3 : Int, (Rn 53 [w1.t] ((i64 n3), [.dead])) ∧
    (L53_0 (IntKind.wrap .i64 (n + n3)) n1 (IntKind.wrap .i64 (n2 + 1)) w R)))
  (R = ((i64 (if (41 : Int) < n then 41 else n)), [.dead]))) : L53_0 n n1 n2 w R := by
  unfold L53_0
  refine cutL_rule (ann := A53) (mv := MV) mixed (by kernel_rfl) ?_
  all_goals revert h
  all_goals refine via ?_
  all_goals kernel_rfl
set_option maxRecDepth 100000 in
theorem f53 (w : W_tumbrelref04_Node) (R : T × List T) (h : L53_0 1 (((List.length w.fParts) : Nat) : Int) 0 w R) : Rn 53 [w.t] R := by
  refine fn_rule (ann := A53) (mv := MV) (fz := true) mixed Tryz.func53 (c := B53) (by kernel_rfl) (by decide) ?_
  all_goals revert h
  all_goals refine via ?_
  all_goals kernel_rfl
/- tumbrel/tumbrelref04.deep -/
noncomputable def A54 : Ann := mkAnn [(83304, (fun a => [.ex (Int) fun n => .done ((i64 n), [.dead])]))] [(83176, [.ex W_tumbrelref04_Node fun w => .done w.t])] [] [(116, [1, 3, 7, 8])]
noncomputable abbrev B54 : Code := Tryz.f54.body.getD .skip
def L54_0 (n : Int) (n1 : Int) (n2 : Int) (w : W_tumbrelref04_Node) (R : T × List T) : Prop := CutL Tryz.prog Tryz.f54 B54 true [1, 1, 0, 1, 0, 0] (mkSt 22 [(1, (.ptr (1000000002, 0) 0)), (3, (i64 n)), (7, (i64 n1)), (8, (i64 n2))] [((1000000002, 0), .box 24 [(i64 w.fKind), (i64 w.fN), (st w.fS), (.sl 4 w.fParts)])]) [.dead] R
set_option maxRecDepth 100000 in
theorem l54_0 (n : Int) (n1 : Int) (n2 : Int) (w : W_tumbrelref04_Node) (R : T × List T) (h : cond (decide ((n2 : Int) < n1))
  (∃ w1 : W_tumbrelref04_Node, ((0 : Int) ≤ n2 ∧ w.fParts[(Int.toNat n2)]? = some w1.t) ∧
   (∃ n3 : Int, (Rn 54 [w1.t] ((i64 n3), [.dead])) ∧
    (L54_0 (if (n : Int) < n3 then n3 else n) n1 (IntKind.wrap .i64 (n2 + 1)) w R)))
  (R = ((i64 (IntKind.wrap .i64 (n + 1))), [.dead]))) : L54_0 n n1 n2 w R := by
  unfold L54_0
  refine cutL_rule (ann := A54) (mv := MV) mixed (by kernel_rfl) ?_
  all_goals revert h
  all_goals refine via ?_
  all_goals kernel_rfl
set_option maxRecDepth 100000 in
theorem f54 (w : W_tumbrelref04_Node) (R : T × List T) (h : L54_0 0 (((List.length w.fParts) : Nat) : Int) 0 w R) : Rn 54 [w.t] R := by
  refine fn_rule (ann := A54) (mv := MV) (fz := true) mixed Tryz.func54 (c := B54) (by kernel_rfl) (by decide) ?_
  all_goals revert h
  all_goals refine via ?_
  all_goals kernel_rfl
/- tumbrel/tumbrelref04.sound -/
noncomputable def A55 : Ann := mkAnn [(83048, (fun a => [.ex (Bool) fun b => .done ((tb b), [.dead])])), (148840, (fun a => [.ex (Bool) fun b => .done ((tb b), [.dead])])), (230696, (fun a => [.ex (Bool) fun b => .done ((tb b), [.dead])]))] [(230568, [.ex W_tumbrelref04_Node fun w => .done w.t])] [] [(55252, [1, 36, 37])]
noncomputable abbrev B55 : Code := Tryz.f55.body.getD .skip
def L55_0 (n : Int) (n1 : Int) (w : W_tumbrelref04_Node) (R : T × List T) : Prop := CutL Tryz.prog Tryz.f55 B55 true [1, 0, 1, 0, 1, 1, 1, 1, 1, 0, 1, 0, 1, 0, 0] (mkSt 48 [(1, (.ptr (1000000002, 0) 0)), (36, (i64 n)), (37, (i64 n1))] [((1000000002, 0), .box 24 [(i64 w.fKind), (i64 w.fN), (st w.fS), (.sl 4 w.fParts)])]) [.dead] R
set_option maxRecDepth 100000 in
theorem l55_0 (n : Int) (n1 : Int) (w : W_tumbrelref04_Node) (R : T × List T) (h : cond (decide ((n1 : Int) < n))
  (∃ w1 : W_tumbrelref04_Node, ((0 : Int) ≤ n1 ∧ w.fParts[(Int.toNat n1)]? = some w1.t) ∧
   (∃ b : Bool, (Rn 55 [w1.t] ((tb b), [.dead])) ∧
    (cond (!b)
     (R = ((tb false), [.dead]))
     (L55_0 n (IntKind.wrap .i64 (n1 + 1)) w R))))
  (R = ((tb true), [.dead]))) : L55_0 n n1 w R := by
  unfold L55_0
  refine cutL_rule (ann := A55) (mv := MV) mixed (by kernel_rfl) ?_
  all_goals revert h
  all_goals refine via ?_
  all_goals kernel_rfl
set_option maxRecDepth 100000 in
theorem f55 (w : W_tumbrelref04_Node) (R : T × List T) (h : cond (decide ((w.fKind : Int) = 1))
  (cond (decide ((0 : Int) ≤ w.fN))
   (R = ((tb (decide ((w.fN : Int) ≤ 1000000000))), [.dead]))
   (R = ((tb false), [.dead])))
  (cond (decide ((w.fKind : Int) = 2))
   (∃ b : Bool, (Rn 75 [(st w.fS)] ((tb b), [.dead])) ∧
    (R = ((tb b), [.dead])))
   (cond (decide ((w.fKind : Int) = 3))
    (cond (decide ((w.fKind : Int) = 5))
     (∃ b1 : Bool, (Rn 76 [(st w.fS)] ((tb b1), [.dead])) ∧
      (cond (!b1)
       (R = ((tb false), [.dead]))
       (L55_0 (((List.length w.fParts) : Nat) : Int) 0 w R)))
     (L55_0 (((List.length w.fParts) : Nat) : Int) 0 w R))
    (cond (decide ((w.fKind : Int) = 4))
     (cond (decide ((w.fKind : Int) = 5))
      (∃ b2 : Bool, (Rn 76 [(st w.fS)] ((tb b2), [.dead])) ∧
       (cond (!b2)
        (R = ((tb false), [.dead]))
        (L55_0 (((List.length w.fParts) : Nat) : Int) 0 w R)))
      (L55_0 (((List.length w.fParts) : Nat) : Int) 0 w R))
     (cond (decide ((w.fKind : Int) = 5))
      (cond (decide ((w.fKind : Int) = 5))
       (∃ b3 : Bool, (Rn 76 [(st w.fS)] ((tb b3), [.dead])) ∧
        (cond (!b3)
         (R = ((tb false), [.dead]))
         (L55_0 (((List.length w.fParts) : Nat) : Int) 0 w R)))
       (L55_0 (((List.length w.fParts) : Nat) : Int) 0 w R))
      (R = ((tb false), [.dead]))))))) : Rn 55 [w.t] R := by
  refine fn_rule (ann := A55) (mv := MV) (fz := true) mixed Tryz.func55 (c := B55) (by kernel_rfl) (by decide) ?_
  all_goals revert h
  all_goals refine via ?_
  all_goals kernel_rfl
/- tumbrel/tumbrelref04.strength -/
noncomputable def A56 : Ann := mkAnn [(33896, (fun a => [.ex (Int) fun n => .done ((i64 n), [.dead])]))] [] [] []
noncomputable abbrev B56 : Code := Tryz.f56.body.getD .skip
set_option maxRecDepth 100000 in
theorem f56 (w : W_tumbrelref04_Node) (R : T × List T) (h : cond (decide ((w.fKind : Int) = 5))
  (∃ n : Int, (Rn 40 [(st w.fS)] ((i64 n), [.dead])) ∧
   (R = ((i64 n), [.dead])))
  (R = ((i64 6), [.dead]))) : Rn 56 [w.t] R := by
  refine fn_rule (ann := A56) (mv := MV) (fz := true) mixed Tryz.func56 (c := B56) (by kernel_rfl) (by decide) ?_
  all_goals revert h
  all_goals refine via ?_
  all_goals kernel_rfl
/- tumbrel/expr.count -/
noncomputable def A57 : Ann := mkAnn [(33832, (fun a => [.ex (List T) fun l => .done ((.sl 1 l), [.dead])])), (99624, (fun a => [.ex (Int) fun n => .done ((i64 n), [.dead, .dead])]))] [(66536, [.ex IfV fun w => .done w.v])] [] [(116, [1, 5, 9, 10, 11])]
noncomputable abbrev B57 : Code := Tryz.f57.body.getD .skip
def L57_0 (left : Int) (n : Int) (l : List T) (n1 : Int) (n2 : Int) (R : T × List T) : Prop := CutL Tryz.prog Tryz.f57 B57 true [1, 1, 0, 1, 0, 0] (mkSt 27 [(1, (i64 left)), (5, (i64 n)), (9, (.sl 1 l)), (10, (i64 n1)), (11, (i64 n2))] []) [.dead, .dead] R
set_option maxRecDepth 100000 in
theorem l57_0 (left : Int) (n : Int) (l : List T) (n1 : Int) (n2 : Int) (R : T × List T) (h : cond (decide ((n2 : Int) < n1))
  (∃ e : IfV, ((0 : Int) ≤ n2 ∧ l[(Int.toNat n2)]? = some e.v) ∧
   (cond (decide ((n : Int) ≤ left))
    (∃ n3 : Int, (Rn 57 [e.v, (i64 (IntKind.wrap .i64 (left - n)))] ((i64 n3), [.dead, .dead])) ∧
     (L57_0 left (IntKind.wrap .i64 (n + n3)) l n1 (IntKind.wrap .i64 (n2 + 1)) R))
    (L57_0 left n l n1 (IntKind.wrap .i64 (n2 + 1)) R)))
  (R = ((i64 n), [.dead, .dead]))) : L57_0 left n l n1 n2 R := by
  unfold L57_0
  refine cutL_rule (ann := A57) (mv := MV) mixed (by kernel_rfl) ?_
  all_goals revert h
  all_goals refine via ?_
  all_goals kernel_rfl
set_option maxRecDepth 100000 in
theorem f57 (e : IfV) (left : Int) (R : T × List T) (h : ∃ l : List T, (Rn 23 [e.v] ((.sl 1 l), [.dead])) ∧
  (L57_0 left 1 l (((List.length l) : Nat) : Int) 0 R)) : Rn 57 [e.v, (i64 left)] R := by
  refine fn_rule (ann := A57) (mv := MV) (fz := true) mixed Tryz.func57 (c := B57) (by kernel_rfl) (by decide) ?_
  all_goals revert h
  all_goals refine via ?_
  all_goals kernel_rfl
end Go.Proofs.YthcaodlfnlhfbaaGreatDoorT
