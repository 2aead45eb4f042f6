/- What is to be shown of functions of the program, by their texts (printed by a program of this work; the kernel holds each against the text). -/
import Derived.Test.YtfknpnkdedckhaaGreatDoorP0
namespace Go.Proofs.YtfknpnkdedckhaaGreatDoorT
open Go Go.Proofs
set_option linter.unusedVariables false
/- slices.Index[[]string,string] -/
noncomputable def A349 : Ann := mkAnn [] [(66728, [.ex ByteArray fun w => .done (st w)])] [] [(52, [0, 1, 7, 8])]
noncomputable abbrev B349 : Code := Tryz.f349.body.getD .skip
def L349_0 (s : List T) (s1 : ByteArray) (n : Int) (n1 : Int) (R : T × List T) : Prop := CutL Tryz.prog Tryz.f349 B349 true [1, 0, 1, 0, 0] (mkSt 19 [(0, (.sl 1 s)), (1, (st s1)), (7, (i64 n)), (8, (i64 n1))] []) [.dead, .dead] R
set_option maxRecDepth 100000 in
theorem l349_0 (s : List T) (s1 : ByteArray) (n : Int) (n1 : Int) (R : T × List T) (h : cond (decide ((n1 : Int) < n))
  (∃ s2 : ByteArray, ((0 : Int) ≤ n1 ∧ s[(Int.toNat n1)]? = some (st s2)) ∧
   (cond (decide (s1 = s2))
    (R = ((i64 n1), [.dead, .dead]))
    (L349_0 s s1 n (IntKind.wrap .i64 (n1 + 1)) R)))
  (R = ((i64 (-1)), [.dead, .dead]))) : L349_0 s s1 n n1 R := by
  unfold L349_0
  refine cutL_rule (ann := A349) (mv := MV) mixed (by kernel_rfl) ?_
  all_goals revert h
  all_goals refine via ?_
  all_goals kernel_rfl
set_option maxRecDepth 100000 in
theorem f349 (s : List T) (s1 : ByteArray) (R : T × List T) (h : L349_0 s s1 (((List.length s) : Nat) : Int) 0 R) : Rn 349 [(.sl 1 s), (st s1)] R := by
  refine fn_rule (ann := A349) (mv := MV) (fz := true) mixed Tryz.func349 (c := B349) (by kernel_rfl) (by decide) ?_
  all_goals revert h
  all_goals refine via ?_
  all_goals kernel_rfl
/- tumbrel/show.formed$1 -/
noncomputable def A199 : Ann := mkAnn [(17448, (fun a => [.ex (Bool) fun b => .done ((tb b), [.dead])]))] [] [] []
noncomputable abbrev B199 : Code := Tryz.f199.body.getD .skip
set_option maxRecDepth 100000 in
theorem f199 (w : W_chart_On) (R : T × List T) (h : ∃ b : Bool, (Rn 200 [w.t] ((tb b), [.dead])) ∧
  (R = ((tb (!b)), [.dead]))) : Rn 199 [w.t] R := by
  refine fn_rule (ann := A199) (mv := MV) (fz := true) mixed Tryz.func199 (c := B199) (by kernel_rfl) (by decide) ?_
  all_goals revert h
  all_goals refine via ?_
  all_goals kernel_rfl
/- tumbrel/show.formed$2 -/
noncomputable def A201 : Ann := mkAnn [(17576, (fun a => [.ex (Bool) fun b => .done ((tb b), [.dead, .dead])]))] [] [] []
noncomputable abbrev B201 : Code := Tryz.f201.body.getD .skip
set_option maxRecDepth 100000 in
theorem f201 (w : W_chart_State) (n : Int) (R : T × List T) (h : ∃ b : Bool, (Rn 110 [w.t, (i64 (IntKind.wrap .i64 (n + 1)))] ((tb b), [.dead, .dead])) ∧
  (R = ((tb (!b)), [.dead, (.cbox 3 [(i64 n)])]))) : Rn 201 [w.t, (.cbox 3 [(i64 n)])] R := by
  refine fn_rule (ann := A201) (mv := MV) (fz := true) mixed Tryz.func201 (c := B201) (by kernel_rfl) (by decide) ?_
  all_goals revert h
  all_goals refine via ?_
  all_goals kernel_rfl
/- tumbrel/show.formedOn -/
noncomputable def A200 : Ann := mkAnn [(17704, (fun a => [.ex (Bool) fun b => .done ((tb b), [.dead])])), (18216, (fun a => [.ex (Bool) fun b => .done ((tb b), [.dead])])), (18600, (fun a => [.ex (Bool) fun b => .done ((tb b), [.dead, .dead])]))] [] [] []
noncomputable abbrev B200 : Code := Tryz.f200.body.getD .skip
set_option maxRecDepth 100000 in
theorem f200 (w : W_chart_On) (R : T × List T) (h : ∃ b : Bool, (Rn 104 [(.sl 1 [(st w.fEvent), (st w.fTarget)])] ((tb b), [.dead])) ∧
  (cond b
   (cond (decide (w.fGuard.t = 0))
    (∃ b1 : Bool, (Rn 283 [(.sl 2 w.fSets), (.s (.func (.func 284) #[] #[]))] ((tb b1), [.dead, .dead])) ∧
     (R = ((tb (!b1)), [.dead])))
    (∃ b2 : Bool, (Rn 282 [w.fGuard.v] ((tb b2), [.dead])) ∧
     (cond b2
      (∃ b3 : Bool, (Rn 283 [(.sl 2 w.fSets), (.s (.func (.func 284) #[] #[]))] ((tb b3), [.dead, .dead])) ∧
       (R = ((tb (!b3)), [.dead])))
      (R = ((tb false), [.dead])))))
   (R = ((tb false), [.dead])))) : Rn 200 [w.t] R := by
  refine fn_rule (ann := A200) (mv := MV) (fz := true) mixed Tryz.func200 (c := B200) (by kernel_rfl) (by decide) ?_
  all_goals revert h
  all_goals refine via ?_
  all_goals kernel_rfl
/- slices.ContainsFunc[[]tumbrel/chart.Set,tumbrel/chart.Set] -/
noncomputable def A283 : Ann := mkAnn [(17512, (fun a => [.ex (Int) fun n => .done ((i64 n), [.dead, .dead])]))] [] [] []
noncomputable abbrev B283 : Code := Tryz.f283.body.getD .skip
set_option maxRecDepth 100000 in
theorem f283 (s : List T) (R : T × List T) (h : ∃ n : Int, (Rn 350 [(.sl 2 s), (.s (.func (.func 284) #[] #[]))] ((i64 n), [.dead, .dead])) ∧
  (R = ((tb (decide ((0 : Int) ≤ n))), [.dead, .dead]))) : Rn 283 [(.sl 2 s), (.s (.func (.func 284) #[] #[]))] R := by
  refine fn_rule (ann := A283) (mv := MV) (fz := true) mixed Tryz.func283 (c := B283) (by kernel_rfl) (by decide) ?_
  all_goals revert h
  all_goals refine via ?_
  all_goals kernel_rfl
/- tumbrel/show.readable -/
noncomputable def A282 : Ann := mkAnn [(17448, (fun a => [.ex (ByteArray) fun s => .ex (Int) fun n => .done ((.tup [(st s), (i64 n)]), [.dead])]))] [] [] []
noncomputable abbrev B282 : Code := Tryz.f282.body.getD .skip
set_option maxRecDepth 100000 in
theorem f282 (e : IfV) (R : T × List T) (h : ∃ s : ByteArray, ∃ n : Int, (Rn 269 [e.v] ((.tup [(st s), (i64 n)]), [.dead])) ∧
  (R = ((tb (decide ((n : Int) = 0))), [.dead]))) : Rn 282 [e.v] R := by
  refine fn_rule (ann := A282) (mv := MV) (fz := true) mixed Tryz.func282 (c := B282) (by kernel_rfl) (by decide) ?_
  all_goals revert h
  all_goals refine via ?_
  all_goals kernel_rfl
/- slices.IndexFunc[[]tumbrel/chart.Set,tumbrel/chart.Set] -/
noncomputable def A350 : Ann := mkAnn [(66856, (fun a => [.ex (Bool) fun b => .done ((tb b), [.dead])]))] [(66728, [.ex W_chart_Set fun w => .done w.t])] [] [(52, [0, 1, 7, 8])]
noncomputable abbrev B350 : Code := Tryz.f350.body.getD .skip
def L350_0 (s : List T) (n : Int) (n1 : Int) (R : T × List T) : Prop := CutL Tryz.prog Tryz.f350 B350 true [1, 0, 1, 0, 0] (mkSt 19 [(0, (.sl 2 s)), (1, (.s (.func (.func 284) #[] #[]))), (7, (i64 n)), (8, (i64 n1))] []) [.dead, .dead] R
set_option maxRecDepth 100000 in
theorem l350_0 (s : List T) (n : Int) (n1 : Int) (R : T × List T) (h : cond (decide ((n1 : Int) < n))
  (∃ w : W_chart_Set, ((0 : Int) ≤ n1 ∧ s[(Int.toNat n1)]? = some w.t) ∧
   (∃ b : Bool, (Rn 284 [w.t] ((tb b), [.dead])) ∧
    (cond b
     (R = ((i64 n1), [.dead, .dead]))
     (L350_0 s n (IntKind.wrap .i64 (n1 + 1)) R))))
  (R = ((i64 (-1)), [.dead, .dead]))) : L350_0 s n n1 R := by
  unfold L350_0
  refine cutL_rule (ann := A350) (mv := MV) mixed (by kernel_rfl) ?_
  all_goals revert h
  all_goals refine via ?_
  all_goals kernel_rfl
set_option maxRecDepth 100000 in
theorem f350 (s : List T) (R : T × List T) (h : L350_0 s (((List.length s) : Nat) : Int) 0 R) : Rn 350 [(.sl 2 s), (.s (.func (.func 284) #[] #[]))] R := by
  refine fn_rule (ann := A350) (mv := MV) (fz := true) mixed Tryz.func350 (c := B350) (by kernel_rfl) (by decide) ?_
  all_goals revert h
  all_goals refine via ?_
  all_goals kernel_rfl
/- tumbrel/guard.Print -/
noncomputable def A269 : Ann := mkAnn [(17448, (fun a => [.ex (Bool) fun b => .done ((tb b), [.dead])])), (50216, (fun a => [.ex (ByteArray) fun s => .done ((st s), [.dead])]))] [] [] []
noncomputable abbrev B269 : Code := Tryz.f269.body.getD .skip
set_option maxRecDepth 100000 in
theorem f269 (e : IfV) (R : T × List T) (h : ∃ b : Bool, (Rn 341 [e.v] ((tb b), [.dead])) ∧
  (cond (!b)
   (R = ((.tup [(st (bs [])), (i64 1)]), [.dead]))
   (∃ s : ByteArray, (Rn 342 [e.v] ((st s), [.dead])) ∧
    (R = ((.tup [(st s), (i64 0)]), [.dead]))))) : Rn 269 [e.v] R := by
  refine fn_rule (ann := A269) (mv := MV) (fz := true) mixed Tryz.func269 (c := B269) (by kernel_rfl) (by decide) ?_
  all_goals revert h
  all_goals refine via ?_
  all_goals kernel_rfl
/- tumbrel/show.formedOn$1 -/
noncomputable def A284 : Ann := mkAnn [(17576, (fun a => [.ex (Bool) fun b => .done ((tb b), [.dead])])), (17896, (fun a => [.ex (Bool) fun b => .done ((tb b), [.dead])]))] [] [] []
noncomputable abbrev B284 : Code := Tryz.f284.body.getD .skip
set_option maxRecDepth 100000 in
theorem f284 (w : W_chart_Set) (R : T × List T) (h : ∃ b : Bool, (Rn 104 [(.sl 1 [(st w.fName)])] ((tb b), [.dead])) ∧
  (cond (!b)
   (R = ((tb true), [.dead]))
   (∃ b1 : Bool, (Rn 282 [w.fTo.v] ((tb b1), [.dead])) ∧
    (R = ((tb (!b1)), [.dead]))))) : Rn 284 [w.t] R := by
  refine fn_rule (ann := A284) (mv := MV) (fz := true) mixed Tryz.func284 (c := B284) (by kernel_rfl) (by decide) ?_
  all_goals revert h
  all_goals refine via ?_
  all_goals kernel_rfl
/- tumbrel/guard.Readable -/
noncomputable def A341 : Ann := mkAnn [(17448, (fun a => [.ex (Bool) fun b => .done ((tb b), [.dead])])), (17640, (fun a => [.ex (List T) fun l => .done ((.sl 1 l), [.dead])])), (17704, (fun a => [.ex (Bool) fun b => .done ((tb b), [.dead, .dead])]))] [] [] []
noncomputable abbrev B341 : Code := Tryz.f341.body.getD .skip
set_option maxRecDepth 100000 in
theorem f341 (e : IfV) (R : T × List T) (h : ∃ b : Bool, (Rn 165 [e.v] ((tb b), [.dead])) ∧
  (cond b
   (∃ l : List T, (Rn 167 [e.v] ((.sl 1 l), [.dead])) ∧
    (∃ b1 : Bool, (Rn 166 [(.sl 1 l), (.s (.func (.func 195) #[] #[]))] ((tb b1), [.dead, .dead])) ∧
     (R = ((tb (!b1)), [.dead]))))
   (R = ((tb false), [.dead])))) : Rn 341 [e.v] R := by
  refine fn_rule (ann := A341) (mv := MV) (fz := true) mixed Tryz.func341 (c := B341) (by kernel_rfl) (by decide) ?_
  all_goals revert h
  all_goals refine via ?_
  all_goals kernel_rfl
/- tumbrel/guard.text -/
noncomputable def A342 : Ann := mkAnn [(66664, (fun a => [.ex (ByteArray) fun s => .done ((st s), [.dead, .dead])])), (164968, (fun a => [.ex (ByteArray) fun s => .done ((st s), [.dead, .dead])])), (214120, (fun a => [.ex (ByteArray) fun s => .done ((st s), [.dead, .dead])])), (263272, (fun a => [.ex (Int) fun n => .done ((i64 n), [.dead])])), (328872, (fun a => [.ex (ByteArray) fun s => .done ((st s), [.dead, .dead])])), (329512, (fun a => [.ex (ByteArray) fun s => .done ((st s), [.dead, .dead])]))] [(33768, [.ex W_expr_Lit fun w => .done w.t]), (82920, [.ex W_expr_Ref fun w => .done w.t]), (132072, [.ex W_expr_Not fun w => .done w.t]), (181224, [.ex W_expr_Neg fun w => .done w.t]), (230376, [.ex W_expr_Bin fun w => .done w.t])] [] []
noncomputable abbrev B342 : Code := Tryz.f342.body.getD .skip
set_option maxRecDepth 100000 in
theorem f342 (e : IfV) (R : T × List T) (h : cond (Nat.beq e.t 165)
  (∃ w : W_expr_Lit, (e.x = w.t) ∧
   (∃ s : ByteArray, (Rn 98 [(i64 w.fN), (i64 10)] ((st s), [.dead, .dead])) ∧
    (R = ((st s), [.dead]))))
  (cond (Nat.beq e.t 378)
   (∃ w1 : W_expr_Ref, (e.x = w1.t) ∧
    (R = ((st w1.fName), [.dead])))
   (cond (Nat.beq e.t 380)
    (∃ w2 : W_expr_Not, (e.x = w2.t) ∧
     (∃ s1 : ByteArray, (Rn 379 [w2.fX.v, (i64 6)] ((st s1), [.dead, .dead])) ∧
      ((((ByteArray.size (bs [33]) + ByteArray.size s1 : Nat) : Int) ≤ 9223372036854775807) ∧
       (R = ((st ((bs [33]) ++ s1)), [.dead])))))
    (cond (Nat.beq e.t 381)
     (∃ w3 : W_expr_Neg, (e.x = w3.t) ∧
      (∃ s2 : ByteArray, (Rn 379 [w3.fX.v, (i64 6)] ((st s2), [.dead, .dead])) ∧
       ((((ByteArray.size (bs [45]) + ByteArray.size s2 : Nat) : Int) ≤ 9223372036854775807) ∧
        (R = ((st ((bs [45]) ++ s2)), [.dead])))))
     (cond (Nat.beq e.t 383)
      (∃ w4 : W_expr_Bin, (e.x = w4.t) ∧
       (∃ n : Int, (Rn 380 [(st w4.fOp)] ((i64 n), [.dead])) ∧
        (cond (decide ((n : Int) = 3))
         (∃ s3 : ByteArray, (Rn 379 [w4.fL.v, (i64 (IntKind.wrap .i64 (n + 1)))] ((st s3), [.dead, .dead])) ∧
          ((((ByteArray.size s3 + ByteArray.size (bs [32]) : Nat) : Int) ≤ 9223372036854775807) ∧
           ((((ByteArray.size (s3 ++ (bs [32])) + ByteArray.size w4.fOp : Nat) : Int) ≤ 9223372036854775807) ∧
            ((((ByteArray.size ((s3 ++ (bs [32])) ++ w4.fOp) + ByteArray.size (bs [32]) : Nat) : Int) ≤ 9223372036854775807) ∧
             (∃ s4 : ByteArray, (Rn 379 [w4.fR.v, (i64 (IntKind.wrap .i64 (n + 1)))] ((st s4), [.dead, .dead])) ∧
              ((((ByteArray.size (((s3 ++ (bs [32])) ++ w4.fOp) ++ (bs [32])) + ByteArray.size s4 : Nat) : Int) ≤ 9223372036854775807) ∧
               (R = ((st ((((s3 ++ (bs [32])) ++ w4.fOp) ++ (bs [32])) ++ s4)), [.dead]))))))))
         (∃ s5 : ByteArray, (Rn 379 [w4.fL.v, (i64 n)] ((st s5), [.dead, .dead])) ∧
          ((((ByteArray.size s5 + ByteArray.size (bs [32]) : Nat) : Int) ≤ 9223372036854775807) ∧
           ((((ByteArray.size (s5 ++ (bs [32])) + ByteArray.size w4.fOp : Nat) : Int) ≤ 9223372036854775807) ∧
            ((((ByteArray.size ((s5 ++ (bs [32])) ++ w4.fOp) + ByteArray.size (bs [32]) : Nat) : Int) ≤ 9223372036854775807) ∧
             (∃ s6 : ByteArray, (Rn 379 [w4.fR.v, (i64 (IntKind.wrap .i64 (n + 1)))] ((st s6), [.dead, .dead])) ∧
              ((((ByteArray.size (((s5 ++ (bs [32])) ++ w4.fOp) ++ (bs [32])) + ByteArray.size s6 : Nat) : Int) ≤ 9223372036854775807) ∧
               (R = ((st ((((s5 ++ (bs [32])) ++ w4.fOp) ++ (bs [32])) ++ s6)), [.dead])))))))))))
      (R = ((st (bs [])), [.dead]))))))) : Rn 342 [e.v] R := by
  refine fn_rule (ann := A342) (mv := MV) (fz := true) mixed Tryz.func342 (c := B342) (by kernel_rfl) (by decide) ?_
  all_goals revert h
  all_goals refine via ?_
  all_goals kernel_rfl
/- tumbrel/expr.Formed -/
noncomputable def A165 : Ann := mkAnn [(17448, (fun a => [.ex (Int) fun n => .done ((i64 n), [.dead])])), (17704, (fun a => [.ex (Bool) fun b => .done ((tb b), [.dead, .dead])]))] [] [] []
noncomputable abbrev B165 : Code := Tryz.f165.body.getD .skip
set_option maxRecDepth 100000 in
theorem f165 (e : IfV) (R : T × List T) (h : ∃ n : Int, (Rn 245 [e.v] ((i64 n), [.dead])) ∧
  (cond (decide ((n : Int) ≤ 40))
   (∃ b : Bool, (Rn 246 [e.v, (i64 12)] ((tb b), [.dead, .dead])) ∧
    (R = ((tb b), [.dead])))
   (R = ((tb false), [.dead])))) : Rn 165 [e.v] R := by
  refine fn_rule (ann := A165) (mv := MV) (fz := true) mixed Tryz.func165 (c := B165) (by kernel_rfl) (by decide) ?_
  all_goals revert h
  all_goals refine via ?_
  all_goals kernel_rfl
/- slices.ContainsFunc[[]string,string] -/
noncomputable def A166b : Ann := mkAnn [(17512, (fun a => [.ex (Int) fun n => .done ((i64 n), [.dead, .dead])]))] [] [] []
noncomputable abbrev B166b : Code := Tryz.f166.body.getD .skip
set_option maxRecDepth 100000 in
theorem f166b (s : List T) (R : T × List T) (h : ∃ n : Int, (Rn 247 [(.sl 1 s), (.s (.func (.func 195) #[] #[]))] ((i64 n), [.dead, .dead])) ∧
  (R = ((tb (decide ((0 : Int) ≤ n))), [.dead, .dead]))) : Rn 166 [(.sl 1 s), (.s (.func (.func 195) #[] #[]))] R := by
  refine fn_rule (ann := A166b) (mv := MV) (fz := true) mixed Tryz.func166 (c := B166b) (by kernel_rfl) (by decide) ?_
  all_goals revert h
  all_goals refine via ?_
  all_goals kernel_rfl
/- tumbrel/guard.operand -/
noncomputable def A379 : Ann := mkAnn [(17448, (fun a => [.ex (ByteArray) fun s => .done ((st s), [.dead])])), (33832, (fun a => [.ex (Int) fun n => .done ((i64 n), [.dead])]))] [] [] []
noncomputable abbrev B379 : Code := Tryz.f379.body.getD .skip
set_option maxRecDepth 100000 in
theorem f379 (e : IfV) (least : Int) (R : T × List T) (h : ∃ s : ByteArray, (Rn 342 [e.v] ((st s), [.dead])) ∧
  (∃ n : Int, (Rn 400 [e.v] ((i64 n), [.dead])) ∧
   (cond (decide ((least : Int) ≤ n))
    (R = ((st s), [.dead, .dead]))
    ((((ByteArray.size (bs [40]) + ByteArray.size s : Nat) : Int) ≤ 9223372036854775807) ∧
     ((((ByteArray.size ((bs [40]) ++ s) + ByteArray.size (bs [41]) : Nat) : Int) ≤ 9223372036854775807) ∧
      (R = ((st (((bs [40]) ++ s) ++ (bs [41]))), [.dead, .dead]))))))) : Rn 379 [e.v, (i64 least)] R := by
  refine fn_rule (ann := A379) (mv := MV) (fz := true) mixed Tryz.func379 (c := B379) (by kernel_rfl) (by decide) ?_
  all_goals revert h
  all_goals refine via ?_
  all_goals kernel_rfl
/- tumbrel/guard.level -/
noncomputable def A380 : Ann := mkAnn [(66664, (fun a => [.ex (Bool) fun b => .done ((tb b), [.dead, .dead])]))] [(50280, [.ex (List T) fun w => .done (.sl 1 w)])] [] [(52, [0, 11, 12, 13])]
noncomputable abbrev B380 : Code := Tryz.f380.body.getD .skip
def L380_0 (op : ByteArray) (n : Int) (n1 : Int) (l : List T) (R : T × List T) : Prop := CutL Tryz.prog Tryz.f380 B380 true [1, 0, 1, 0, 0] (mkSt 23 [(0, (st op)), (11, (.own (1000000012, 0))), (12, (i64 n)), (13, (i64 n1))] [((1000000012, 0), .arr 104 1 l)]) [.dead] R
set_option maxRecDepth 100000 in
theorem l380_0 (op : ByteArray) (n : Int) (n1 : Int) (l : List T) (R : T × List T) (h : cond (decide ((n1 : Int) < n))
  (((0 : Int) ≤ n1 ∧ n1 < (((List.length l) : Nat) : Int)) ∧
   (∃ l1 : List T, (l[(Int.toNat n1)]? = some (.sl 1 l1)) ∧
    (∃ b : Bool, (Rn 280 [(.sl 1 l1), (st op)] ((tb b), [.dead, .dead])) ∧
     (cond b
      (R = ((i64 n1), [.dead]))
      (L380_0 op n (IntKind.wrap .i64 (n1 + 1)) l R)))))
  (R = ((i64 0), [.dead]))) : L380_0 op n n1 l R := by
  unfold L380_0
  refine cutL_rule (ann := A380) (mv := MV) mixed (by kernel_rfl) ?_
  all_goals revert h
  all_goals refine via ?_
  all_goals kernel_rfl
set_option maxRecDepth 100000 in
theorem f380 (op : ByteArray) (R : T × List T) (h : L380_0 op 6 0 ([(.sl 1 []), (.sl 1 [(st (bs [124, 124]))]), (.sl 1 [(st (bs [38, 38]))]), (.sl 1 [(st (bs [60])), (st (bs [60, 61])), (st (bs [61, 61])), (st (bs [33, 61]))]), (.sl 1 [(st (bs [43])), (st (bs [45]))]), (.sl 1 [(st (bs [42]))])] : List T) R) : Rn 380 [(st op)] R := by
  refine fn_rule (ann := A380) (mv := MV) (fz := true) mixed Tryz.func380 (c := B380) (by kernel_rfl) (by decide) ?_
  all_goals revert h
  all_goals refine via ?_
  all_goals kernel_rfl
/- tumbrel/expr.Nodes -/
noncomputable def A245 : Ann := mkAnn [(17448, (fun a => [.ex (Int) fun n => .done ((i64 n), [.dead, .dead])]))] [] [] []
noncomputable abbrev B245 : Code := Tryz.f245.body.getD .skip
set_option maxRecDepth 100000 in
theorem f245 (e : IfV) (R : T × List T) (h : ∃ n : Int, (Rn 324 [e.v, (i64 40)] ((i64 n), [.dead, .dead])) ∧
  (R = ((i64 (if (41 : Int) < n then 41 else n)), [.dead]))) : Rn 245 [e.v] R := by
  refine fn_rule (ann := A245) (mv := MV) (fz := true) mixed Tryz.func245 (c := B245) (by kernel_rfl) (by decide) ?_
  all_goals revert h
  all_goals refine via ?_
  all_goals kernel_rfl
/- tumbrel/expr.sound -/
noncomputable def A246 : Ann := mkAnn [(99624, (fun a => [.ex (Bool) fun b => .done ((tb b), [.dead])])), (132200, (fun a => [.ex (List T) fun l => .done ((.sl 1 l), [])])), (132392, (fun a => [.ex (Bool) fun b => .done ((tb b), [.dead, .dead])])), (164904, (fun a => [.ex (List T) fun l => .done ((.sl 1 l), [.dead])])), (181864, (fun a => [.ex (Bool) fun b => .ex (Int) fun n => .done ((tb b), [.dead, (.fn (.func 327) [] [(.cbox 3 [(i64 n)])])])]))] [(17448, [.ex W_expr_Lit fun w => .done w.t]), (66600, [.ex W_expr_Ref fun w => .done w.t]), (115752, [.ex W_expr_Bin fun w => .done w.t])] [] []
noncomputable abbrev B246 : Code := Tryz.f246.body.getD .skip
set_option maxRecDepth 100000 in
theorem f246 (e : IfV) (nest : Int) (R : T × List T) (h : cond (Nat.beq e.t 165)
  (∃ w : W_expr_Lit, (e.x = w.t) ∧
   (cond (decide ((0 : Int) < nest))
    (cond (decide ((0 : Int) ≤ w.fN))
     (R = ((tb (decide ((w.fN : Int) ≤ 1000000000))), [.dead, .dead]))
     (R = ((tb false), [.dead, .dead])))
    (R = ((tb false), [.dead, .dead]))))
  (cond (Nat.beq e.t 378)
   (∃ w1 : W_expr_Ref, (e.x = w1.t) ∧
    (cond (decide ((0 : Int) < nest))
     (∃ b : Bool, (Rn 194 [(st w1.fName)] ((tb b), [.dead])) ∧
      (R = ((tb b), [.dead, .dead])))
     (R = ((tb false), [.dead, .dead]))))
   (cond (Nat.beq e.t 383)
    (∃ w2 : W_expr_Bin, (e.x = w2.t) ∧
     (∃ l : List T, (Rn 325 [] ((.sl 1 l), [])) ∧
      (∃ b1 : Bool, (Rn 280 [(.sl 1 l), (st w2.fOp)] ((tb b1), [.dead, .dead])) ∧
       (cond (!b1)
        (R = ((tb false), [.dead, .dead]))
        (∃ l1 : List T, (Rn 249 [e.v] ((.sl 1 l1), [.dead])) ∧
         (cond (decide ((0 : Int) < nest))
          (cond (decide ((0 : Int) < (((List.length l1) : Nat) : Int)))
           (∃ b2 : Bool, ∃ n : Int, (Rn 326 [(.sl 1 l1), (.fn (.func 327) [] [(.cbox 3 [(i64 nest)])])] ((tb b2), [.dead, (.fn (.func 327) [] [(.cbox 3 [(i64 n)])])])) ∧
            (R = ((tb (!b2)), [.dead, .dead])))
           (R = ((tb false), [.dead, .dead])))
          (R = ((tb false), [.dead, .dead]))))))))
    (∃ l2 : List T, (Rn 249 [e.v] ((.sl 1 l2), [.dead])) ∧
     (cond (decide ((0 : Int) < nest))
      (cond (decide ((0 : Int) < (((List.length l2) : Nat) : Int)))
       (∃ b3 : Bool, ∃ n1 : Int, (Rn 326 [(.sl 1 l2), (.fn (.func 327) [] [(.cbox 3 [(i64 nest)])])] ((tb b3), [.dead, (.fn (.func 327) [] [(.cbox 3 [(i64 n1)])])])) ∧
        (R = ((tb (!b3)), [.dead, .dead])))
       (R = ((tb false), [.dead, .dead])))
      (R = ((tb false), [.dead, .dead]))))))) : Rn 246 [e.v, (i64 nest)] R := by
  refine fn_rule (ann := A246) (mv := MV) (fz := true) mixed Tryz.func246 (c := B246) (by kernel_rfl) (by decide) ?_
  all_goals revert h
  all_goals refine via ?_
  all_goals kernel_rfl
/- slices.IndexFunc[[]string,string] -/
noncomputable def A247b : Ann := mkAnn [(66856, (fun a => [.ex (Bool) fun b => .done ((tb b), [.dead])]))] [(66728, [.ex ByteArray fun w => .done (st w)])] [] [(52, [0, 1, 7, 8])]
noncomputable abbrev B247b : Code := Tryz.f247.body.getD .skip
def L247b_0 (s : List T) (n : Int) (n1 : Int) (R : T × List T) : Prop := CutL Tryz.prog Tryz.f247 B247b true [1, 0, 1, 0, 0] (mkSt 19 [(0, (.sl 1 s)), (1, (.s (.func (.func 195) #[] #[]))), (7, (i64 n)), (8, (i64 n1))] []) [.dead, .dead] R
set_option maxRecDepth 100000 in
theorem l247b_0 (s : List T) (n : Int) (n1 : Int) (R : T × List T) (h : cond (decide ((n1 : Int) < n))
  (∃ s1 : ByteArray, ((0 : Int) ≤ n1 ∧ s[(Int.toNat n1)]? = some (st s1)) ∧
   (∃ b : Bool, (Rn 195 [(st s1)] ((tb b), [.dead])) ∧
    (cond b
     (R = ((i64 n1), [.dead, .dead]))
     (L247b_0 s n (IntKind.wrap .i64 (n1 + 1)) R))))
  (R = ((i64 (-1)), [.dead, .dead]))) : L247b_0 s n n1 R := by
  unfold L247b_0
  refine cutL_rule (ann := A247b) (mv := MV) mixed (by kernel_rfl) ?_
  all_goals revert h
  all_goals refine via ?_
  all_goals kernel_rfl
set_option maxRecDepth 100000 in
theorem f247b (s : List T) (R : T × List T) (h : L247b_0 s (((List.length s) : Nat) : Int) 0 R) : Rn 247 [(.sl 1 s), (.s (.func (.func 195) #[] #[]))] R := by
  refine fn_rule (ann := A247b) (mv := MV) (fz := true) mixed Tryz.func247 (c := B247b) (by kernel_rfl) (by decide) ?_
  all_goals revert h
  all_goals refine via ?_
  all_goals kernel_rfl
/- tumbrel/guard.strength -/
noncomputable def A400 : Ann := mkAnn [(50280, (fun a => [.ex (Int) fun n => .done ((i64 n), [.dead])]))] [(17448, [.ex W_expr_Bin fun w => .done w.t])] [] []
noncomputable abbrev B400 : Code := Tryz.f400.body.getD .skip
set_option maxRecDepth 100000 in
theorem f400 (e : IfV) (R : T × List T) (h : cond (Nat.beq e.t 383)
  (∃ w : W_expr_Bin, (e.x = w.t) ∧
   (∃ n : Int, (Rn 380 [(st w.fOp)] ((i64 n), [.dead])) ∧
    (R = ((i64 n), [.dead]))))
  (R = ((i64 6), [.dead]))) : Rn 400 [e.v] R := by
  refine fn_rule (ann := A400) (mv := MV) (fz := true) mixed Tryz.func400 (c := B400) (by kernel_rfl) (by decide) ?_
  all_goals revert h
  all_goals refine via ?_
  all_goals kernel_rfl
/- tumbrel/expr.count -/
noncomputable def A324 : Ann := mkAnn [(33832, (fun a => [.ex (List T) fun l => .done ((.sl 1 l), [.dead])])), (99624, (fun a => [.ex (Int) fun n => .done ((i64 n), [.dead, .dead])]))] [(66536, [.ex IfV fun w => .done w.v])] [] [(116, [1, 5, 9, 10, 11])]
noncomputable abbrev B324 : Code := Tryz.f324.body.getD .skip
def L324_0 (left : Int) (n : Int) (l : List T) (n1 : Int) (n2 : Int) (R : T × List T) : Prop := CutL Tryz.prog Tryz.f324 B324 true [1, 1, 0, 1, 0, 0] (mkSt 27 [(1, (i64 left)), (5, (i64 n)), (9, (.sl 1 l)), (10, (i64 n1)), (11, (i64 n2))] []) [.dead, .dead] R
set_option maxRecDepth 100000 in
theorem l324_0 (left : Int) (n : Int) (l : List T) (n1 : Int) (n2 : Int) (R : T × List T) (h : cond (decide ((n2 : Int) < n1))
  (∃ e : IfV, ((0 : Int) ≤ n2 ∧ l[(Int.toNat n2)]? = some e.v) ∧
   (cond (decide ((n : Int) ≤ left))
    (∃ n3 : Int, (Rn 324 [e.v, (i64 (IntKind.wrap .i64 (left - n)))] ((i64 n3), [.dead, .dead])) ∧
     (L324_0 left (IntKind.wrap .i64 (n + n3)) l n1 (IntKind.wrap .i64 (n2 + 1)) R))
    (L324_0 left n l n1 (IntKind.wrap .i64 (n2 + 1)) R)))
  (R = ((i64 n), [.dead, .dead]))) : L324_0 left n l n1 n2 R := by
  unfold L324_0
  refine cutL_rule (ann := A324) (mv := MV) mixed (by kernel_rfl) ?_
  all_goals revert h
  all_goals refine via ?_
  all_goals kernel_rfl
set_option maxRecDepth 100000 in
theorem f324 (e : IfV) (left : Int) (R : T × List T) (h : ∃ l : List T, (Rn 249 [e.v] ((.sl 1 l), [.dead])) ∧
  (L324_0 left 1 l (((List.length l) : Nat) : Int) 0 R)) : Rn 324 [e.v, (i64 left)] R := by
  refine fn_rule (ann := A324) (mv := MV) (fz := true) mixed Tryz.func324 (c := B324) (by kernel_rfl) (by decide) ?_
  all_goals revert h
  all_goals refine via ?_
  all_goals kernel_rfl
/- tumbrel/expr.Operators -/
noncomputable def A325 : Ann := mkAnn [] [] [] []
noncomputable abbrev B325 : Code := Tryz.f325.body.getD .skip
set_option maxRecDepth 100000 in
theorem f325 (R : T × List T) (h : R = ((.sl 1 [(st (bs [43])), (st (bs [45])), (st (bs [42])), (st (bs [60])), (st (bs [60, 61])), (st (bs [61, 61])), (st (bs [33, 61])), (st (bs [38, 38])), (st (bs [124, 124]))]), [])) : Rn 325 [] R := by
  refine fn_rule (ann := A325) (mv := MV) (fz := true) mixed Tryz.func325 (c := B325) (by kernel_rfl) (by decide) ?_
  all_goals revert h
  all_goals refine via ?_
  all_goals kernel_rfl
/- tumbrel/expr.operands -/
noncomputable def A249 : Ann := mkAnn [] [(17448, [.ex W_expr_Not fun w => .done w.t]), (66600, [.ex W_expr_Neg fun w => .done w.t]), (115752, [.ex W_expr_Bin fun w => .done w.t])] [] []
noncomputable abbrev B249 : Code := Tryz.f249.body.getD .skip
set_option maxRecDepth 100000 in
theorem f249 (e : IfV) (R : T × List T) (h : cond (Nat.beq e.t 380)
  (∃ w : W_expr_Not, (e.x = w.t) ∧
   (R = ((.sl 1 [w.fX.v]), [.dead])))
  (cond (Nat.beq e.t 381)
   (∃ w1 : W_expr_Neg, (e.x = w1.t) ∧
    (R = ((.sl 1 [w1.fX.v]), [.dead])))
   (cond (Nat.beq e.t 383)
    (∃ w2 : W_expr_Bin, (e.x = w2.t) ∧
     (R = ((.sl 1 [w2.fL.v, w2.fR.v]), [.dead])))
    (R = ((.sl 1 []), [.dead]))))) : Rn 249 [e.v] R := by
  refine fn_rule (ann := A249) (mv := MV) (fz := true) mixed Tryz.func249 (c := B249) (by kernel_rfl) (by decide) ?_
  all_goals revert h
  all_goals refine via ?_
  all_goals kernel_rfl
/- slices.ContainsFunc[[]tumbrel/expr.Expr,tumbrel/expr.Expr] -/
noncomputable def A326 : Ann := mkAnn [(17512, (fun a => [.ex (Int) fun n => .ex (Int) fun n1 => .done ((i64 n), [.dead, (.fn (.func 327) [] [(.cbox 3 [(i64 n1)])])])]))] [] [] []
noncomputable abbrev B326 : Code := Tryz.f326.body.getD .skip
set_option maxRecDepth 100000 in
theorem f326 (s : List T) (n : Int) (R : T × List T) (h : ∃ n1 : Int, ∃ n2 : Int, (Rn 372 [(.sl 1 s), (.fn (.func 327) [] [(.cbox 3 [(i64 n)])])] ((i64 n1), [.dead, (.fn (.func 327) [] [(.cbox 3 [(i64 n2)])])])) ∧
  (R = ((tb (decide ((0 : Int) ≤ n1))), [.dead, (.fn (.func 327) [] [(.cbox 3 [(i64 n2)])])]))) : Rn 326 [(.sl 1 s), (.fn (.func 327) [] [(.cbox 3 [(i64 n)])])] R := by
  refine fn_rule (ann := A326) (mv := MV) (fz := true) mixed Tryz.func326 (c := B326) (by kernel_rfl) (by decide) ?_
  all_goals revert h
  all_goals refine via ?_
  all_goals kernel_rfl
/- slices.IndexFunc[[]tumbrel/expr.Expr,tumbrel/expr.Expr] -/
noncomputable def A372 : Ann := mkAnn [(66856, (fun a => [.ex (Bool) fun b => .ex (Int) fun n => .done ((tb b), [.dead, (.cbox 3 [(i64 n)])])]))] [(66728, [.ex IfV fun w => .done w.v])] [] [(52, [0, 1, 7, 8])]
noncomputable abbrev B372 : Code := Tryz.f372.body.getD .skip
def L372_0 (s : List T) (n : Int) (n1 : Int) (n2 : Int) (R : T × List T) : Prop := CutL Tryz.prog Tryz.f372 B372 true [1, 0, 1, 0, 0] (mkSt 19 [(0, (.sl 1 s)), (1, (.fn (.func 327) [] [(.ptr (0, 0) 0)])), (7, (i64 n)), (8, (i64 n1))] [((0, 0), .box 3 [(i64 n2)])]) [.dead, (.fn (.func 327) [] [(.ptr (0, 0) 0)])] R
set_option maxRecDepth 100000 in
theorem l372_0 (s : List T) (n : Int) (n1 : Int) (n2 : Int) (R : T × List T) (h : cond (decide ((n1 : Int) < n))
  (∃ e : IfV, ((0 : Int) ≤ n1 ∧ s[(Int.toNat n1)]? = some e.v) ∧
   (∃ b : Bool, ∃ n3 : Int, (Rn 327 [e.v, (.cbox 3 [(i64 n2)])] ((tb b), [.dead, (.cbox 3 [(i64 n3)])])) ∧
    (cond b
     (R = ((i64 n1), [.dead, (.fn (.func 327) [] [(.cbox 3 [(i64 n3)])])]))
     (L372_0 s n (IntKind.wrap .i64 (n1 + 1)) n3 R))))
  (R = ((i64 (-1)), [.dead, (.fn (.func 327) [] [(.cbox 3 [(i64 n2)])])]))) : L372_0 s n n1 n2 R := by
  unfold L372_0
  refine cutL_rule (ann := A372) (mv := MV) mixed (by kernel_rfl) ?_
  all_goals revert h
  all_goals refine via ?_
  all_goals kernel_rfl
set_option maxRecDepth 100000 in
theorem f372 (s : List T) (n : Int) (R : T × List T) (h : L372_0 s (((List.length s) : Nat) : Int) 0 n R) : Rn 372 [(.sl 1 s), (.fn (.func 327) [] [(.cbox 3 [(i64 n)])])] R := by
  refine fn_rule (ann := A372) (mv := MV) (fz := true) mixed Tryz.func372 (c := B372) (by kernel_rfl) (by decide) ?_
  all_goals revert h
  all_goals refine via ?_
  all_goals kernel_rfl
/- tumbrel/expr.sound$1 -/
noncomputable def A327 : Ann := mkAnn [(17576, (fun a => [.ex (Bool) fun b => .done ((tb b), [.dead, .dead])]))] [] [] []
noncomputable abbrev B327 : Code := Tryz.f327.body.getD .skip
set_option maxRecDepth 100000 in
theorem f327 (e : IfV) (n : Int) (R : T × List T) (h : ∃ b : Bool, (Rn 246 [e.v, (i64 (IntKind.wrap .i64 (n - 1)))] ((tb b), [.dead, .dead])) ∧
  (R = ((tb (!b)), [.dead, (.cbox 3 [(i64 n)])]))) : Rn 327 [e.v, (.cbox 3 [(i64 n)])] R := by
  refine fn_rule (ann := A327) (mv := MV) (fz := true) mixed Tryz.func327 (c := B327) (by kernel_rfl) (by decide) ?_
  all_goals revert h
  all_goals refine via ?_
  all_goals kernel_rfl
end Go.Proofs.YtfknpnkdedckhaaGreatDoorT
