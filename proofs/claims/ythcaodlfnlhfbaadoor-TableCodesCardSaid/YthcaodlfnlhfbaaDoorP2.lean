/- What is to be shown of functions of the program, by their texts (printed by a program of this work; the kernel holds each against the text). -/
import Derived.Test.YthcaodlfnlhfbaaDoorP0
namespace Go.Proofs.YthcaodlfnlhfbaaDoorT
open Go Go.Proofs
set_option linter.unusedVariables false
/- tumbrel/expr.operands -/
noncomputable def A66 : Ann := mkAnn [] [(17448, [.ex W_expr_Not fun w => .done w.t]), (66600, [.ex W_expr_Neg fun w => .done w.t]), (115752, [.ex W_expr_Bin fun w => .done w.t])] [] []
noncomputable abbrev B66 : Code := Tryd.f66.body.getD .skip
set_option maxRecDepth 100000 in
theorem f66 (e : IfV) (R : T × List T) (h : cond (Nat.beq e.t 98)
  (∃ w : W_expr_Not, (e.x = w.t) ∧
   (R = ((.sl 1 [w.fX.v]), [.dead])))
  (cond (Nat.beq e.t 99)
   (∃ w1 : W_expr_Neg, (e.x = w1.t) ∧
    (R = ((.sl 1 [w1.fX.v]), [.dead])))
   (cond (Nat.beq e.t 101)
    (∃ w2 : W_expr_Bin, (e.x = w2.t) ∧
     (R = ((.sl 1 [w2.fL.v, w2.fR.v]), [.dead])))
    (R = ((.sl 1 []), [.dead]))))) : Rn 66 [e.v] R := by
  refine fn_rule (ann := A66) (mv := MV) (fz := true) mixed Tryd.func66 (c := B66) (by kernel_rfl) (by decide) ?_
  all_goals revert h
  all_goals refine via ?_
  all_goals kernel_rfl
/- slices.ContainsFunc[[]tumbrel/expr.Expr,tumbrel/expr.Expr] -/
noncomputable def A93 : Ann := mkAnn [(17512, (fun a => [.ex (Int) fun n => .ex (Int) fun n1 => .done ((i64 n), [.dead, (.fn (.func 94) [] [(.cbox 3 [(i64 n1)])])])]))] [] [] []
noncomputable abbrev B93 : Code := Tryd.f93.body.getD .skip
set_option maxRecDepth 100000 in
theorem f93 (s : List T) (n : Int) (R : T × List T) (h : ∃ n1 : Int, ∃ n2 : Int, (Rn 109 [(.sl 1 s), (.fn (.func 94) [] [(.cbox 3 [(i64 n)])])] ((i64 n1), [.dead, (.fn (.func 94) [] [(.cbox 3 [(i64 n2)])])])) ∧
  (R = ((tb (decide ((0 : Int) ≤ n1))), [.dead, (.fn (.func 94) [] [(.cbox 3 [(i64 n2)])])]))) : Rn 93 [(.sl 1 s), (.fn (.func 94) [] [(.cbox 3 [(i64 n)])])] R := by
  refine fn_rule (ann := A93) (mv := MV) (fz := true) mixed Tryd.func93 (c := B93) (by kernel_rfl) (by decide) ?_
  all_goals revert h
  all_goals refine via ?_
  all_goals kernel_rfl
/- tumbrel/table.Code$1 -/
noncomputable def A46 : Ann := mkAnn [(17512, (fun a => [.ex (Int) fun n => .done ((i64 n), [(a.getD 0 .dead), .dead])]))] [] [] []
noncomputable abbrev B46 : Code := Tryd.f46.body.getD .skip
set_option maxRecDepth 100000 in
theorem f46 (n : ByteArray) (l : List T) (l1 : List T) (R : T × List T) (h : ∃ n1 : Int, (Rn 47 [(.cbox 87 [(.sl 2 l), (mnC 83 2 l1)]), (st n)] ((i64 n1), [(.cbox 87 [(.sl 2 l), (mnC 83 2 l1)]), .dead])) ∧
  (R = ((tb (decide ((n1 : Int) < 0))), [.dead, (.cbox 85 [(.cbox 87 [(.sl 2 l), (mnC 83 2 l1)])])]))) : Rn 46 [(st n), (.cbox 85 [(.cbox 87 [(.sl 2 l), (mnC 83 2 l1)])])] R := by
  refine fn_rule (ann := A46) (mv := MV) (fz := true) mixed Tryd.func46 (c := B46) (by kernel_rfl) (by decide) ?_
  all_goals rcases l1 with _ | ⟨_, _⟩
  all_goals revert h
  all_goals refine via ?_
  all_goals kernel_rfl
/- slices.IndexFunc[[]tumbrel/api.Var,tumbrel/api.Var] -/
noncomputable def A69 : Ann := mkAnn [(66856, (fun a => [.ex (Bool) fun b => .done ((tb b), [.dead, (a.getD 1 .dead)])]))] [(66728, [.ex W_api_Var fun w => .done w.t])] [] [(52, [0, 1, 7, 8])]
noncomputable abbrev B69 : Code := Tryd.f69.body.getD .skip
def L69_0 (s : List T) (n : Int) (n1 : Int) (s1 : ByteArray) (R : T × List T) : Prop := CutL Tryd.prog Tryd.f69 B69 true [1, 0, 1, 0, 0] (mkSt 19 [(0, (.sl 2 s)), (1, (.fn (.func 70) [] [(.ptr (0, 0) 0)])), (7, (i64 n)), (8, (i64 n1))] [((0, 0), .box 9 [(st s1)])]) [.dead, (.fn (.func 70) [] [(.ptr (0, 0) 0)])] R
set_option maxRecDepth 100000 in
theorem l69_0 (s : List T) (n : Int) (n1 : Int) (s1 : ByteArray) (R : T × List T) (h : cond (decide ((n1 : Int) < n))
  (∃ w : W_api_Var, ((0 : Int) ≤ n1 ∧ s[(Int.toNat n1)]? = some w.t) ∧
   (∃ b : Bool, (Rn 70 [w.t, (.cbox 9 [(st s1)])] ((tb b), [.dead, (.cbox 9 [(st s1)])])) ∧
    (cond b
     (R = ((i64 n1), [.dead, (.fn (.func 70) [] [(.cbox 9 [(st s1)])])]))
     (L69_0 s n (IntKind.wrap .i64 (n1 + 1)) s1 R))))
  (R = ((i64 (-1)), [.dead, (.fn (.func 70) [] [(.cbox 9 [(st s1)])])]))) : L69_0 s n n1 s1 R := by
  unfold L69_0
  refine cutL_rule (ann := A69) (mv := MV) mixed (by kernel_rfl) ?_
  all_goals revert h
  all_goals refine via ?_
  all_goals kernel_rfl
set_option maxRecDepth 100000 in
theorem f69 (s : List T) (s1 : ByteArray) (R : T × List T) (h : L69_0 s (((List.length s) : Nat) : Int) 0 s1 R) : Rn 69 [(.sl 2 s), (.fn (.func 70) [] [(.cbox 9 [(st s1)])])] R := by
  refine fn_rule (ann := A69) (mv := MV) (fz := true) mixed Tryd.func69 (c := B69) (by kernel_rfl) (by decide) ?_
  all_goals revert h
  all_goals refine via ?_
  all_goals kernel_rfl
/- tumbrel/tumbrelref03.Name -/
noncomputable def A14 : Ann := mkAnn [(17448, (fun a => [.ex (Int) fun n => .ex (Int) fun n1 => .done ((.tup [(i32 n), (i64 n1)]), [.dead])])), (33832, (fun a => [.ex (Int) fun n => .ex (Int) fun n1 => .done ((.tup [(i64 n), (i64 n1)]), [.dead])])), (50216, (fun a => [.ex (Bool) fun b => .done ((tb b), [.dead])]))] [] [] []
noncomputable abbrev B14 : Code := Tryd.f14.body.getD .skip
set_option maxRecDepth 100000 in
theorem f14 (s : ByteArray) (R : T × List T) (h : ∃ n : Int, ∃ n1 : Int, (Rn 40 [(st s)] ((.tup [(i32 n), (i64 n1)]), [.dead])) ∧
  (∃ n2 : Int, ∃ n3 : Int, (Rn 41 [(st s)] ((.tup [(i64 n2), (i64 n3)]), [.dead])) ∧
   (∃ b : Bool, (Rn 16 [(i32 n)] ((tb b), [.dead])) ∧
    (cond b
     (cond (decide ((n2 : Int) = (((ByteArray.size s) : Nat) : Int)))
      (R = ((tb (decide ((n3 : Int) ≤ 24))), [.dead]))
      (R = ((tb false), [.dead])))
     (R = ((tb false), [.dead])))))) : Rn 14 [(st s)] R := by
  refine fn_rule (ann := A14) (mv := MV) (fz := true) mixed Tryd.func14 (c := B14) (by kernel_rfl) (by decide) ?_
  all_goals revert h
  all_goals refine via ?_
  all_goals kernel_rfl
/- tumbrel/tumbrelref04.operator -/
noncomputable def A98 : Ann := mkAnn [] [] [] []
noncomputable abbrev B98 : Code := Tryd.f98.body.getD .skip
set_option maxRecDepth 100000 in
theorem f98 (s : ByteArray) (R : T × List T) (h : cond (decide (s = (bs [43])))
  (R = ((tb true), [.dead]))
  (cond (decide (s = (bs [45])))
   (R = ((tb true), [.dead]))
   (cond (decide (s = (bs [42])))
    (R = ((tb true), [.dead]))
    (cond (decide (s = (bs [60])))
     (R = ((tb true), [.dead]))
     (cond (decide (s = (bs [60, 61])))
      (R = ((tb true), [.dead]))
      (cond (decide (s = (bs [61, 61])))
       (R = ((tb true), [.dead]))
       (cond (decide (s = (bs [33, 61])))
        (R = ((tb true), [.dead]))
        (cond (decide (s = (bs [38, 38])))
         (R = ((tb true), [.dead]))
         (cond (decide (s = (bs [124, 124])))
          (R = ((tb true), [.dead]))
          (R = ((tb false), [.dead]))))))))))) : Rn 98 [(st s)] R := by
  refine fn_rule (ann := A98) (mv := MV) (fz := true) mixed Tryd.func98 (c := B98) (by kernel_rfl) (by decide) ?_
  all_goals revert h
  all_goals refine via ?_
  all_goals kernel_rfl
/- tumbrel/tumbrelref04.add -/
noncomputable def A99 : Ann := mkAnn [] [(34216, [.ex ByteArray fun w => .done (st w)]), (66984, [.ex ByteArray fun w => .done (st w)])] [] [(56, [0, 1, 5])]
noncomputable abbrev B99 : Code := Tryd.f99.body.getD .skip
def L99_0 (l : List T) (s : ByteArray) (n : Int) (R : T × List T) : Prop := CutL Tryd.prog Tryd.f99 B99 true [1, 1, 0, 0, 0] (mkSt 48 [(0, (.sl 1 l)), (1, (st s)), (5, (i64 n))] []) [.dead, .dead] R
set_option maxRecDepth 100000 in
theorem l99_0 (l : List T) (s : ByteArray) (n : Int) (R : T × List T) (h : cond (decide ((n : Int) < (((List.length l) : Nat) : Int)))
  (∃ s1 : ByteArray, ((0 : Int) ≤ n ∧ l[(Int.toNat n)]? = some (st s1)) ∧
   (cond (Op.bytesLess (ByteArray.toList s1) (ByteArray.toList s))
    (L99_0 l s (IntKind.wrap .i64 (n + 1)) R)
    (cond (decide ((n : Int) < (((List.length l) : Nat) : Int)))
     (∃ s2 : ByteArray, ((0 : Int) ≤ n ∧ l[(Int.toNat n)]? = some (st s2)) ∧
      (cond (decide (s2 = s))
       (R = ((.sl 1 l), [.dead, .dead]))
       (((0 : Int) ≤ n ∧ n ≤ (((List.length l) : Nat) : Int)) ∧
        (chk (List.all (List.drop 0 (List.take (Int.toNat n) l)) T.ok1)
         (chk (Nat.ble ((List.length (List.drop 0 (List.take (Int.toNat n) l))) * 16) 140737488355328)
          (cond (List.isEmpty (List.drop 0 (List.take (Int.toNat n) l)))
           (((0 : Int) ≤ n ∧ n ≤ (((List.length l) : Nat) : Int)) ∧
            (chk (List.all (List.drop (Int.toNat n) (List.take (List.length l) l)) T.ok1)
             (chk (Nat.ble ((1 + (List.length (List.drop (Int.toNat n) (List.take (List.length l) l)))) * 16) 140737488355328)
              (R = ((.sl 1 ([(st s)] ++ (List.drop (Int.toNat n) (List.take (List.length l) l)))), [.dead, .dead])))))
           (chk (Nat.ble (((List.length (List.drop 0 (List.take (Int.toNat n) l))) + 1) * 16) 140737488355328)
            (((0 : Int) ≤ n ∧ n ≤ (((List.length l) : Nat) : Int)) ∧
             (chk (List.all (List.drop (Int.toNat n) (List.take (List.length l) l)) T.ok1)
              (chk (Nat.ble (((List.length ((List.drop 0 (List.take (Int.toNat n) l)) ++ [(st s)])) + (List.length (List.drop (Int.toNat n) (List.take (List.length l) l)))) * 16) 140737488355328)
               (R = ((.sl 1 (((List.drop 0 (List.take (Int.toNat n) l)) ++ [(st s)]) ++ (List.drop (Int.toNat n) (List.take (List.length l) l)))), [.dead, .dead]))))))))))))
     (((0 : Int) ≤ n ∧ n ≤ (((List.length l) : Nat) : Int)) ∧
      (chk (List.all (List.drop 0 (List.take (Int.toNat n) l)) T.ok1)
       (chk (Nat.ble ((List.length (List.drop 0 (List.take (Int.toNat n) l))) * 16) 140737488355328)
        (cond (List.isEmpty (List.drop 0 (List.take (Int.toNat n) l)))
         (((0 : Int) ≤ n ∧ n ≤ (((List.length l) : Nat) : Int)) ∧
          (chk (List.all (List.drop (Int.toNat n) (List.take (List.length l) l)) T.ok1)
           (chk (Nat.ble ((1 + (List.length (List.drop (Int.toNat n) (List.take (List.length l) l)))) * 16) 140737488355328)
            (R = ((.sl 1 ([(st s)] ++ (List.drop (Int.toNat n) (List.take (List.length l) l)))), [.dead, .dead])))))
         (chk (Nat.ble (((List.length (List.drop 0 (List.take (Int.toNat n) l))) + 1) * 16) 140737488355328)
          (((0 : Int) ≤ n ∧ n ≤ (((List.length l) : Nat) : Int)) ∧
           (chk (List.all (List.drop (Int.toNat n) (List.take (List.length l) l)) T.ok1)
            (chk (Nat.ble (((List.length ((List.drop 0 (List.take (Int.toNat n) l)) ++ [(st s)])) + (List.length (List.drop (Int.toNat n) (List.take (List.length l) l)))) * 16) 140737488355328)
             (R = ((.sl 1 (((List.drop 0 (List.take (Int.toNat n) l)) ++ [(st s)]) ++ (List.drop (Int.toNat n) (List.take (List.length l) l)))), [.dead, .dead])))))))))))))
  (cond (decide ((n : Int) < (((List.length l) : Nat) : Int)))
   (∃ s3 : ByteArray, ((0 : Int) ≤ n ∧ l[(Int.toNat n)]? = some (st s3)) ∧
    (cond (decide (s3 = s))
     (R = ((.sl 1 l), [.dead, .dead]))
     (((0 : Int) ≤ n ∧ n ≤ (((List.length l) : Nat) : Int)) ∧
      (chk (List.all (List.drop 0 (List.take (Int.toNat n) l)) T.ok1)
       (chk (Nat.ble ((List.length (List.drop 0 (List.take (Int.toNat n) l))) * 16) 140737488355328)
        (cond (List.isEmpty (List.drop 0 (List.take (Int.toNat n) l)))
         (((0 : Int) ≤ n ∧ n ≤ (((List.length l) : Nat) : Int)) ∧
          (chk (List.all (List.drop (Int.toNat n) (List.take (List.length l) l)) T.ok1)
           (chk (Nat.ble ((1 + (List.length (List.drop (Int.toNat n) (List.take (List.length l) l)))) * 16) 140737488355328)
            (R = ((.sl 1 ([(st s)] ++ (List.drop (Int.toNat n) (List.take (List.length l) l)))), [.dead, .dead])))))
         (chk (Nat.ble (((List.length (List.drop 0 (List.take (Int.toNat n) l))) + 1) * 16) 140737488355328)
          (((0 : Int) ≤ n ∧ n ≤ (((List.length l) : Nat) : Int)) ∧
           (chk (List.all (List.drop (Int.toNat n) (List.take (List.length l) l)) T.ok1)
            (chk (Nat.ble (((List.length ((List.drop 0 (List.take (Int.toNat n) l)) ++ [(st s)])) + (List.length (List.drop (Int.toNat n) (List.take (List.length l) l)))) * 16) 140737488355328)
             (R = ((.sl 1 (((List.drop 0 (List.take (Int.toNat n) l)) ++ [(st s)]) ++ (List.drop (Int.toNat n) (List.take (List.length l) l)))), [.dead, .dead]))))))))))))
   (((0 : Int) ≤ n ∧ n ≤ (((List.length l) : Nat) : Int)) ∧
    (chk (List.all (List.drop 0 (List.take (Int.toNat n) l)) T.ok1)
     (chk (Nat.ble ((List.length (List.drop 0 (List.take (Int.toNat n) l))) * 16) 140737488355328)
      (cond (List.isEmpty (List.drop 0 (List.take (Int.toNat n) l)))
       (((0 : Int) ≤ n ∧ n ≤ (((List.length l) : Nat) : Int)) ∧
        (chk (List.all (List.drop (Int.toNat n) (List.take (List.length l) l)) T.ok1)
         (chk (Nat.ble ((1 + (List.length (List.drop (Int.toNat n) (List.take (List.length l) l)))) * 16) 140737488355328)
          (R = ((.sl 1 ([(st s)] ++ (List.drop (Int.toNat n) (List.take (List.length l) l)))), [.dead, .dead])))))
       (chk (Nat.ble (((List.length (List.drop 0 (List.take (Int.toNat n) l))) + 1) * 16) 140737488355328)
        (((0 : Int) ≤ n ∧ n ≤ (((List.length l) : Nat) : Int)) ∧
         (chk (List.all (List.drop (Int.toNat n) (List.take (List.length l) l)) T.ok1)
          (chk (Nat.ble (((List.length ((List.drop 0 (List.take (Int.toNat n) l)) ++ [(st s)])) + (List.length (List.drop (Int.toNat n) (List.take (List.length l) l)))) * 16) 140737488355328)
           (R = ((.sl 1 (((List.drop 0 (List.take (Int.toNat n) l)) ++ [(st s)]) ++ (List.drop (Int.toNat n) (List.take (List.length l) l)))), [.dead, .dead])))))))))))) : L99_0 l s n R := by
  unfold L99_0
  refine cutL_rule (ann := A99) (mv := MV) mixed (by kernel_rfl) ?_
  all_goals revert h
  all_goals refine via ?_
  all_goals kernel_rfl
set_option maxRecDepth 100000 in
theorem f99 (l : List T) (s : ByteArray) (R : T × List T) (h : L99_0 l s 0 R) : Rn 99 [(.sl 1 l), (st s)] R := by
  refine fn_rule (ann := A99) (mv := MV) (fz := true) mixed Tryd.func99 (c := B99) (by kernel_rfl) (by decide) ?_
  all_goals revert h
  all_goals refine via ?_
  all_goals kernel_rfl
/- tumbrel/glyph.inside -/
noncomputable def A39 : Ann := mkAnn [(17448, (fun a => [.ex (Bool) fun b => .done ((tb b), [.dead])])), (17640, (fun a => [.ex (Bool) fun b => .done ((tb b), [.dead])]))] [] [] []
noncomputable abbrev B39 : Code := Tryd.f39.body.getD .skip
set_option maxRecDepth 100000 in
theorem f39 (n : Int) (R : T × List T) (h : ∃ b : Bool, (Rn 15 [(i32 n)] ((tb b), [.dead])) ∧
  (cond b
   (R = ((tb true), [.dead]))
   (∃ b1 : Bool, (Rn 60 [(i32 n)] ((tb b1), [.dead])) ∧
    (cond b1
     (R = ((tb true), [.dead]))
     (R = ((tb (decide ((n : Int) = 95))), [.dead])))))) : Rn 39 [(i32 n)] R := by
  refine fn_rule (ann := A39) (mv := MV) (fz := true) mixed Tryd.func39 (c := B39) (by kernel_rfl) (by decide) ?_
  all_goals revert h
  all_goals refine via ?_
  all_goals kernel_rfl
/- tumbrel/glyph.Letter -/
noncomputable def A15 : Ann := mkAnn [] [] [] []
noncomputable abbrev B15 : Code := Tryd.f15.body.getD .skip
set_option maxRecDepth 100000 in
theorem f15 (n : Int) (R : T × List T) (h : cond (decide ((97 : Int) ≤ n))
  (cond (decide ((n : Int) ≤ 122))
   (R = ((tb true), [.dead]))
   (cond (decide ((65 : Int) ≤ n))
    (cond (decide ((n : Int) ≤ 90))
     (R = ((tb true), [.dead]))
     (cond (decide ((1072 : Int) ≤ n))
      (R = ((tb (decide ((n : Int) ≤ 1103))), [.dead]))
      (R = ((tb false), [.dead]))))
    (cond (decide ((1072 : Int) ≤ n))
     (R = ((tb (decide ((n : Int) ≤ 1103))), [.dead]))
     (R = ((tb false), [.dead])))))
  (cond (decide ((65 : Int) ≤ n))
   (cond (decide ((n : Int) ≤ 90))
    (R = ((tb true), [.dead]))
    (cond (decide ((1072 : Int) ≤ n))
     (R = ((tb (decide ((n : Int) ≤ 1103))), [.dead]))
     (R = ((tb false), [.dead]))))
   (cond (decide ((1072 : Int) ≤ n))
    (R = ((tb (decide ((n : Int) ≤ 1103))), [.dead]))
    (R = ((tb false), [.dead]))))) : Rn 15 [(i32 n)] R := by
  refine fn_rule (ann := A15) (mv := MV) (fz := true) mixed Tryd.func15 (c := B15) (by kernel_rfl) (by decide) ?_
  all_goals revert h
  all_goals refine via ?_
  all_goals kernel_rfl
/- slices.Index[[]string,string] -/
noncomputable def A108 : Ann := mkAnn [] [(66728, [.ex ByteArray fun w => .done (st w)])] [] [(52, [0, 1, 7, 8])]
noncomputable abbrev B108 : Code := Tryd.f108.body.getD .skip
def L108_0 (s : List T) (s1 : ByteArray) (n : Int) (n1 : Int) (R : T × List T) : Prop := CutL Tryd.prog Tryd.f108 B108 true [1, 0, 1, 0, 0] (mkSt 19 [(0, (.sl 1 s)), (1, (st s1)), (7, (i64 n)), (8, (i64 n1))] []) [.dead, .dead] R
set_option maxRecDepth 100000 in
theorem l108_0 (s : List T) (s1 : ByteArray) (n : Int) (n1 : Int) (R : T × List T) (h : cond (decide ((n1 : Int) < n))
  (∃ s2 : ByteArray, ((0 : Int) ≤ n1 ∧ s[(Int.toNat n1)]? = some (st s2)) ∧
   (cond (decide (s1 = s2))
    (R = ((i64 n1), [.dead, .dead]))
    (L108_0 s s1 n (IntKind.wrap .i64 (n1 + 1)) R)))
  (R = ((i64 (-1)), [.dead, .dead]))) : L108_0 s s1 n n1 R := by
  unfold L108_0
  refine cutL_rule (ann := A108) (mv := MV) mixed (by kernel_rfl) ?_
  all_goals revert h
  all_goals refine via ?_
  all_goals kernel_rfl
set_option maxRecDepth 100000 in
theorem f108 (s : List T) (s1 : ByteArray) (R : T × List T) (h : L108_0 s s1 (((List.length s) : Nat) : Int) 0 R) : Rn 108 [(.sl 1 s), (st s1)] R := by
  refine fn_rule (ann := A108) (mv := MV) (fz := true) mixed Tryd.func108 (c := B108) (by kernel_rfl) (by decide) ?_
  all_goals revert h
  all_goals refine via ?_
  all_goals kernel_rfl
/- slices.IndexFunc[[]tumbrel/expr.Expr,tumbrel/expr.Expr] -/
noncomputable def A109 : Ann := mkAnn [(66856, (fun a => [.ex (Bool) fun b => .ex (Int) fun n => .done ((tb b), [.dead, (.cbox 3 [(i64 n)])])]))] [(66728, [.ex IfV fun w => .done w.v])] [] [(52, [0, 1, 7, 8])]
noncomputable abbrev B109 : Code := Tryd.f109.body.getD .skip
def L109_0 (s : List T) (n : Int) (n1 : Int) (n2 : Int) (R : T × List T) : Prop := CutL Tryd.prog Tryd.f109 B109 true [1, 0, 1, 0, 0] (mkSt 19 [(0, (.sl 1 s)), (1, (.fn (.func 94) [] [(.ptr (0, 0) 0)])), (7, (i64 n)), (8, (i64 n1))] [((0, 0), .box 3 [(i64 n2)])]) [.dead, (.fn (.func 94) [] [(.ptr (0, 0) 0)])] R
set_option maxRecDepth 100000 in
theorem l109_0 (s : List T) (n : Int) (n1 : Int) (n2 : Int) (R : T × List T) (h : cond (decide ((n1 : Int) < n))
  (∃ e : IfV, ((0 : Int) ≤ n1 ∧ s[(Int.toNat n1)]? = some e.v) ∧
   (∃ b : Bool, ∃ n3 : Int, (Rn 94 [e.v, (.cbox 3 [(i64 n2)])] ((tb b), [.dead, (.cbox 3 [(i64 n3)])])) ∧
    (cond b
     (R = ((i64 n1), [.dead, (.fn (.func 94) [] [(.cbox 3 [(i64 n3)])])]))
     (L109_0 s n (IntKind.wrap .i64 (n1 + 1)) n3 R))))
  (R = ((i64 (-1)), [.dead, (.fn (.func 94) [] [(.cbox 3 [(i64 n2)])])]))) : L109_0 s n n1 n2 R := by
  unfold L109_0
  refine cutL_rule (ann := A109) (mv := MV) mixed (by kernel_rfl) ?_
  all_goals revert h
  all_goals refine via ?_
  all_goals kernel_rfl
set_option maxRecDepth 100000 in
theorem f109 (s : List T) (n : Int) (R : T × List T) (h : L109_0 s (((List.length s) : Nat) : Int) 0 n R) : Rn 109 [(.sl 1 s), (.fn (.func 94) [] [(.cbox 3 [(i64 n)])])] R := by
  refine fn_rule (ann := A109) (mv := MV) (fz := true) mixed Tryd.func109 (c := B109) (by kernel_rfl) (by decide) ?_
  all_goals revert h
  all_goals refine via ?_
  all_goals kernel_rfl
/- (*tumbrel/table.coder).variable$1 -/
noncomputable def A70 : Ann := mkAnn [] [] [] []
noncomputable abbrev B70 : Code := Tryd.f70.body.getD .skip
set_option maxRecDepth 100000 in
theorem f70 (w : W_api_Var) (s : ByteArray) (R : T × List T) (h : R = ((tb (decide (w.fName = s))), [.dead, (.cbox 9 [(st s)])])) : Rn 70 [w.t, (.cbox 9 [(st s)])] R := by
  refine fn_rule (ann := A70) (mv := MV) (fz := true) mixed Tryd.func70 (c := B70) (by kernel_rfl) (by decide) ?_
  all_goals revert h
  all_goals refine via ?_
  all_goals kernel_rfl
/- tumbrel/tumbrelref03.next -/
noncomputable def A40 : Ann := mkAnn [(17448, (fun a => [.ex (Int) fun n => .ex (Int) fun n1 => .done ((.tup [(i32 n), (i64 n1)]), [.dead])]))] [] [] []
noncomputable abbrev B40 : Code := Tryd.f40.body.getD .skip
set_option maxRecDepth 100000 in
theorem f40 (s : ByteArray) (R : T × List T) (h : ∃ n : Int, ∃ n1 : Int, (Rn 55 [(st s)] ((.tup [(i32 n), (i64 n1)]), [.dead])) ∧
  (cond (decide ((n : Int) = 65533))
   (cond (decide ((n1 : Int) ≤ 1))
    (R = ((.tup [(i32 (-1)), (i64 n1)]), [.dead]))
    (R = ((.tup [(i32 n), (i64 n1)]), [.dead])))
   (R = ((.tup [(i32 n), (i64 n1)]), [.dead])))) : Rn 40 [(st s)] R := by
  refine fn_rule (ann := A40) (mv := MV) (fz := true) mixed Tryd.func40 (c := B40) (by kernel_rfl) (by decide) ?_
  all_goals revert h
  all_goals refine via ?_
  all_goals kernel_rfl
/- tumbrel/tumbrelref03.run -/
noncomputable def A41 : Ann := mkAnn [(50344, (fun a => [.ex (Int) fun n => .ex (Int) fun n1 => .done ((.tup [(i32 n), (i64 n1)]), [.dead])])), (66600, (fun a => [.ex (Bool) fun b => .done ((tb b), [.dead])]))] [] [] [(56, [0, 4, 5])]
noncomputable abbrev B41 : Code := Tryd.f41.body.getD .skip
def L41_0 (s : ByteArray) (n : Int) (runes : Int) (R : T × List T) : Prop := CutL Tryd.prog Tryd.f41 B41 true [1, 1, 0, 0, 0] (mkSt 29 [(0, (st s)), (4, (i64 n)), (5, (i64 runes))] []) [.dead] R
set_option maxRecDepth 100000 in
theorem l41_0 (s : ByteArray) (n : Int) (runes : Int) (R : T × List T) (h : cond (decide ((n : Int) < (((ByteArray.size s) : Nat) : Int)))
  (((0 : Int) ≤ n ∧ n ≤ (((ByteArray.size s) : Nat) : Int)) ∧
   (∃ n1 : Int, ∃ n2 : Int, (Rn 40 [(st (ByteArray.extract s (Int.toNat n) (ByteArray.size s)))] ((.tup [(i32 n1), (i64 n2)]), [.dead])) ∧
    (∃ b : Bool, (Rn 61 [(i32 n1)] ((tb b), [.dead])) ∧
     (cond (!b)
      (R = ((.tup [(i64 n), (i64 runes)]), [.dead]))
      (L41_0 s (IntKind.wrap .i64 (n + n2)) (IntKind.wrap .i64 (runes + 1)) R)))))
  (R = ((.tup [(i64 n), (i64 runes)]), [.dead]))) : L41_0 s n runes R := by
  unfold L41_0
  refine cutL_rule (ann := A41) (mv := MV) mixed (by kernel_rfl) ?_
  all_goals revert h
  all_goals refine via ?_
  all_goals kernel_rfl
set_option maxRecDepth 100000 in
theorem f41 (s : ByteArray) (R : T × List T) (h : L41_0 s 0 0 R) : Rn 41 [(st s)] R := by
  refine fn_rule (ann := A41) (mv := MV) (fz := true) mixed Tryd.func41 (c := B41) (by kernel_rfl) (by decide) ?_
  all_goals revert h
  all_goals refine via ?_
  all_goals kernel_rfl
/- tumbrel/tumbrelref03.Letter -/
noncomputable def A16 : Ann := mkAnn [] [] [] []
noncomputable abbrev B16 : Code := Tryd.f16.body.getD .skip
set_option maxRecDepth 100000 in
theorem f16 (n : Int) (R : T × List T) (h : cond (decide ((97 : Int) ≤ n))
  (cond (decide ((n : Int) ≤ 122))
   (R = ((tb true), [.dead]))
   (cond (decide ((65 : Int) ≤ n))
    (cond (decide ((n : Int) ≤ 90))
     (R = ((tb true), [.dead]))
     (cond (decide ((1072 : Int) ≤ n))
      (R = ((tb (decide ((n : Int) ≤ 1103))), [.dead]))
      (R = ((tb false), [.dead]))))
    (cond (decide ((1072 : Int) ≤ n))
     (R = ((tb (decide ((n : Int) ≤ 1103))), [.dead]))
     (R = ((tb false), [.dead])))))
  (cond (decide ((65 : Int) ≤ n))
   (cond (decide ((n : Int) ≤ 90))
    (R = ((tb true), [.dead]))
    (cond (decide ((1072 : Int) ≤ n))
     (R = ((tb (decide ((n : Int) ≤ 1103))), [.dead]))
     (R = ((tb false), [.dead]))))
   (cond (decide ((1072 : Int) ≤ n))
    (R = ((tb (decide ((n : Int) ≤ 1103))), [.dead]))
    (R = ((tb false), [.dead]))))) : Rn 16 [(i32 n)] R := by
  refine fn_rule (ann := A16) (mv := MV) (fz := true) mixed Tryd.func16 (c := B16) (by kernel_rfl) (by decide) ?_
  all_goals revert h
  all_goals refine via ?_
  all_goals kernel_rfl
/- tumbrel/glyph.digit -/
noncomputable def A60 : Ann := mkAnn [] [] [] []
noncomputable abbrev B60 : Code := Tryd.f60.body.getD .skip
set_option maxRecDepth 100000 in
theorem f60 (n : Int) (R : T × List T) (h : cond (decide ((48 : Int) ≤ n))
  (R = ((tb (decide ((n : Int) ≤ 57))), [.dead]))
  (R = ((tb false), [.dead]))) : Rn 60 [(i32 n)] R := by
  refine fn_rule (ann := A60) (mv := MV) (fz := true) mixed Tryd.func60 (c := B60) (by kernel_rfl) (by decide) ?_
  all_goals revert h
  all_goals refine via ?_
  all_goals kernel_rfl
/- tumbrel/expr.sound$1 -/
noncomputable def A94 : Ann := mkAnn [(17576, (fun a => [.ex (Bool) fun b => .done ((tb b), [.dead, .dead])]))] [] [] []
noncomputable abbrev B94 : Code := Tryd.f94.body.getD .skip
set_option maxRecDepth 100000 in
theorem f94 (e : IfV) (n : Int) (R : T × List T) (h : ∃ b : Bool, (Rn 63 [e.v, (i64 (IntKind.wrap .i64 (n - 1)))] ((tb b), [.dead, .dead])) ∧
  (R = ((tb (!b)), [.dead, (.cbox 3 [(i64 n)])]))) : Rn 94 [e.v, (.cbox 3 [(i64 n)])] R := by
  refine fn_rule (ann := A94) (mv := MV) (fz := true) mixed Tryd.func94 (c := B94) (by kernel_rfl) (by decide) ?_
  all_goals revert h
  all_goals refine via ?_
  all_goals kernel_rfl
/- tumbrel/tumbrelref03.inside -/
noncomputable def A61 : Ann := mkAnn [(17448, (fun a => [.ex (Bool) fun b => .done ((tb b), [.dead])])), (17640, (fun a => [.ex (Bool) fun b => .done ((tb b), [.dead])]))] [] [] []
noncomputable abbrev B61 : Code := Tryd.f61.body.getD .skip
set_option maxRecDepth 100000 in
theorem f61 (n : Int) (R : T × List T) (h : ∃ b : Bool, (Rn 16 [(i32 n)] ((tb b), [.dead])) ∧
  (cond b
   (R = ((tb true), [.dead]))
   (∃ b1 : Bool, (Rn 77 [(i32 n)] ((tb b1), [.dead])) ∧
    (cond b1
     (R = ((tb true), [.dead]))
     (R = ((tb (decide ((n : Int) = 95))), [.dead])))))) : Rn 61 [(i32 n)] R := by
  refine fn_rule (ann := A61) (mv := MV) (fz := true) mixed Tryd.func61 (c := B61) (by kernel_rfl) (by decide) ?_
  all_goals revert h
  all_goals refine via ?_
  all_goals kernel_rfl
/- tumbrel/tumbrelref03.digit -/
noncomputable def A77 : Ann := mkAnn [] [] [] []
noncomputable abbrev B77 : Code := Tryd.f77.body.getD .skip
set_option maxRecDepth 100000 in
theorem f77 (n : Int) (R : T × List T) (h : cond (decide ((48 : Int) ≤ n))
  (R = ((tb (decide ((n : Int) ≤ 57))), [.dead]))
  (R = ((tb false), [.dead]))) : Rn 77 [(i32 n)] R := by
  refine fn_rule (ann := A77) (mv := MV) (fz := true) mixed Tryd.func77 (c := B77) (by kernel_rfl) (by decide) ?_
  all_goals revert h
  all_goals refine via ?_
  all_goals kernel_rfl
end Go.Proofs.YthcaodlfnlhfbaaDoorT
