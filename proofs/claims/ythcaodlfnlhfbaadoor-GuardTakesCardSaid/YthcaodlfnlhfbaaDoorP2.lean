/- What is to be shown of functions of the program, by their texts (printed by a program of this work; the kernel holds each against the text). -/
import Derived.Test.YthcaodlfnlhfbaaDoorP0
namespace Go.Proofs.YthcaodlfnlhfbaaDoorT
open Go Go.Proofs
set_option linter.unusedVariables false
/- tumbrel/tumbrelref03.run -/
noncomputable def A41 : Ann := mkAnn [(50344, (fun a => [.ex (Int) fun n => .ex (Int) fun n1 => .done ((.tup [(i32 n), (i64 n1)]), [.dead])])), (66600, (fun a => [.ex (Bool) fun b => .done ((tb b), [.dead])]))] [] [] [(56, [0, 4, 5])]
noncomputable abbrev B41 : Code := Tryd.f41.body.getD .skip
def L41_0 (s : ByteArray) (n : Int) (runes : Int) (R : T × List T) : Prop := CutL Tryd.prog Tryd.f41 B41 true [1, 1, 0, 0, 0] (mkSt 29 [(0, (st s)), (4, (i64 n)), (5, (i64 runes))] []) [.dead] R
set_option maxRecDepth 100000 in
theorem l41_0 (s : ByteArray) (n : Int) (runes : Int) (R : T × List T) (h : cond (decide ((n : Int) < (((ByteArray.size s) : Nat) : Int)))
  (((0 : Int) ≤ n ∧ n ≤ (((ByteArray.size s) : Nat) : Int)) ∧
   (∃ n1 : Int, ∃ n2 : Int, (Rn 40 [(st (ByteArray.extract s (Int.toNat n) (ByteArray.size s)))] ((.tup [(i32 n1), (i64 n2)]), [.dead])) ∧
    (∃ b : Bool, (Rn 61 [(i32 n1)] ((tb b), [.dead])) ∧
     (cond (!b)
      (R = ((.tup [(i64 n), (i64 runes)]), [.dead]))
      (L41_0 s (IntKind.wrap .i64 (n + n2)) (IntKind.wrap .i64 (runes + 1)) R)))))
  (R = ((.tup [(i64 n), (i64 runes)]), [.dead]))) : L41_0 s n runes R := by
  unfold L41_0
  refine cutL_rule (ann := A41) (mv := MV) mixed (by kernel_rfl) ?_
  all_goals revert h
  all_goals refine via ?_
  all_goals kernel_rfl
set_option maxRecDepth 100000 in
theorem f41 (s : ByteArray) (R : T × List T) (h : L41_0 s 0 0 R) : Rn 41 [(st s)] R := by
  refine fn_rule (ann := A41) (mv := MV) (fz := true) mixed Tryd.func41 (c := B41) (by kernel_rfl) (by decide) ?_
  all_goals revert h
  all_goals refine via ?_
  all_goals kernel_rfl
/- tumbrel/tumbrelref03.first -/
noncomputable def A54 : Ann := mkAnn [(17448, (fun a => [.ex (Int) fun n => .ex (Int) fun n1 => .done ((.tup [(i32 n), (i64 n1)]), [.dead])])), (33832, (fun a => [.ex (Int) fun n => .ex (Int) fun n1 => .done ((.tup [(i64 n), (i64 n1)]), [.dead])])), (50216, (fun a => [.ex (Bool) fun b => .done ((tb b), [.dead])])), (66728, (fun a => [.ex (Bool) fun b => .done ((tb b), [.dead])])), (115752, (fun a => [.ex (Bool) fun b => .done ((tb b), [.dead])])), (132264, (fun a => [.ex (Int) fun n => .ex (Bool) fun b => .done ((.tup [(i64 n), (tb b)]), [.dead])])), (197672, (fun a => [.ex (Int) fun n => .done ((i64 n), [.dead])]))] [] [] []
noncomputable abbrev B54 : Code := Tryd.f54.body.getD .skip
set_option maxRecDepth 100000 in
theorem f54 (s : ByteArray) (R : T × List T) (h : ∃ n : Int, ∃ n1 : Int, (Rn 40 [(st s)] ((.tup [(i32 n), (i64 n1)]), [.dead])) ∧
  (∃ n2 : Int, ∃ n3 : Int, (Rn 41 [(st s)] ((.tup [(i64 n2), (i64 n3)]), [.dead])) ∧
   (∃ b : Bool, (Rn 16 [(i32 n)] ((tb b), [.dead])) ∧
    (cond b
     (((0 : Int) ≤ n2 ∧ n2 ≤ (((ByteArray.size s) : Nat) : Int)) ∧
      (∃ b1 : Bool, (Rn 14 [(st (ByteArray.extract s 0 (Int.toNat n2)))] ((tb b1), [.dead])) ∧
       (cond b1
        (R = ((.tup [(i64 1), (i64 n2), (i64 n3)]), [.dead]))
        (R = ((.tup [(i64 0), (i64 0), (i64 0)]), [.dead])))))
     (∃ b2 : Bool, (Rn 77 [(i32 n)] ((tb b2), [.dead])) ∧
      (cond b2
       (((0 : Int) ≤ n2 ∧ n2 ≤ (((ByteArray.size s) : Nat) : Int)) ∧
        (∃ n4 : Int, ∃ b3 : Bool, (Rn 78 [(st (ByteArray.extract s 0 (Int.toNat n2)))] ((.tup [(i64 n4), (tb b3)]), [.dead])) ∧
         (cond b3
          (R = ((.tup [(i64 2), (i64 n2), (i64 n3)]), [.dead]))
          (R = ((.tup [(i64 0), (i64 0), (i64 0)]), [.dead])))))
       (∃ n5 : Int, (Rn 79 [(st s)] ((i64 n5), [.dead])) ∧
        (cond (decide ((n5 : Int) = 0))
         (R = ((.tup [(i64 0), (i64 0), (i64 0)]), [.dead]))
         (R = ((.tup [(i64 3), (i64 n5), (i64 n5)]), [.dead])))))))))) : Rn 54 [(st s)] R := by
  refine fn_rule (ann := A54) (mv := MV) (fz := true) mixed Tryd.func54 (c := B54) (by kernel_rfl) (by decide) ?_
  all_goals revert h
  all_goals refine via ?_
  all_goals kernel_rfl
/- tumbrel/expr.Same -/
noncomputable def A56 : Ann := mkAnn [(17448, (fun a => [.ex (List T) fun l => .done ((.sl 1 l), [.dead])])), (17576, (fun a => [.ex (List T) fun l => .done ((.sl 1 l), [.dead])])), (345384, (fun a => [.ex (Int) fun n => .done ((i64 n), [.dead])])), (345512, (fun a => [.ex (Int) fun n => .done ((i64 n), [.dead])])), (345896, (fun a => [.ex (Bool) fun b => .done ((tb b), [.dead, .dead, .dead])]))] [(132072, [.ex W_expr_Lit fun w => .done w.t]), (164904, [.ex W_expr_Lit fun w => .done w.t]), (197608, [.ex W_expr_Ref fun w => .done w.t]), (230440, [.ex W_expr_Ref fun w => .done w.t]), (263144, [.ex W_expr_Bin fun w => .done w.t]), (295976, [.ex W_expr_Bin fun w => .done w.t])] [(345384, [(81, [.ex W_expr_Lit fun w => .done w.t]), (96, [.ex W_expr_Ref fun w => .done w.t]), (98, [.ex W_expr_Not fun w => .done w.t]), (99, [.ex W_expr_Neg fun w => .done w.t]), (101, [.ex W_expr_Bin fun w => .done w.t])]), (345512, [(81, [.ex W_expr_Lit fun w => .done w.t]), (96, [.ex W_expr_Ref fun w => .done w.t]), (98, [.ex W_expr_Not fun w => .done w.t]), (99, [.ex W_expr_Neg fun w => .done w.t]), (101, [.ex W_expr_Bin fun w => .done w.t])])] []
noncomputable abbrev B56 : Code := Tryd.f56.body.getD .skip
set_option maxRecDepth 100000 in
theorem f56 (e : IfV) (b : IfV) (R : T × List T) (h : ∃ l : List T, (Rn 66 [e.v] ((.sl 1 l), [.dead])) ∧
  (∃ l1 : List T, (Rn 66 [b.v] ((.sl 1 l1), [.dead])) ∧
   (cond (!(decide (((((List.length l) : Nat) : Int) : Int) = (((List.length l1) : Nat) : Int))))
    (R = ((tb false), [.dead, .dead]))
    (cond (decide (e.t = 0))
     (R = ((tb (decide (b.t = 0))), [.dead, .dead]))
     (cond (Nat.beq e.t 81)
      (∃ w : W_expr_Lit, (e.x = w.t) ∧
       (cond (Nat.beq b.t 81)
        (∃ w1 : W_expr_Lit, (b.x = w1.t) ∧
         (R = ((tb (((w.fN : Int) == w1.fN) && true)), [.dead, .dead])))
        (R = ((tb false), [.dead, .dead]))))
      (cond (Nat.beq e.t 96)
       (∃ w2 : W_expr_Ref, (e.x = w2.t) ∧
        (cond (Nat.beq b.t 96)
         (∃ w3 : W_expr_Ref, (b.x = w3.t) ∧
          (R = ((tb ((decide (w2.fName = w3.fName)) && true)), [.dead, .dead])))
         (R = ((tb false), [.dead, .dead]))))
       (cond (Nat.beq e.t 101)
        (∃ w4 : W_expr_Bin, (e.x = w4.t) ∧
         (cond (Nat.beq b.t 101)
          (∃ w5 : W_expr_Bin, (b.x = w5.t) ∧
           (cond (!(decide (w4.fOp = w5.fOp)))
            (R = ((tb false), [.dead, .dead]))
            (cond (decide ((0 : Int) < (((List.length l) : Nat) : Int)))
             (cond (Nat.beq e.t 81)
              (∃ w30 : W_expr_Lit, (e.x = w30.t) ∧
               (∃ n24 : Int, (Rn 173 [w30.t] ((i64 n24), [.dead])) ∧
                (cond (Nat.beq b.t 81)
                 (∃ w35 : W_expr_Lit, (b.x = w35.t) ∧
                  (∃ n29 : Int, (Rn 173 [w35.t] ((i64 n29), [.dead])) ∧
                   (cond (decide ((n24 : Int) = n29))
                    (∃ b25 : Bool, (Rn 81 [(.sl 1 l), (.sl 1 l1), (.s (.func (.func 56) #[] #[]))] ((tb b25), [.dead, .dead, .dead])) ∧
                     (R = ((tb b25), [.dead, .dead])))
                    (R = ((tb false), [.dead, .dead])))))
                 (cond (Nat.beq b.t 96)
                  (∃ w34 : W_expr_Ref, (b.x = w34.t) ∧
                   (∃ n28 : Int, (Rn 174 [w34.t] ((i64 n28), [.dead])) ∧
                    (cond (decide ((n24 : Int) = n28))
                     (∃ b24 : Bool, (Rn 81 [(.sl 1 l), (.sl 1 l1), (.s (.func (.func 56) #[] #[]))] ((tb b24), [.dead, .dead, .dead])) ∧
                      (R = ((tb b24), [.dead, .dead])))
                     (R = ((tb false), [.dead, .dead])))))
                  (cond (Nat.beq b.t 98)
                   (∃ w33 : W_expr_Not, (b.x = w33.t) ∧
                    (∃ n27 : Int, (Rn 175 [w33.t] ((i64 n27), [.dead])) ∧
                     (cond (decide ((n24 : Int) = n27))
                      (∃ b23 : Bool, (Rn 81 [(.sl 1 l), (.sl 1 l1), (.s (.func (.func 56) #[] #[]))] ((tb b23), [.dead, .dead, .dead])) ∧
                       (R = ((tb b23), [.dead, .dead])))
                      (R = ((tb false), [.dead, .dead])))))
                   (cond (Nat.beq b.t 99)
                    (∃ w32 : W_expr_Neg, (b.x = w32.t) ∧
                     (∃ n26 : Int, (Rn 176 [w32.t] ((i64 n26), [.dead])) ∧
                      (cond (decide ((n24 : Int) = n26))
                       (∃ b22 : Bool, (Rn 81 [(.sl 1 l), (.sl 1 l1), (.s (.func (.func 56) #[] #[]))] ((tb b22), [.dead, .dead, .dead])) ∧
                        (R = ((tb b22), [.dead, .dead])))
                       (R = ((tb false), [.dead, .dead])))))
                    (cond (Nat.beq b.t 101)
                     (∃ w31 : W_expr_Bin, (b.x = w31.t) ∧
                      (∃ n25 : Int, (Rn 177 [w31.t] ((i64 n25), [.dead])) ∧
                       (cond (decide ((n24 : Int) = n25))
                        (∃ b21 : Bool, (Rn 81 [(.sl 1 l), (.sl 1 l1), (.s (.func (.func 56) #[] #[]))] ((tb b21), [.dead, .dead, .dead])) ∧
                         (R = ((tb b21), [.dead, .dead])))
                        (R = ((tb false), [.dead, .dead])))))
                     (False))))))))
              (cond (Nat.beq e.t 96)
               (∃ w24 : W_expr_Ref, (e.x = w24.t) ∧
                (∃ n18 : Int, (Rn 174 [w24.t] ((i64 n18), [.dead])) ∧
                 (cond (Nat.beq b.t 81)
                  (∃ w29 : W_expr_Lit, (b.x = w29.t) ∧
                   (∃ n23 : Int, (Rn 173 [w29.t] ((i64 n23), [.dead])) ∧
                    (cond (decide ((n18 : Int) = n23))
                     (∃ b20 : Bool, (Rn 81 [(.sl 1 l), (.sl 1 l1), (.s (.func (.func 56) #[] #[]))] ((tb b20), [.dead, .dead, .dead])) ∧
                      (R = ((tb b20), [.dead, .dead])))
                     (R = ((tb false), [.dead, .dead])))))
                  (cond (Nat.beq b.t 96)
                   (∃ w28 : W_expr_Ref, (b.x = w28.t) ∧
                    (∃ n22 : Int, (Rn 174 [w28.t] ((i64 n22), [.dead])) ∧
                     (cond (decide ((n18 : Int) = n22))
                      (∃ b19 : Bool, (Rn 81 [(.sl 1 l), (.sl 1 l1), (.s (.func (.func 56) #[] #[]))] ((tb b19), [.dead, .dead, .dead])) ∧
                       (R = ((tb b19), [.dead, .dead])))
                      (R = ((tb false), [.dead, .dead])))))
                   (cond (Nat.beq b.t 98)
                    (∃ w27 : W_expr_Not, (b.x = w27.t) ∧
                     (∃ n21 : Int, (Rn 175 [w27.t] ((i64 n21), [.dead])) ∧
                      (cond (decide ((n18 : Int) = n21))
                       (∃ b18 : Bool, (Rn 81 [(.sl 1 l), (.sl 1 l1), (.s (.func (.func 56) #[] #[]))] ((tb b18), [.dead, .dead, .dead])) ∧
                        (R = ((tb b18), [.dead, .dead])))
                       (R = ((tb false), [.dead, .dead])))))
                    (cond (Nat.beq b.t 99)
                     (∃ w26 : W_expr_Neg, (b.x = w26.t) ∧
                      (∃ n20 : Int, (Rn 176 [w26.t] ((i64 n20), [.dead])) ∧
                       (cond (decide ((n18 : Int) = n20))
                        (∃ b17 : Bool, (Rn 81 [(.sl 1 l), (.sl 1 l1), (.s (.func (.func 56) #[] #[]))] ((tb b17), [.dead, .dead, .dead])) ∧
                         (R = ((tb b17), [.dead, .dead])))
                        (R = ((tb false), [.dead, .dead])))))
                     (cond (Nat.beq b.t 101)
                      (∃ w25 : W_expr_Bin, (b.x = w25.t) ∧
                       (∃ n19 : Int, (Rn 177 [w25.t] ((i64 n19), [.dead])) ∧
                        (cond (decide ((n18 : Int) = n19))
                         (∃ b16 : Bool, (Rn 81 [(.sl 1 l), (.sl 1 l1), (.s (.func (.func 56) #[] #[]))] ((tb b16), [.dead, .dead, .dead])) ∧
                          (R = ((tb b16), [.dead, .dead])))
                         (R = ((tb false), [.dead, .dead])))))
                      (False))))))))
               (cond (Nat.beq e.t 98)
                (∃ w18 : W_expr_Not, (e.x = w18.t) ∧
                 (∃ n12 : Int, (Rn 175 [w18.t] ((i64 n12), [.dead])) ∧
                  (cond (Nat.beq b.t 81)
                   (∃ w23 : W_expr_Lit, (b.x = w23.t) ∧
                    (∃ n17 : Int, (Rn 173 [w23.t] ((i64 n17), [.dead])) ∧
                     (cond (decide ((n12 : Int) = n17))
                      (∃ b15 : Bool, (Rn 81 [(.sl 1 l), (.sl 1 l1), (.s (.func (.func 56) #[] #[]))] ((tb b15), [.dead, .dead, .dead])) ∧
                       (R = ((tb b15), [.dead, .dead])))
                      (R = ((tb false), [.dead, .dead])))))
                   (cond (Nat.beq b.t 96)
                    (∃ w22 : W_expr_Ref, (b.x = w22.t) ∧
                     (∃ n16 : Int, (Rn 174 [w22.t] ((i64 n16), [.dead])) ∧
                      (cond (decide ((n12 : Int) = n16))
                       (∃ b14 : Bool, (Rn 81 [(.sl 1 l), (.sl 1 l1), (.s (.func (.func 56) #[] #[]))] ((tb b14), [.dead, .dead, .dead])) ∧
                        (R = ((tb b14), [.dead, .dead])))
                       (R = ((tb false), [.dead, .dead])))))
                    (cond (Nat.beq b.t 98)
                     (∃ w21 : W_expr_Not, (b.x = w21.t) ∧
                      (∃ n15 : Int, (Rn 175 [w21.t] ((i64 n15), [.dead])) ∧
                       (cond (decide ((n12 : Int) = n15))
                        (∃ b13 : Bool, (Rn 81 [(.sl 1 l), (.sl 1 l1), (.s (.func (.func 56) #[] #[]))] ((tb b13), [.dead, .dead, .dead])) ∧
                         (R = ((tb b13), [.dead, .dead])))
                        (R = ((tb false), [.dead, .dead])))))
                     (cond (Nat.beq b.t 99)
                      (∃ w20 : W_expr_Neg, (b.x = w20.t) ∧
                       (∃ n14 : Int, (Rn 176 [w20.t] ((i64 n14), [.dead])) ∧
                        (cond (decide ((n12 : Int) = n14))
                         (∃ b12 : Bool, (Rn 81 [(.sl 1 l), (.sl 1 l1), (.s (.func (.func 56) #[] #[]))] ((tb b12), [.dead, .dead, .dead])) ∧
                          (R = ((tb b12), [.dead, .dead])))
                         (R = ((tb false), [.dead, .dead])))))
                      (cond (Nat.beq b.t 101)
                       (∃ w19 : W_expr_Bin, (b.x = w19.t) ∧
                        (∃ n13 : Int, (Rn 177 [w19.t] ((i64 n13), [.dead])) ∧
                         (cond (decide ((n12 : Int) = n13))
                          (∃ b11 : Bool, (Rn 81 [(.sl 1 l), (.sl 1 l1), (.s (.func (.func 56) #[] #[]))] ((tb b11), [.dead, .dead, .dead])) ∧
                           (R = ((tb b11), [.dead, .dead])))
                          (R = ((tb false), [.dead, .dead])))))
                       (False))))))))
                (cond (Nat.beq e.t 99)
                 (∃ w12 : W_expr_Neg, (e.x = w12.t) ∧
                  (∃ n6 : Int, (Rn 176 [w12.t] ((i64 n6), [.dead])) ∧
                   (cond (Nat.beq b.t 81)
                    (∃ w17 : W_expr_Lit, (b.x = w17.t) ∧
                     (∃ n11 : Int, (Rn 173 [w17.t] ((i64 n11), [.dead])) ∧
                      (cond (decide ((n6 : Int) = n11))
                       (∃ b10 : Bool, (Rn 81 [(.sl 1 l), (.sl 1 l1), (.s (.func (.func 56) #[] #[]))] ((tb b10), [.dead, .dead, .dead])) ∧
                        (R = ((tb b10), [.dead, .dead])))
                       (R = ((tb false), [.dead, .dead])))))
                    (cond (Nat.beq b.t 96)
                     (∃ w16 : W_expr_Ref, (b.x = w16.t) ∧
                      (∃ n10 : Int, (Rn 174 [w16.t] ((i64 n10), [.dead])) ∧
                       (cond (decide ((n6 : Int) = n10))
                        (∃ b9 : Bool, (Rn 81 [(.sl 1 l), (.sl 1 l1), (.s (.func (.func 56) #[] #[]))] ((tb b9), [.dead, .dead, .dead])) ∧
                         (R = ((tb b9), [.dead, .dead])))
                        (R = ((tb false), [.dead, .dead])))))
                     (cond (Nat.beq b.t 98)
                      (∃ w15 : W_expr_Not, (b.x = w15.t) ∧
                       (∃ n9 : Int, (Rn 175 [w15.t] ((i64 n9), [.dead])) ∧
                        (cond (decide ((n6 : Int) = n9))
                         (∃ b8 : Bool, (Rn 81 [(.sl 1 l), (.sl 1 l1), (.s (.func (.func 56) #[] #[]))] ((tb b8), [.dead, .dead, .dead])) ∧
                          (R = ((tb b8), [.dead, .dead])))
                         (R = ((tb false), [.dead, .dead])))))
                      (cond (Nat.beq b.t 99)
                       (∃ w14 : W_expr_Neg, (b.x = w14.t) ∧
                        (∃ n8 : Int, (Rn 176 [w14.t] ((i64 n8), [.dead])) ∧
                         (cond (decide ((n6 : Int) = n8))
                          (∃ b7 : Bool, (Rn 81 [(.sl 1 l), (.sl 1 l1), (.s (.func (.func 56) #[] #[]))] ((tb b7), [.dead, .dead, .dead])) ∧
                           (R = ((tb b7), [.dead, .dead])))
                          (R = ((tb false), [.dead, .dead])))))
                       (cond (Nat.beq b.t 101)
                        (∃ w13 : W_expr_Bin, (b.x = w13.t) ∧
                         (∃ n7 : Int, (Rn 177 [w13.t] ((i64 n7), [.dead])) ∧
                          (cond (decide ((n6 : Int) = n7))
                           (∃ b6 : Bool, (Rn 81 [(.sl 1 l), (.sl 1 l1), (.s (.func (.func 56) #[] #[]))] ((tb b6), [.dead, .dead, .dead])) ∧
                            (R = ((tb b6), [.dead, .dead])))
                           (R = ((tb false), [.dead, .dead])))))
                        (False))))))))
                 (cond (Nat.beq e.t 101)
                  (∃ w6 : W_expr_Bin, (e.x = w6.t) ∧
                   (∃ n : Int, (Rn 177 [w6.t] ((i64 n), [.dead])) ∧
                    (cond (Nat.beq b.t 81)
                     (∃ w11 : W_expr_Lit, (b.x = w11.t) ∧
                      (∃ n5 : Int, (Rn 173 [w11.t] ((i64 n5), [.dead])) ∧
                       (cond (decide ((n : Int) = n5))
                        (∃ b5 : Bool, (Rn 81 [(.sl 1 l), (.sl 1 l1), (.s (.func (.func 56) #[] #[]))] ((tb b5), [.dead, .dead, .dead])) ∧
                         (R = ((tb b5), [.dead, .dead])))
                        (R = ((tb false), [.dead, .dead])))))
                     (cond (Nat.beq b.t 96)
                      (∃ w10 : W_expr_Ref, (b.x = w10.t) ∧
                       (∃ n4 : Int, (Rn 174 [w10.t] ((i64 n4), [.dead])) ∧
                        (cond (decide ((n : Int) = n4))
                         (∃ b4 : Bool, (Rn 81 [(.sl 1 l), (.sl 1 l1), (.s (.func (.func 56) #[] #[]))] ((tb b4), [.dead, .dead, .dead])) ∧
                          (R = ((tb b4), [.dead, .dead])))
                         (R = ((tb false), [.dead, .dead])))))
                      (cond (Nat.beq b.t 98)
                       (∃ w9 : W_expr_Not, (b.x = w9.t) ∧
                        (∃ n3 : Int, (Rn 175 [w9.t] ((i64 n3), [.dead])) ∧
                         (cond (decide ((n : Int) = n3))
                          (∃ b3 : Bool, (Rn 81 [(.sl 1 l), (.sl 1 l1), (.s (.func (.func 56) #[] #[]))] ((tb b3), [.dead, .dead, .dead])) ∧
                           (R = ((tb b3), [.dead, .dead])))
                          (R = ((tb false), [.dead, .dead])))))
                       (cond (Nat.beq b.t 99)
                        (∃ w8 : W_expr_Neg, (b.x = w8.t) ∧
                         (∃ n2 : Int, (Rn 176 [w8.t] ((i64 n2), [.dead])) ∧
                          (cond (decide ((n : Int) = n2))
                           (∃ b2 : Bool, (Rn 81 [(.sl 1 l), (.sl 1 l1), (.s (.func (.func 56) #[] #[]))] ((tb b2), [.dead, .dead, .dead])) ∧
                            (R = ((tb b2), [.dead, .dead])))
                           (R = ((tb false), [.dead, .dead])))))
                        (cond (Nat.beq b.t 101)
                         (∃ w7 : W_expr_Bin, (b.x = w7.t) ∧
                          (∃ n1 : Int, (Rn 177 [w7.t] ((i64 n1), [.dead])) ∧
                           (cond (decide ((n : Int) = n1))
                            (∃ b1 : Bool, (Rn 81 [(.sl 1 l), (.sl 1 l1), (.s (.func (.func 56) #[] #[]))] ((tb b1), [.dead, .dead, .dead])) ∧
                             (R = ((tb b1), [.dead, .dead])))
                            (R = ((tb false), [.dead, .dead])))))
                         (False))))))))
                  (False))))))
             (R = ((tb false), [.dead, .dead])))))
          (R = ((tb false), [.dead, .dead]))))
        (cond (decide ((0 : Int) < (((List.length l) : Nat) : Int)))
         (cond (Nat.beq e.t 81)
          (∃ w60 : W_expr_Lit, (e.x = w60.t) ∧
           (∃ n54 : Int, (Rn 173 [w60.t] ((i64 n54), [.dead])) ∧
            (cond (Nat.beq b.t 81)
             (∃ w65 : W_expr_Lit, (b.x = w65.t) ∧
              (∃ n59 : Int, (Rn 173 [w65.t] ((i64 n59), [.dead])) ∧
               (cond (decide ((n54 : Int) = n59))
                (∃ b50 : Bool, (Rn 81 [(.sl 1 l), (.sl 1 l1), (.s (.func (.func 56) #[] #[]))] ((tb b50), [.dead, .dead, .dead])) ∧
                 (R = ((tb b50), [.dead, .dead])))
                (R = ((tb false), [.dead, .dead])))))
             (cond (Nat.beq b.t 96)
              (∃ w64 : W_expr_Ref, (b.x = w64.t) ∧
               (∃ n58 : Int, (Rn 174 [w64.t] ((i64 n58), [.dead])) ∧
                (cond (decide ((n54 : Int) = n58))
                 (∃ b49 : Bool, (Rn 81 [(.sl 1 l), (.sl 1 l1), (.s (.func (.func 56) #[] #[]))] ((tb b49), [.dead, .dead, .dead])) ∧
                  (R = ((tb b49), [.dead, .dead])))
                 (R = ((tb false), [.dead, .dead])))))
              (cond (Nat.beq b.t 98)
               (∃ w63 : W_expr_Not, (b.x = w63.t) ∧
                (∃ n57 : Int, (Rn 175 [w63.t] ((i64 n57), [.dead])) ∧
                 (cond (decide ((n54 : Int) = n57))
                  (∃ b48 : Bool, (Rn 81 [(.sl 1 l), (.sl 1 l1), (.s (.func (.func 56) #[] #[]))] ((tb b48), [.dead, .dead, .dead])) ∧
                   (R = ((tb b48), [.dead, .dead])))
                  (R = ((tb false), [.dead, .dead])))))
               (cond (Nat.beq b.t 99)
                (∃ w62 : W_expr_Neg, (b.x = w62.t) ∧
                 (∃ n56 : Int, (Rn 176 [w62.t] ((i64 n56), [.dead])) ∧
                  (cond (decide ((n54 : Int) = n56))
                   (∃ b47 : Bool, (Rn 81 [(.sl 1 l), (.sl 1 l1), (.s (.func (.func 56) #[] #[]))] ((tb b47), [.dead, .dead, .dead])) ∧
                    (R = ((tb b47), [.dead, .dead])))
                   (R = ((tb false), [.dead, .dead])))))
                (cond (Nat.beq b.t 101)
                 (∃ w61 : W_expr_Bin, (b.x = w61.t) ∧
                  (∃ n55 : Int, (Rn 177 [w61.t] ((i64 n55), [.dead])) ∧
                   (cond (decide ((n54 : Int) = n55))
                    (∃ b46 : Bool, (Rn 81 [(.sl 1 l), (.sl 1 l1), (.s (.func (.func 56) #[] #[]))] ((tb b46), [.dead, .dead, .dead])) ∧
                     (R = ((tb b46), [.dead, .dead])))
                    (R = ((tb false), [.dead, .dead])))))
                 (False))))))))
          (cond (Nat.beq e.t 96)
           (∃ w54 : W_expr_Ref, (e.x = w54.t) ∧
            (∃ n48 : Int, (Rn 174 [w54.t] ((i64 n48), [.dead])) ∧
             (cond (Nat.beq b.t 81)
              (∃ w59 : W_expr_Lit, (b.x = w59.t) ∧
               (∃ n53 : Int, (Rn 173 [w59.t] ((i64 n53), [.dead])) ∧
                (cond (decide ((n48 : Int) = n53))
                 (∃ b45 : Bool, (Rn 81 [(.sl 1 l), (.sl 1 l1), (.s (.func (.func 56) #[] #[]))] ((tb b45), [.dead, .dead, .dead])) ∧
                  (R = ((tb b45), [.dead, .dead])))
                 (R = ((tb false), [.dead, .dead])))))
              (cond (Nat.beq b.t 96)
               (∃ w58 : W_expr_Ref, (b.x = w58.t) ∧
                (∃ n52 : Int, (Rn 174 [w58.t] ((i64 n52), [.dead])) ∧
                 (cond (decide ((n48 : Int) = n52))
                  (∃ b44 : Bool, (Rn 81 [(.sl 1 l), (.sl 1 l1), (.s (.func (.func 56) #[] #[]))] ((tb b44), [.dead, .dead, .dead])) ∧
                   (R = ((tb b44), [.dead, .dead])))
                  (R = ((tb false), [.dead, .dead])))))
               (cond (Nat.beq b.t 98)
                (∃ w57 : W_expr_Not, (b.x = w57.t) ∧
                 (∃ n51 : Int, (Rn 175 [w57.t] ((i64 n51), [.dead])) ∧
                  (cond (decide ((n48 : Int) = n51))
                   (∃ b43 : Bool, (Rn 81 [(.sl 1 l), (.sl 1 l1), (.s (.func (.func 56) #[] #[]))] ((tb b43), [.dead, .dead, .dead])) ∧
                    (R = ((tb b43), [.dead, .dead])))
                   (R = ((tb false), [.dead, .dead])))))
                (cond (Nat.beq b.t 99)
                 (∃ w56 : W_expr_Neg, (b.x = w56.t) ∧
                  (∃ n50 : Int, (Rn 176 [w56.t] ((i64 n50), [.dead])) ∧
                   (cond (decide ((n48 : Int) = n50))
                    (∃ b42 : Bool, (Rn 81 [(.sl 1 l), (.sl 1 l1), (.s (.func (.func 56) #[] #[]))] ((tb b42), [.dead, .dead, .dead])) ∧
                     (R = ((tb b42), [.dead, .dead])))
                    (R = ((tb false), [.dead, .dead])))))
                 (cond (Nat.beq b.t 101)
                  (∃ w55 : W_expr_Bin, (b.x = w55.t) ∧
                   (∃ n49 : Int, (Rn 177 [w55.t] ((i64 n49), [.dead])) ∧
                    (cond (decide ((n48 : Int) = n49))
                     (∃ b41 : Bool, (Rn 81 [(.sl 1 l), (.sl 1 l1), (.s (.func (.func 56) #[] #[]))] ((tb b41), [.dead, .dead, .dead])) ∧
                      (R = ((tb b41), [.dead, .dead])))
                     (R = ((tb false), [.dead, .dead])))))
                  (False))))))))
           (cond (Nat.beq e.t 98)
            (∃ w48 : W_expr_Not, (e.x = w48.t) ∧
             (∃ n42 : Int, (Rn 175 [w48.t] ((i64 n42), [.dead])) ∧
              (cond (Nat.beq b.t 81)
               (∃ w53 : W_expr_Lit, (b.x = w53.t) ∧
                (∃ n47 : Int, (Rn 173 [w53.t] ((i64 n47), [.dead])) ∧
                 (cond (decide ((n42 : Int) = n47))
                  (∃ b40 : Bool, (Rn 81 [(.sl 1 l), (.sl 1 l1), (.s (.func (.func 56) #[] #[]))] ((tb b40), [.dead, .dead, .dead])) ∧
                   (R = ((tb b40), [.dead, .dead])))
                  (R = ((tb false), [.dead, .dead])))))
               (cond (Nat.beq b.t 96)
                (∃ w52 : W_expr_Ref, (b.x = w52.t) ∧
                 (∃ n46 : Int, (Rn 174 [w52.t] ((i64 n46), [.dead])) ∧
                  (cond (decide ((n42 : Int) = n46))
                   (∃ b39 : Bool, (Rn 81 [(.sl 1 l), (.sl 1 l1), (.s (.func (.func 56) #[] #[]))] ((tb b39), [.dead, .dead, .dead])) ∧
                    (R = ((tb b39), [.dead, .dead])))
                   (R = ((tb false), [.dead, .dead])))))
                (cond (Nat.beq b.t 98)
                 (∃ w51 : W_expr_Not, (b.x = w51.t) ∧
                  (∃ n45 : Int, (Rn 175 [w51.t] ((i64 n45), [.dead])) ∧
                   (cond (decide ((n42 : Int) = n45))
                    (∃ b38 : Bool, (Rn 81 [(.sl 1 l), (.sl 1 l1), (.s (.func (.func 56) #[] #[]))] ((tb b38), [.dead, .dead, .dead])) ∧
                     (R = ((tb b38), [.dead, .dead])))
                    (R = ((tb false), [.dead, .dead])))))
                 (cond (Nat.beq b.t 99)
                  (∃ w50 : W_expr_Neg, (b.x = w50.t) ∧
                   (∃ n44 : Int, (Rn 176 [w50.t] ((i64 n44), [.dead])) ∧
                    (cond (decide ((n42 : Int) = n44))
                     (∃ b37 : Bool, (Rn 81 [(.sl 1 l), (.sl 1 l1), (.s (.func (.func 56) #[] #[]))] ((tb b37), [.dead, .dead, .dead])) ∧
                      (R = ((tb b37), [.dead, .dead])))
                     (R = ((tb false), [.dead, .dead])))))
                  (cond (Nat.beq b.t 101)
                   (∃ w49 : W_expr_Bin, (b.x = w49.t) ∧
                    (∃ n43 : Int, (Rn 177 [w49.t] ((i64 n43), [.dead])) ∧
                     (cond (decide ((n42 : Int) = n43))
                      (∃ b36 : Bool, (Rn 81 [(.sl 1 l), (.sl 1 l1), (.s (.func (.func 56) #[] #[]))] ((tb b36), [.dead, .dead, .dead])) ∧
                       (R = ((tb b36), [.dead, .dead])))
                      (R = ((tb false), [.dead, .dead])))))
                   (False))))))))
            (cond (Nat.beq e.t 99)
             (∃ w42 : W_expr_Neg, (e.x = w42.t) ∧
              (∃ n36 : Int, (Rn 176 [w42.t] ((i64 n36), [.dead])) ∧
               (cond (Nat.beq b.t 81)
                (∃ w47 : W_expr_Lit, (b.x = w47.t) ∧
                 (∃ n41 : Int, (Rn 173 [w47.t] ((i64 n41), [.dead])) ∧
                  (cond (decide ((n36 : Int) = n41))
                   (∃ b35 : Bool, (Rn 81 [(.sl 1 l), (.sl 1 l1), (.s (.func (.func 56) #[] #[]))] ((tb b35), [.dead, .dead, .dead])) ∧
                    (R = ((tb b35), [.dead, .dead])))
                   (R = ((tb false), [.dead, .dead])))))
                (cond (Nat.beq b.t 96)
                 (∃ w46 : W_expr_Ref, (b.x = w46.t) ∧
                  (∃ n40 : Int, (Rn 174 [w46.t] ((i64 n40), [.dead])) ∧
                   (cond (decide ((n36 : Int) = n40))
                    (∃ b34 : Bool, (Rn 81 [(.sl 1 l), (.sl 1 l1), (.s (.func (.func 56) #[] #[]))] ((tb b34), [.dead, .dead, .dead])) ∧
                     (R = ((tb b34), [.dead, .dead])))
                    (R = ((tb false), [.dead, .dead])))))
                 (cond (Nat.beq b.t 98)
                  (∃ w45 : W_expr_Not, (b.x = w45.t) ∧
                   (∃ n39 : Int, (Rn 175 [w45.t] ((i64 n39), [.dead])) ∧
                    (cond (decide ((n36 : Int) = n39))
                     (∃ b33 : Bool, (Rn 81 [(.sl 1 l), (.sl 1 l1), (.s (.func (.func 56) #[] #[]))] ((tb b33), [.dead, .dead, .dead])) ∧
                      (R = ((tb b33), [.dead, .dead])))
                     (R = ((tb false), [.dead, .dead])))))
                  (cond (Nat.beq b.t 99)
                   (∃ w44 : W_expr_Neg, (b.x = w44.t) ∧
                    (∃ n38 : Int, (Rn 176 [w44.t] ((i64 n38), [.dead])) ∧
                     (cond (decide ((n36 : Int) = n38))
                      (∃ b32 : Bool, (Rn 81 [(.sl 1 l), (.sl 1 l1), (.s (.func (.func 56) #[] #[]))] ((tb b32), [.dead, .dead, .dead])) ∧
                       (R = ((tb b32), [.dead, .dead])))
                      (R = ((tb false), [.dead, .dead])))))
                   (cond (Nat.beq b.t 101)
                    (∃ w43 : W_expr_Bin, (b.x = w43.t) ∧
                     (∃ n37 : Int, (Rn 177 [w43.t] ((i64 n37), [.dead])) ∧
                      (cond (decide ((n36 : Int) = n37))
                       (∃ b31 : Bool, (Rn 81 [(.sl 1 l), (.sl 1 l1), (.s (.func (.func 56) #[] #[]))] ((tb b31), [.dead, .dead, .dead])) ∧
                        (R = ((tb b31), [.dead, .dead])))
                       (R = ((tb false), [.dead, .dead])))))
                    (False))))))))
             (cond (Nat.beq e.t 101)
              (∃ w36 : W_expr_Bin, (e.x = w36.t) ∧
               (∃ n30 : Int, (Rn 177 [w36.t] ((i64 n30), [.dead])) ∧
                (cond (Nat.beq b.t 81)
                 (∃ w41 : W_expr_Lit, (b.x = w41.t) ∧
                  (∃ n35 : Int, (Rn 173 [w41.t] ((i64 n35), [.dead])) ∧
                   (cond (decide ((n30 : Int) = n35))
                    (∃ b30 : Bool, (Rn 81 [(.sl 1 l), (.sl 1 l1), (.s (.func (.func 56) #[] #[]))] ((tb b30), [.dead, .dead, .dead])) ∧
                     (R = ((tb b30), [.dead, .dead])))
                    (R = ((tb false), [.dead, .dead])))))
                 (cond (Nat.beq b.t 96)
                  (∃ w40 : W_expr_Ref, (b.x = w40.t) ∧
                   (∃ n34 : Int, (Rn 174 [w40.t] ((i64 n34), [.dead])) ∧
                    (cond (decide ((n30 : Int) = n34))
                     (∃ b29 : Bool, (Rn 81 [(.sl 1 l), (.sl 1 l1), (.s (.func (.func 56) #[] #[]))] ((tb b29), [.dead, .dead, .dead])) ∧
                      (R = ((tb b29), [.dead, .dead])))
                     (R = ((tb false), [.dead, .dead])))))
                  (cond (Nat.beq b.t 98)
                   (∃ w39 : W_expr_Not, (b.x = w39.t) ∧
                    (∃ n33 : Int, (Rn 175 [w39.t] ((i64 n33), [.dead])) ∧
                     (cond (decide ((n30 : Int) = n33))
                      (∃ b28 : Bool, (Rn 81 [(.sl 1 l), (.sl 1 l1), (.s (.func (.func 56) #[] #[]))] ((tb b28), [.dead, .dead, .dead])) ∧
                       (R = ((tb b28), [.dead, .dead])))
                      (R = ((tb false), [.dead, .dead])))))
                   (cond (Nat.beq b.t 99)
                    (∃ w38 : W_expr_Neg, (b.x = w38.t) ∧
                     (∃ n32 : Int, (Rn 176 [w38.t] ((i64 n32), [.dead])) ∧
                      (cond (decide ((n30 : Int) = n32))
                       (∃ b27 : Bool, (Rn 81 [(.sl 1 l), (.sl 1 l1), (.s (.func (.func 56) #[] #[]))] ((tb b27), [.dead, .dead, .dead])) ∧
                        (R = ((tb b27), [.dead, .dead])))
                       (R = ((tb false), [.dead, .dead])))))
                    (cond (Nat.beq b.t 101)
                     (∃ w37 : W_expr_Bin, (b.x = w37.t) ∧
                      (∃ n31 : Int, (Rn 177 [w37.t] ((i64 n31), [.dead])) ∧
                       (cond (decide ((n30 : Int) = n31))
                        (∃ b26 : Bool, (Rn 81 [(.sl 1 l), (.sl 1 l1), (.s (.func (.func 56) #[] #[]))] ((tb b26), [.dead, .dead, .dead])) ∧
                         (R = ((tb b26), [.dead, .dead])))
                        (R = ((tb false), [.dead, .dead])))))
                     (False))))))))
              (False))))))
         (R = ((tb false), [.dead, .dead])))))))))) : Rn 56 [e.v, b.v] R := by
  refine fn_rule (ann := A56) (mv := MV) (fz := true) mixed Tryd.func56 (c := B56) (by kernel_rfl) (by decide) ?_
  all_goals revert h
  all_goals refine via ?_
  all_goals kernel_rfl
/- (*tumbrel/guard.parser).climb -/
noncomputable def A57 : Ann := mkAnn [(17448, (fun a => [.ex (IfV) fun e => .ex (List T) fun l => .ex (Int) fun n => .ex (Bool) fun b => .done (e.v, [(.cbox 111 [(.sl 4 l), (i64 n), (tb b)])])])), (66600, (fun a => [.ex (W_glyph_Word) fun w => .ex (List T) fun l => .ex (Int) fun n => .ex (Bool) fun b => .done (w.t, [(.cbox 111 [(.sl 4 l), (i64 n), (tb b)])])])), (83048, (fun a => [.ex (Int) fun n => .done ((i64 n), [.dead])])), (132264, (fun a => [.ex (IfV) fun e => .ex (List T) fun l => .ex (Int) fun n => .ex (Bool) fun b => .done (e.v, [(.cbox 111 [(.sl 4 l), (i64 n), (tb b)]), .dead])]))] [] [] [(116, [0, 1, 5, 6])]
noncomputable abbrev B57 : Code := Tryd.f57.body.getD .skip
def L57_0 (least : Int) (left : IfV) (most : Int) (w : W_guard_parser) (R : T × List T) : Prop := CutL Tryd.prog Tryd.f57 B57 true [1, 1, 0, 1, 0, 0] (mkSt 58 [(0, (.ptr (0, 0) 0)), (1, (i64 least)), (5, left.v), (6, (i64 most))] [((0, 0), .box 111 [(.sl 4 w.fwords), (i64 w.fat), (tb w.fbad)])]) [(.ptr (0, 0) 0), .dead] R
set_option maxRecDepth 100000 in
theorem l57_0 (least : Int) (left : IfV) (most : Int) (w : W_guard_parser) (R : T × List T) (h : cond (!w.fbad)
  (∃ w1 : W_glyph_Word, ∃ l : List T, ∃ n : Int, ∃ b : Bool, (Rn 83 [(.cbox 111 [(.sl 4 w.fwords), (i64 w.fat), (tb w.fbad)])] (w1.t, [(.cbox 111 [(.sl 4 l), (i64 n), (tb b)])])) ∧
   (∃ n1 : Int, (Rn 84 [(st w1.fText)] ((i64 n1), [.dead])) ∧
    (cond (!(decide ((w1.fKind : Int) = 3)))
     (R = (left.v, [(.cbox 111 [(.sl 4 l), (i64 n), (tb b)]), .dead]))
     (cond (decide ((n1 : Int) < least))
      (R = (left.v, [(.cbox 111 [(.sl 4 l), (i64 n), (tb b)]), .dead]))
      (cond (decide ((most : Int) < n1))
       (R = (left.v, [(.cbox 111 [(.sl 4 l), (i64 n), (tb b)]), .dead]))
       (∃ e : IfV, ∃ l1 : List T, ∃ n2 : Int, ∃ b1 : Bool, (Rn 57 [(.cbox 111 [(.sl 4 l), (i64 (IntKind.wrap .i64 (n + 1))), (tb b)]), (i64 (IntKind.wrap .i64 (n1 + 1)))] (e.v, [(.cbox 111 [(.sl 4 l1), (i64 n2), (tb b1)]), .dead])) ∧
        (cond (decide ((n1 : Int) = 3))
         (L57_0 least ⟨101, (.agg [(st w1.fText), left.v, e.v])⟩ (IntKind.wrap .i64 (n1 - 1)) ⟨l1, n2, b1⟩ R)
         (L57_0 least ⟨101, (.agg [(st w1.fText), left.v, e.v])⟩ n1 ⟨l1, n2, b1⟩ R))))))))
  (R = (left.v, [(.cbox 111 [(.sl 4 w.fwords), (i64 w.fat), (tb w.fbad)]), .dead]))) : L57_0 least left most w R := by
  unfold L57_0
  refine cutL_rule (ann := A57) (mv := MV) mixed (by kernel_rfl) ?_
  all_goals revert h
  all_goals refine via ?_
  all_goals kernel_rfl
set_option maxRecDepth 100000 in
theorem f57 (l : List T) (n : Int) (b : Bool) (least : Int) (R : T × List T) (h : ∃ e : IfV, ∃ l1 : List T, ∃ n1 : Int, ∃ b1 : Bool, (Rn 82 [(.cbox 111 [(.sl 4 l), (i64 n), (tb b)])] (e.v, [(.cbox 111 [(.sl 4 l1), (i64 n1), (tb b1)])])) ∧
  (L57_0 least e 6 ⟨l1, n1, b1⟩ R)) : Rn 57 [(.cbox 111 [(.sl 4 l), (i64 n), (tb b)]), (i64 least)] R := by
  refine fn_rule (ann := A57) (mv := MV) (fz := true) mixed Tryd.func57 (c := B57) (by kernel_rfl) (by decide) ?_
  all_goals revert h
  all_goals refine via ?_
  all_goals kernel_rfl
/- tumbrel/expr.Formed -/
noncomputable def A43 : Ann := mkAnn [(17448, (fun a => [.ex (Int) fun n => .done ((i64 n), [.dead])])), (17704, (fun a => [.ex (Bool) fun b => .done ((tb b), [.dead, .dead])]))] [] [] []
noncomputable abbrev B43 : Code := Tryd.f43.body.getD .skip
set_option maxRecDepth 100000 in
theorem f43 (e : IfV) (R : T × List T) (h : ∃ n : Int, (Rn 62 [e.v] ((i64 n), [.dead])) ∧
  (cond (decide ((n : Int) ≤ 40))
   (∃ b : Bool, (Rn 63 [e.v, (i64 12)] ((tb b), [.dead, .dead])) ∧
    (R = ((tb b), [.dead])))
   (R = ((tb false), [.dead])))) : Rn 43 [e.v] R := by
  refine fn_rule (ann := A43) (mv := MV) (fz := true) mixed Tryd.func43 (c := B43) (by kernel_rfl) (by decide) ?_
  all_goals revert h
  all_goals refine via ?_
  all_goals kernel_rfl
/- (*tumbrel/tumbrelref04.reader).binary -/
noncomputable def A58 : Ann := mkAnn [(33832, (fun a => [.ex (W_tumbrelref04_Node) fun w => .ex (List T) fun l => .ex (Int) fun n => .ex (Int) fun n1 => .done (w.t, [(.cbox 114 [(.sl 4 l), (i64 n), (i64 n1)])])])), (50344, (fun a => [.ex (W_tumbrelref04_Node) fun w => .ex (List T) fun l => .ex (Int) fun n => .ex (Int) fun n1 => .done (w.t, [(.cbox 114 [(.sl 4 l), (i64 n), (i64 n1)]), .dead])])), (68392, (fun a => [.ex (Int) fun n => .done ((i64 n), [.dead])])), (115880, (fun a => [.ex (W_tumbrelref04_Node) fun w => .ex (List T) fun l => .ex (Int) fun n => .ex (Int) fun n1 => .done (w.t, [(.cbox 114 [(.sl 4 l), (i64 n), (i64 n1)]), .dead])]))] [(68200, [.ex W_tumbrelref03_Word fun w => .done w.t]), (83432, [.ex W_tumbrelref03_Word fun w => .done w.t])] [] [(120, [0, 1, 4, 5])]
noncomputable abbrev B58 : Code := Tryd.f58.body.getD .skip
def L58_0 (n : Int) (w : W_tumbrelref04_reader) (n1 : Int) (n2 : Int) (s : ByteArray) (w1 : W_tumbrelref04_Node) (R : T × List T) : Prop := CutL Tryd.prog Tryd.f58 B58 true [1, 1, 1, 0, 0, 0] (mkSt 79 [(0, (.ptr (0, 0) 0)), (1, (i64 n)), (4, (.ptr (1000000005, 0) 0)), (5, (.ptr (1000000006, 0) 0))] [((0, 0), .box 114 [(.sl 4 w.fl), (i64 w.fat), (i64 w.fbad)]), ((1000000005, 0), .box 37 [(i64 n1), (i64 n2), (st s), nilS]), ((1000000006, 0), .box 37 [(i64 w1.fKind), (i64 w1.fN), (st w1.fS), (.sl 4 w1.fParts)])]) [(.ptr (0, 0) 0), .dead] R
def L58_0a (n : Int) (w : W_tumbrelref04_reader) (n1 : Int) (n2 : Int) (s : ByteArray) (n3 : Int) (n4 : Int) (s1 : ByteArray) (l : List T) (R : T × List T) : Prop := CutL Tryd.prog Tryd.f58 B58 true [1, 1, 1, 0, 0, 0] (mkSt 79 [(0, (.ptr (0, 0) 0)), (1, (i64 n)), (4, (.ptr (1000000005, 0) 0)), (5, (.ptr (1000000006, 0) 0))] [((0, 0), .box 114 [(.sl 4 w.fl), (i64 w.fat), (i64 w.fbad)]), ((1000000005, 0), .box 37 [(i64 n1), (i64 n2), (st s), nilS]), ((1000000006, 0), .box 37 [(i64 n3), (i64 n4), (st s1), (.own (1000000772, 0))]), ((1000000772, 0), .arr 37 4 l)]) [(.ptr (0, 0) 0), .dead] R
set_option maxRecDepth 100000 in
theorem l58_0 (n : Int) (w : W_tumbrelref04_reader) (n1 : Int) (n2 : Int) (s : ByteArray) (w1 : W_tumbrelref04_Node) (R : T × List T) (h : cond (decide ((w.fbad : Int) < 0))
  (cond (decide ((w.fat : Int) < (((List.length w.fl) : Nat) : Int)))
   (∃ w2 : W_tumbrelref03_Word, ((0 : Int) ≤ w.fat ∧ w.fl[(Int.toNat w.fat)]? = some w2.t) ∧
    (∃ n3 : Int, (Rn 86 [(st w2.fText)] ((i64 n3), [.dead])) ∧
     (cond (decide ((n3 : Int) = n))
      (∃ w3 : W_tumbrelref03_Word, ((0 : Int) ≤ w.fat ∧ w.fl[(Int.toNat w.fat)]? = some w3.t) ∧
       (∃ w4 : W_tumbrelref04_Node, ∃ l : List T, ∃ n4 : Int, ∃ n5 : Int, (Rn 58 [(.cbox 114 [(.sl 4 w.fl), (i64 (IntKind.wrap .i64 (w.fat + 1))), (i64 w.fbad)]), (i64 (IntKind.wrap .i64 (n + 1)))] (w4.t, [(.cbox 114 [(.sl 4 l), (i64 n4), (i64 n5)]), .dead])) ∧
        (cond (decide ((n : Int) = 3))
         (R = ((.agg [(i64 5), (i64 0), (st w3.fText), (.sl 4 [w1.t, w4.t])]), [(.cbox 114 [(.sl 4 l), (i64 n4), (i64 n5)]), .dead]))
         (L58_0a n ⟨l, n4, n5⟩ n1 n2 s 5 0 w3.fText ([w1.t, w4.t] : List T) R))))
      (R = (w1.t, [(.cbox 114 [(.sl 4 w.fl), (i64 w.fat), (i64 w.fbad)]), .dead])))))
   (R = (w1.t, [(.cbox 114 [(.sl 4 w.fl), (i64 w.fat), (i64 w.fbad)]), .dead])))
  (R = (w1.t, [(.cbox 114 [(.sl 4 w.fl), (i64 w.fat), (i64 w.fbad)]), .dead]))) : L58_0 n w n1 n2 s w1 R := by
  unfold L58_0
  refine cutL_rule (ann := A58) (mv := MV) mixed (by kernel_rfl) ?_
  all_goals revert h
  all_goals refine via ?_
  all_goals kernel_rfl
set_option maxRecDepth 100000 in
theorem l58_0a (n : Int) (w : W_tumbrelref04_reader) (n1 : Int) (n2 : Int) (s : ByteArray) (n3 : Int) (n4 : Int) (s1 : ByteArray) (l : List T) (R : T × List T) (h : cond (decide ((w.fbad : Int) < 0))
  (cond (decide ((w.fat : Int) < (((List.length w.fl) : Nat) : Int)))
   (∃ w1 : W_tumbrelref03_Word, ((0 : Int) ≤ w.fat ∧ w.fl[(Int.toNat w.fat)]? = some w1.t) ∧
    (∃ n5 : Int, (Rn 86 [(st w1.fText)] ((i64 n5), [.dead])) ∧
     (cond (decide ((n5 : Int) = n))
      (∃ w2 : W_tumbrelref03_Word, ((0 : Int) ≤ w.fat ∧ w.fl[(Int.toNat w.fat)]? = some w2.t) ∧
       (∃ w3 : W_tumbrelref04_Node, ∃ l1 : List T, ∃ n6 : Int, ∃ n7 : Int, (Rn 58 [(.cbox 114 [(.sl 4 w.fl), (i64 (IntKind.wrap .i64 (w.fat + 1))), (i64 w.fbad)]), (i64 (IntKind.wrap .i64 (n + 1)))] (w3.t, [(.cbox 114 [(.sl 4 l1), (i64 n6), (i64 n7)]), .dead])) ∧
        (cond (decide ((n : Int) = 3))
         (R = ((.agg [(i64 5), (i64 0), (st w2.fText), (.sl 4 [(.agg [(i64 n3), (i64 n4), (st s1), (.sl 4 l)]), w3.t])]), [(.cbox 114 [(.sl 4 l1), (i64 n6), (i64 n7)]), .dead]))
         (L58_0a n ⟨l1, n6, n7⟩ n1 n2 s 5 0 w2.fText ([(.agg [(i64 n3), (i64 n4), (st s1), (.sl 4 l)]), w3.t] : List T) R))))
      (R = ((.agg [(i64 n3), (i64 n4), (st s1), (.sl 4 l)]), [(.cbox 114 [(.sl 4 w.fl), (i64 w.fat), (i64 w.fbad)]), .dead])))))
   (R = ((.agg [(i64 n3), (i64 n4), (st s1), (.sl 4 l)]), [(.cbox 114 [(.sl 4 w.fl), (i64 w.fat), (i64 w.fbad)]), .dead])))
  (R = ((.agg [(i64 n3), (i64 n4), (st s1), (.sl 4 l)]), [(.cbox 114 [(.sl 4 w.fl), (i64 w.fat), (i64 w.fbad)]), .dead]))) : L58_0a n w n1 n2 s n3 n4 s1 l R := by
  unfold L58_0a
  refine cutL_rule (ann := A58) (mv := MV) mixed (by kernel_rfl) ?_
  all_goals revert h
  all_goals refine via ?_
  all_goals kernel_rfl
set_option maxRecDepth 100000 in
theorem f58 (l : List T) (n : Int) (n1 : Int) (n2 : Int) (R : T × List T) (h : cond (decide ((n2 : Int) = 6))
  (∃ w : W_tumbrelref04_Node, ∃ l1 : List T, ∃ n3 : Int, ∃ n4 : Int, (Rn 85 [(.cbox 114 [(.sl 4 l), (i64 n), (i64 n1)])] (w.t, [(.cbox 114 [(.sl 4 l1), (i64 n3), (i64 n4)])])) ∧
   (R = (w.t, [(.cbox 114 [(.sl 4 l1), (i64 n3), (i64 n4)]), .dead])))
  (∃ w1 : W_tumbrelref04_Node, ∃ l2 : List T, ∃ n5 : Int, ∃ n6 : Int, (Rn 58 [(.cbox 114 [(.sl 4 l), (i64 n), (i64 n1)]), (i64 (IntKind.wrap .i64 (n2 + 1)))] (w1.t, [(.cbox 114 [(.sl 4 l2), (i64 n5), (i64 n6)]), .dead])) ∧
   (L58_0 n2 ⟨l2, n5, n6⟩ 0 0 (bs []) w1 R))) : Rn 58 [(.cbox 114 [(.sl 4 l), (i64 n), (i64 n1)]), (i64 n2)] R := by
  refine fn_rule (ann := A58) (mv := MV) (fz := true) mixed Tryd.func58 (c := B58) (by kernel_rfl) (by decide) ?_
  all_goals revert h
  all_goals refine via ?_
  all_goals kernel_rfl
/- tumbrel/tumbrelref04.Formed -/
noncomputable def A50 : Ann := mkAnn [(17448, (fun a => [.ex (Int) fun n => .done ((i64 n), [.dead])])), (17704, (fun a => [.ex (Int) fun n => .done ((i64 n), [.dead])])), (18024, (fun a => [.ex (Bool) fun b => .done ((tb b), [.dead])]))] [] [] []
noncomputable abbrev B50 : Code := Tryd.f50.body.getD .skip
set_option maxRecDepth 100000 in
theorem f50 (w : W_tumbrelref04_Node) (R : T × List T) (h : ∃ n : Int, (Rn 73 [w.t] ((i64 n), [.dead])) ∧
  (cond (decide ((n : Int) ≤ 40))
   (∃ n1 : Int, (Rn 74 [w.t] ((i64 n1), [.dead])) ∧
    (cond (decide ((n1 : Int) ≤ 12))
     (∃ b : Bool, (Rn 75 [w.t] ((tb b), [.dead])) ∧
      (R = ((tb b), [.dead])))
     (R = ((tb false), [.dead]))))
   (R = ((tb false), [.dead])))) : Rn 50 [w.t] R := by
  refine fn_rule (ann := A50) (mv := MV) (fz := true) mixed Tryd.func50 (c := B50) (by kernel_rfl) (by decide) ?_
  all_goals revert h
  all_goals refine via ?_
  all_goals kernel_rfl
/- (*tumbrel/glyph.lexer).word -/
noncomputable def A59 : Ann := mkAnn [(33832, (fun a => [.ex (Bool) fun b => .done ((tb b), [.dead])])), (50344, (fun a => [.ex (Int) fun n => .done ((i64 n), [(a.getD 0 .dead), .dead])])), (66984, (fun a => [.ex (Bool) fun b => .done ((tb b), [.dead])])), (82984, (fun a => [.ex (Bool) fun b => .done ((tb b), [.dead])])), (99496, (fun a => [.ex (Int) fun n => .done ((i64 n), [(a.getD 0 .dead), .dead])])), (116136, (fun a => [.ex (Bool) fun b => .done ((tb b), [.dead])])), (181352, (fun a => [.ex (Bool) fun b => .done ((tb b), [.dead, .dead])]))] [(164904, [.ex ByteArray fun w => .done (st w)])] [] [(244, [0, 6, 8, 51, 52, 53])]
noncomputable abbrev B59 : Code := Tryd.f59.body.getD .skip
def L59_0 (rest : ByteArray) (n : Int) (n1 : Int) (s : ByteArray) (l : List T) (n2 : Int) (b : Bool) (n3 : Int) (n4 : Int) (w : W_glyph_Word) (l1 : List T) (R : T × List T) : Prop := CutL Tryd.prog Tryd.f59 B59 true [1, 1, 1, 0, 1, 0, 0] (mkSt 68 [(0, (.ptr (0, 0) 0)), (6, (.ptr (1000000007, 0) 0)), (8, (st rest)), (51, (.own (1000000052, 0))), (52, (i64 n)), (53, (i64 n1))] (([((0, 0), .box 73 [(st s), (mnT (1, 0) l), (i64 n2), (tb b), (i64 n3), (i64 n4)]), ((1000000007, 0), .box 30 [(i64 w.fKind), (st w.fText), (i64 w.fAt_Line), (i64 w.fAt_Col)]), ((1000000052, 0), .arr 9 1 l1)] ++ mnH (1, 0) 30 4 l))) [(.ptr (0, 0) 0), .dead, .dead] R
set_option maxRecDepth 100000 in
theorem l59_0 (rest : ByteArray) (n : Int) (n1 : Int) (s : ByteArray) (l : List T) (n2 : Int) (b : Bool) (n3 : Int) (n4 : Int) (w : W_glyph_Word) (l1 : List T) (R : T × List T) (h : cond (decide ((n1 : Int) < n))
  (((0 : Int) ≤ n1 ∧ n1 < (((List.length l1) : Nat) : Int)) ∧
   (∃ s1 : ByteArray, (l1[(Int.toNat n1)]? = some (st s1)) ∧
    (∃ b1 : Bool, (Rn 89 [(st rest), (st s1)] ((tb b1), [.dead, .dead])) ∧
     (cond b1
      (R = ((.tup [(.agg [(i64 3), (st s1), (i64 n3), (i64 n4)]), (tb true)]), [(.cbox 73 [(st s), (mnC 30 4 l), (i64 n2), (tb b), (i64 n3), (i64 n4)]), .dead, .dead]))
      (L59_0 rest n (IntKind.wrap .i64 (n1 + 1)) s l n2 b n3 n4 w l1 R)))))
  (R = ((.tup [(.agg [(i64 0), (st (bs [])), (i64 0), (i64 0)]), (tb false)]), [(.cbox 73 [(st s), (mnC 30 4 l), (i64 n2), (tb b), (i64 n3), (i64 n4)]), .dead, .dead]))) : L59_0 rest n n1 s l n2 b n3 n4 w l1 R := by
  unfold L59_0
  refine cutL_rule (ann := A59) (mv := MV) mixed (by kernel_rfl) ?_
  all_goals rcases l with _ | ⟨_, _⟩
  all_goals revert h
  all_goals refine via ?_
  all_goals kernel_rfl
set_option maxRecDepth 100000 in
theorem f59 (s : ByteArray) (l : List T) (n : Int) (b : Bool) (n1 : Int) (n2 : Int) (i : Int) (n3 : Int) (R : T × List T) (h : ((0 : Int) ≤ i ∧ i ≤ (((ByteArray.size s) : Nat) : Int)) ∧
  (∃ b1 : Bool, (Rn 15 [(i32 n3)] ((tb b1), [.dead])) ∧
   (cond b1
    (∃ n4 : Int, (Rn 87 [(.cbox 73 [(st s), (mnC 30 4 l), (i64 n), (tb b), (i64 n1), (i64 n2)]), (i64 i)] ((i64 n4), [(.cbox 73 [(st s), (mnC 30 4 l), (i64 n), (tb b), (i64 n1), (i64 n2)]), .dead])) ∧
     (((0 : Int) ≤ n4 ∧ n4 ≤ (((ByteArray.size (ByteArray.extract s (Int.toNat i) (ByteArray.size s))) : Nat) : Int)) ∧
      (∃ b2 : Bool, (Rn 13 [(st (ByteArray.extract (ByteArray.extract s (Int.toNat i) (ByteArray.size s)) 0 (Int.toNat n4)))] ((tb b2), [.dead])) ∧
       (R = ((.tup [(.agg [(i64 1), (st (ByteArray.extract (ByteArray.extract s (Int.toNat i) (ByteArray.size s)) 0 (Int.toNat n4))), (i64 n1), (i64 n2)]), (tb b2)]), [(.cbox 73 [(st s), (mnC 30 4 l), (i64 n), (tb b), (i64 n1), (i64 n2)]), .dead, .dead])))))
    (∃ b3 : Bool, (Rn 60 [(i32 n3)] ((tb b3), [.dead])) ∧
     (cond b3
      (∃ n5 : Int, (Rn 87 [(.cbox 73 [(st s), (mnC 30 4 l), (i64 n), (tb b), (i64 n1), (i64 n2)]), (i64 i)] ((i64 n5), [(.cbox 73 [(st s), (mnC 30 4 l), (i64 n), (tb b), (i64 n1), (i64 n2)]), .dead])) ∧
       (((0 : Int) ≤ n5 ∧ n5 ≤ (((ByteArray.size (ByteArray.extract s (Int.toNat i) (ByteArray.size s))) : Nat) : Int)) ∧
        (∃ b4 : Bool, (Rn 88 [(st (ByteArray.extract (ByteArray.extract s (Int.toNat i) (ByteArray.size s)) 0 (Int.toNat n5)))] ((tb b4), [.dead])) ∧
         (R = ((.tup [(.agg [(i64 2), (st (ByteArray.extract (ByteArray.extract s (Int.toNat i) (ByteArray.size s)) 0 (Int.toNat n5))), (i64 n1), (i64 n2)]), (tb b4)]), [(.cbox 73 [(st s), (mnC 30 4 l), (i64 n), (tb b), (i64 n1), (i64 n2)]), .dead, .dead])))))
      (L59_0 ((ByteArray.extract s (Int.toNat i) (ByteArray.size s))) 15 0 s l n b n1 n2 ⟨0, (bs []), 0, 0⟩ ([(st (bs [61, 61])), (st (bs [33, 61])), (st (bs [60, 61])), (st (bs [38, 38])), (st (bs [124, 124])), (st (bs [123])), (st (bs [125])), (st (bs [40])), (st (bs [41])), (st (bs [61])), (st (bs [33])), (st (bs [60])), (st (bs [43])), (st (bs [45])), (st (bs [42]))] : List T) R)))))) : Rn 59 [(.cbox 73 [(st s), (mnC 30 4 l), (i64 n), (tb b), (i64 n1), (i64 n2)]), (i64 i), (i32 n3)] R := by
  refine fn_rule (ann := A59) (mv := MV) (fz := true) mixed Tryd.func59 (c := B59) (by kernel_rfl) (by decide) ?_
  all_goals rcases l with _ | ⟨_, _⟩
  all_goals revert h
  all_goals refine via ?_
  all_goals kernel_rfl
/- tumbrel/glyph.digit -/
noncomputable def A60 : Ann := mkAnn [] [] [] []
noncomputable abbrev B60 : Code := Tryd.f60.body.getD .skip
set_option maxRecDepth 100000 in
theorem f60 (n : Int) (R : T × List T) (h : cond (decide ((48 : Int) ≤ n))
  (R = ((tb (decide ((n : Int) ≤ 57))), [.dead]))
  (R = ((tb false), [.dead]))) : Rn 60 [(i32 n)] R := by
  refine fn_rule (ann := A60) (mv := MV) (fz := true) mixed Tryd.func60 (c := B60) (by kernel_rfl) (by decide) ?_
  all_goals revert h
  all_goals refine via ?_
  all_goals kernel_rfl
/- tumbrel/tumbrelref03.inside -/
noncomputable def A61 : Ann := mkAnn [(17448, (fun a => [.ex (Bool) fun b => .done ((tb b), [.dead])])), (17640, (fun a => [.ex (Bool) fun b => .done ((tb b), [.dead])]))] [] [] []
noncomputable abbrev B61 : Code := Tryd.f61.body.getD .skip
set_option maxRecDepth 100000 in
theorem f61 (n : Int) (R : T × List T) (h : ∃ b : Bool, (Rn 16 [(i32 n)] ((tb b), [.dead])) ∧
  (cond b
   (R = ((tb true), [.dead]))
   (∃ b1 : Bool, (Rn 77 [(i32 n)] ((tb b1), [.dead])) ∧
    (cond b1
     (R = ((tb true), [.dead]))
     (R = ((tb (decide ((n : Int) = 95))), [.dead])))))) : Rn 61 [(i32 n)] R := by
  refine fn_rule (ann := A61) (mv := MV) (fz := true) mixed Tryd.func61 (c := B61) (by kernel_rfl) (by decide) ?_
  all_goals revert h
  all_goals refine via ?_
  all_goals kernel_rfl
/- tumbrel/tumbrelref03.digit -/
noncomputable def A77 : Ann := mkAnn [] [] [] []
noncomputable abbrev B77 : Code := Tryd.f77.body.getD .skip
set_option maxRecDepth 100000 in
theorem f77 (n : Int) (R : T × List T) (h : cond (decide ((48 : Int) ≤ n))
  (R = ((tb (decide ((n : Int) ≤ 57))), [.dead]))
  (R = ((tb false), [.dead]))) : Rn 77 [(i32 n)] R := by
  refine fn_rule (ann := A77) (mv := MV) (fz := true) mixed Tryd.func77 (c := B77) (by kernel_rfl) (by decide) ?_
  all_goals revert h
  all_goals refine via ?_
  all_goals kernel_rfl
/- tumbrel/tumbrelref03.Number -/
noncomputable def A78 : Ann := mkAnn [] [] [] [(244, [0, 4, 5])]
noncomputable abbrev B78 : Code := Tryd.f78.body.getD .skip
def L78_0 (s : ByteArray) (n : Int) (i : Int) (R : T × List T) : Prop := CutL Tryd.prog Tryd.f78 B78 true [1, 1, 1, 0, 1, 0, 0] (mkSt 51 [(0, (st s)), (4, (i64 n)), (5, (i64 i))] []) [.dead] R
set_option maxRecDepth 100000 in
theorem l78_0 (s : ByteArray) (n : Int) (i : Int) (R : T × List T) (h : cond (decide ((i : Int) < (((ByteArray.size s) : Nat) : Int)))
  (((0 : Int) ≤ i ∧ i < (((ByteArray.size s) : Nat) : Int)) ∧
   (cond (decide (((byteAt s (Int.toNat i)) : Int) < 48))
    (R = ((.tup [(i64 0), (tb false)]), [.dead]))
    (((0 : Int) ≤ i ∧ i < (((ByteArray.size s) : Nat) : Int)) ∧
     (cond (decide ((57 : Int) < (byteAt s (Int.toNat i))))
      (R = ((.tup [(i64 0), (tb false)]), [.dead]))
      (((0 : Int) ≤ i ∧ i < (((ByteArray.size s) : Nat) : Int)) ∧
       (L78_0 s ((IntKind.wrap .i64 ((IntKind.wrap .i64 (10 * n)) + (IntKind.wrap .i64 (IntKind.wrap .u8 ((byteAt s (Int.toNat i)) - 48)))))) (IntKind.wrap .i64 (i + 1)) R))))))
  (R = ((.tup [(i64 n), (tb (decide ((n : Int) ≤ 1000000000)))]), [.dead]))) : L78_0 s n i R := by
  unfold L78_0
  refine cutL_rule (ann := A78) (mv := MV) mixed (by kernel_rfl) ?_
  all_goals revert h
  all_goals refine via ?_
  all_goals kernel_rfl
set_option maxRecDepth 100000 in
theorem f78 (s : ByteArray) (R : T × List T) (h : cond (decide (((((ByteArray.size s) : Nat) : Int) : Int) < 1))
  (R = ((.tup [(i64 0), (tb false)]), [.dead]))
  (cond (decide ((10 : Int) < (((ByteArray.size s) : Nat) : Int)))
   (R = ((.tup [(i64 0), (tb false)]), [.dead]))
   (((0 : Int) ≤ 0 ∧ 0 < (((ByteArray.size s) : Nat) : Int)) ∧
    (cond (decide (((byteAt s 0) : Int) = 48))
     (cond (decide ((1 : Int) < (((ByteArray.size s) : Nat) : Int)))
      (R = ((.tup [(i64 0), (tb false)]), [.dead]))
      (L78_0 s 0 0 R))
     (L78_0 s 0 0 R))))) : Rn 78 [(st s)] R := by
  refine fn_rule (ann := A78) (mv := MV) (fz := true) mixed Tryd.func78 (c := B78) (by kernel_rfl) (by decide) ?_
  all_goals revert h
  all_goals refine via ?_
  all_goals kernel_rfl
/- tumbrel/tumbrelref03.sign -/
noncomputable def A79 : Ann := mkAnn [] [] [] []
noncomputable abbrev B79 : Code := Tryd.f79.body.getD .skip
set_option maxRecDepth 100000 in
theorem f79 (s : ByteArray) (R : T × List T) (h : cond (decide ((1 : Int) < (((ByteArray.size s) : Nat) : Int)))
  (((0 : Int) ≤ 2 ∧ 2 ≤ (((ByteArray.size s) : Nat) : Int)) ∧
   (cond (decide ((ByteArray.extract s 0 2) = (bs [61, 61])))
    (R = ((i64 2), [.dead]))
    (cond (decide ((ByteArray.extract s 0 2) = (bs [33, 61])))
     (R = ((i64 2), [.dead]))
     (cond (decide ((ByteArray.extract s 0 2) = (bs [60, 61])))
      (R = ((i64 2), [.dead]))
      (cond (decide ((ByteArray.extract s 0 2) = (bs [38, 38])))
       (R = ((i64 2), [.dead]))
       (cond (decide ((ByteArray.extract s 0 2) = (bs [124, 124])))
        (R = ((i64 2), [.dead]))
        (((0 : Int) ≤ 0 ∧ 0 < (((ByteArray.size s) : Nat) : Int)) ∧
         (cond (decide (((byteAt s 0) : Int) = 123))
          (R = ((i64 1), [.dead]))
          (cond (decide (((byteAt s 0) : Int) = 125))
           (R = ((i64 1), [.dead]))
           (cond (decide (((byteAt s 0) : Int) = 40))
            (R = ((i64 1), [.dead]))
            (cond (decide (((byteAt s 0) : Int) = 41))
             (R = ((i64 1), [.dead]))
             (cond (decide (((byteAt s 0) : Int) = 61))
              (R = ((i64 1), [.dead]))
              (cond (decide (((byteAt s 0) : Int) = 33))
               (R = ((i64 1), [.dead]))
               (cond (decide (((byteAt s 0) : Int) = 60))
                (R = ((i64 1), [.dead]))
                (cond (decide (((byteAt s 0) : Int) = 43))
                 (R = ((i64 1), [.dead]))
                 (cond (decide (((byteAt s 0) : Int) = 45))
                  (R = ((i64 1), [.dead]))
                  (cond (decide (((byteAt s 0) : Int) = 42))
                   (R = ((i64 1), [.dead]))
                   (R = ((i64 0), [.dead])))))))))))))))))))
  (((0 : Int) ≤ 0 ∧ 0 < (((ByteArray.size s) : Nat) : Int)) ∧
   (cond (decide (((byteAt s 0) : Int) = 123))
    (R = ((i64 1), [.dead]))
    (cond (decide (((byteAt s 0) : Int) = 125))
     (R = ((i64 1), [.dead]))
     (cond (decide (((byteAt s 0) : Int) = 40))
      (R = ((i64 1), [.dead]))
      (cond (decide (((byteAt s 0) : Int) = 41))
       (R = ((i64 1), [.dead]))
       (cond (decide (((byteAt s 0) : Int) = 61))
        (R = ((i64 1), [.dead]))
        (cond (decide (((byteAt s 0) : Int) = 33))
         (R = ((i64 1), [.dead]))
         (cond (decide (((byteAt s 0) : Int) = 60))
          (R = ((i64 1), [.dead]))
          (cond (decide (((byteAt s 0) : Int) = 43))
           (R = ((i64 1), [.dead]))
           (cond (decide (((byteAt s 0) : Int) = 45))
            (R = ((i64 1), [.dead]))
            (cond (decide (((byteAt s 0) : Int) = 42))
             (R = ((i64 1), [.dead]))
             (R = ((i64 0), [.dead])))))))))))))) : Rn 79 [(st s)] R := by
  refine fn_rule (ann := A79) (mv := MV) (fz := true) mixed Tryd.func79 (c := B79) (by kernel_rfl) (by decide) ?_
  all_goals revert h
  all_goals refine via ?_
  all_goals kernel_rfl
/- tumbrel/expr.operands -/
noncomputable def A66 : Ann := mkAnn [] [(17448, [.ex W_expr_Not fun w => .done w.t]), (66600, [.ex W_expr_Neg fun w => .done w.t]), (115752, [.ex W_expr_Bin fun w => .done w.t])] [] []
noncomputable abbrev B66 : Code := Tryd.f66.body.getD .skip
set_option maxRecDepth 100000 in
theorem f66 (e : IfV) (R : T × List T) (h : cond (Nat.beq e.t 98)
  (∃ w : W_expr_Not, (e.x = w.t) ∧
   (R = ((.sl 1 [w.fX.v]), [.dead])))
  (cond (Nat.beq e.t 99)
   (∃ w1 : W_expr_Neg, (e.x = w1.t) ∧
    (R = ((.sl 1 [w1.fX.v]), [.dead])))
   (cond (Nat.beq e.t 101)
    (∃ w2 : W_expr_Bin, (e.x = w2.t) ∧
     (R = ((.sl 1 [w2.fL.v, w2.fR.v]), [.dead])))
    (R = ((.sl 1 []), [.dead]))))) : Rn 66 [e.v] R := by
  refine fn_rule (ann := A66) (mv := MV) (fz := true) mixed Tryd.func66 (c := B66) (by kernel_rfl) (by decide) ?_
  all_goals revert h
  all_goals refine via ?_
  all_goals kernel_rfl
/- (tumbrel/expr.Bin).Kind -/
noncomputable def A177 : Ann := mkAnn [] [] [] []
noncomputable abbrev B177 : Code := Tryd.f177.body.getD .skip
set_option maxRecDepth 100000 in
theorem f177 (w : W_expr_Bin) (R : T × List T) (h : R = ((i64 5), [.dead])) : Rn 177 [w.t] R := by
  refine fn_rule (ann := A177) (mv := MV) (fz := true) mixed Tryd.func177 (c := B177) (by kernel_rfl) (by decide) ?_
  all_goals revert h
  all_goals refine via ?_
  all_goals kernel_rfl
/- slices.EqualFunc[[]tumbrel/expr.Expr,[]tumbrel/expr.Expr,tumbrel/expr.Expr,tumbrel/expr.Expr] -/
noncomputable def A81 : Ann := mkAnn [(115880, (fun a => [.ex (Bool) fun b => .done ((tb b), [.dead, .dead])]))] [(82984, [.ex IfV fun w => .done w.v]), (99432, [.ex IfV fun w => .done w.v])] [] [(116, [1, 2, 15, 16, 17])]
noncomputable abbrev B81 : Code := Tryd.f81.body.getD .skip
def L81_0 (s2 : List T) (l : List T) (n : Int) (n1 : Int) (R : T × List T) : Prop := CutL Tryd.prog Tryd.f81 B81 true [1, 1, 0, 1, 0, 0] (mkSt 32 [(1, (.sl 1 s2)), (2, (.s (.func (.func 56) #[] #[]))), (15, (.sl 1 l)), (16, (i64 n)), (17, (i64 n1))] []) [.dead, .dead, .dead] R
set_option maxRecDepth 100000 in
theorem l81_0 (s2 : List T) (l : List T) (n : Int) (n1 : Int) (R : T × List T) (h : cond (decide ((n1 : Int) < n))
  (∃ e : IfV, ((0 : Int) ≤ n1 ∧ l[(Int.toNat n1)]? = some e.v) ∧
   (∃ e1 : IfV, ((0 : Int) ≤ n1 ∧ s2[(Int.toNat n1)]? = some e1.v) ∧
    (∃ b : Bool, (Rn 56 [e.v, e1.v] ((tb b), [.dead, .dead])) ∧
     (cond (!b)
      (R = ((tb false), [.dead, .dead, .dead]))
      (L81_0 s2 l n (IntKind.wrap .i64 (n1 + 1)) R)))))
  (R = ((tb true), [.dead, .dead, .dead]))) : L81_0 s2 l n n1 R := by
  unfold L81_0
  refine cutL_rule (ann := A81) (mv := MV) mixed (by kernel_rfl) ?_
  all_goals revert h
  all_goals refine via ?_
  all_goals kernel_rfl
set_option maxRecDepth 100000 in
theorem f81 (s1 : List T) (s2 : List T) (R : T × List T) (h : cond (!(decide (((((List.length s1) : Nat) : Int) : Int) = (((List.length s2) : Nat) : Int))))
  (R = ((tb false), [.dead, .dead, .dead]))
  (L81_0 s2 s1 (((List.length s1) : Nat) : Int) 0 R)) : Rn 81 [(.sl 1 s1), (.sl 1 s2), (.s (.func (.func 56) #[] #[]))] R := by
  refine fn_rule (ann := A81) (mv := MV) (fz := true) mixed Tryd.func81 (c := B81) (by kernel_rfl) (by decide) ?_
  all_goals revert h
  all_goals refine via ?_
  all_goals kernel_rfl
/- (tumbrel/expr.Neg).Kind -/
noncomputable def A176 : Ann := mkAnn [] [] [] []
noncomputable abbrev B176 : Code := Tryd.f176.body.getD .skip
set_option maxRecDepth 100000 in
theorem f176 (w : W_expr_Neg) (R : T × List T) (h : R = ((i64 4), [.dead])) : Rn 176 [w.t] R := by
  refine fn_rule (ann := A176) (mv := MV) (fz := true) mixed Tryd.func176 (c := B176) (by kernel_rfl) (by decide) ?_
  all_goals revert h
  all_goals refine via ?_
  all_goals kernel_rfl
end Go.Proofs.YthcaodlfnlhfbaaDoorT
