/- What is to be shown of functions of the program, by their texts (printed by a program of this work; the kernel holds each against the text). -/
import Derived.Test.YtfknpnkdedckhaaGreatDoorP0
namespace Go.Proofs.YtfknpnkdedckhaaGreatDoorT
open Go Go.Proofs
set_option linter.unusedVariables false
/- tumbrel/tumbrelref06.text -/
noncomputable def A102 : Ann := mkAnn [(132968, (fun a => [.ex (ByteArray) fun s => .done ((st s), [.dead])])), (133288, (fun a => [.ex (ByteArray) fun s => .done ((st s), [.dead])])), (247016, (fun a => [.ex (ByteArray) fun s => .done ((st s), [.dead])])), (329704, (fun a => [.ex (ByteArray) fun s => .done ((st s), [.dead])])), (443816, (fun a => [.ex (ByteArray) fun s => .done ((st s), [.dead, .dead])]))] [(197800, [.ex W_tumbrelref06_On fun w => .done w.t]), (329000, [.ex W_tumbrelref06_Set fun w => .done w.t]), (329512, [.ex W_tumbrelref06_Set fun w => .done w.t]), (443624, [.ex W_tumbrelref06_State fun w => .done w.t])] [] [(500, [1, 2, 5, 6, 61, 62]), (1012, [1, 2, 5, 6, 120, 121]), (4102644, [1, 2, 5, 6, 8, 61, 62, 92, 93])]
noncomputable abbrev B102 : Code := Tryz.f102.body.getD .skip
def L102_0 (tabs : ByteArray) (in_ : ByteArray) (out : ByteArray) (n : Int) (n1 : Int) (w : W_tumbrelref06_State) (R : T × List T) : Prop := CutL Tryz.prog Tryz.f102 B102 true [1, 1, 1, 1, 0, 1, 0, 0] (mkSt 138 [(1, (st tabs)), (2, (.ptr (1000000003, 0) 0)), (5, (st in_)), (6, (st out)), (61, (i64 n)), (62, (i64 n1))] [((1000000003, 0), .box 63 [(st w.fName), (i64 w.fAt_Line), (i64 w.fAt_Col), (tb w.fAll), (tb w.fEnd), (st w.fDo), (st w.fUndo), (i64 w.fWhere), (i64 w.fRetries), (.sl 10 w.fOns), (.sl 11 w.fInner)])]) [.dead, .dead] R
def L102_1 (tabs : ByteArray) (in_ : ByteArray) (out : ByteArray) (n : Int) (n1 : Int) (n2 : Int) (n3 : Int) (w : W_tumbrelref06_State) (w1 : W_tumbrelref06_On) (R : T × List T) : Prop := CutL Tryz.prog Tryz.f102 B102 true [1, 1, 1, 1, 0, 1, 0, 0, 1, 1, 0, 0, 1, 1, 1, 1, 1, 0, 1, 0, 0] (mkSt 138 [(1, (st tabs)), (2, (.ptr (1000000003, 0) 0)), (5, (st in_)), (6, (st out)), (8, (.ptr (1000000009, 0) 0)), (61, (i64 n)), (62, (i64 n1)), (92, (i64 n2)), (93, (i64 n3))] [((1000000003, 0), .box 63 [(st w.fName), (i64 w.fAt_Line), (i64 w.fAt_Col), (tb w.fAll), (tb w.fEnd), (st w.fDo), (st w.fUndo), (i64 w.fWhere), (i64 w.fRetries), (.sl 10 w.fOns), (.sl 11 w.fInner)]), ((1000000009, 0), .box 75 [(st w1.fEvent), (tb w1.fHas), (i64 w1.fGuard_Kind), (i64 w1.fGuard_N), (st w1.fGuard_S), (.sl 4 w1.fGuard_Parts), (st w1.fTarget), (.sl 5 w1.fSets), (i64 w1.fAt_Line), (i64 w1.fAt_Col)])]) [.dead, .dead] R
def L102_2 (tabs : ByteArray) (in_ : ByteArray) (out : ByteArray) (n : Int) (n1 : Int) (w : W_tumbrelref06_State) (R : T × List T) : Prop := CutL Tryz.prog Tryz.f102 B102 true [1, 1, 1, 1, 1, 0, 1, 0, 0] (mkSt 138 [(1, (st tabs)), (2, (.ptr (1000000003, 0) 0)), (5, (st in_)), (6, (st out)), (120, (i64 n)), (121, (i64 n1))] [((1000000003, 0), .box 63 [(st w.fName), (i64 w.fAt_Line), (i64 w.fAt_Col), (tb w.fAll), (tb w.fEnd), (st w.fDo), (st w.fUndo), (i64 w.fWhere), (i64 w.fRetries), (.sl 10 w.fOns), (.sl 11 w.fInner)])]) [.dead, .dead] R
set_option maxRecDepth 100000 in
theorem l102_0 (tabs : ByteArray) (in_ : ByteArray) (out : ByteArray) (n : Int) (n1 : Int) (w : W_tumbrelref06_State) (R : T × List T) (h : cond (decide ((n1 : Int) < n))
  (∃ w1 : W_tumbrelref06_On, ((0 : Int) ≤ n1 ∧ w.fOns[(Int.toNat n1)]? = some w1.t) ∧
   ((((ByteArray.size out + ByteArray.size in_ : Nat) : Int) ≤ 9223372036854775807) ∧
    ((((ByteArray.size (out ++ in_) + ByteArray.size (bs [111, 110, 32]) : Nat) : Int) ≤ 9223372036854775807) ∧
     ((((ByteArray.size ((out ++ in_) ++ (bs [111, 110, 32])) + ByteArray.size w1.fEvent : Nat) : Int) ≤ 9223372036854775807) ∧
      (cond w1.fHas
       ((((ByteArray.size (((out ++ in_) ++ (bs [111, 110, 32])) ++ w1.fEvent) + ByteArray.size (bs [32, 105, 102, 32]) : Nat) : Int) ≤ 9223372036854775807) ∧
        (∃ s : ByteArray, (Rn 190 [(.agg [(i64 w1.fGuard_Kind), (i64 w1.fGuard_N), (st w1.fGuard_S), (.sl 4 w1.fGuard_Parts)])] ((st s), [.dead])) ∧
         ((((ByteArray.size ((((out ++ in_) ++ (bs [111, 110, 32])) ++ w1.fEvent) ++ (bs [32, 105, 102, 32])) + ByteArray.size s : Nat) : Int) ≤ 9223372036854775807) ∧
          ((((ByteArray.size (((((out ++ in_) ++ (bs [111, 110, 32])) ++ w1.fEvent) ++ (bs [32, 105, 102, 32])) ++ s) + ByteArray.size (bs [32, 103, 111, 32]) : Nat) : Int) ≤ 9223372036854775807) ∧
           ((((ByteArray.size ((((((out ++ in_) ++ (bs [111, 110, 32])) ++ w1.fEvent) ++ (bs [32, 105, 102, 32])) ++ s) ++ (bs [32, 103, 111, 32])) + ByteArray.size w1.fTarget : Nat) : Int) ≤ 9223372036854775807) ∧
            (L102_1 tabs in_ ((((((((out ++ in_) ++ (bs [111, 110, 32])) ++ w1.fEvent) ++ (bs [32, 105, 102, 32])) ++ s) ++ (bs [32, 103, 111, 32])) ++ w1.fTarget)) n n1 (((List.length w1.fSets) : Nat) : Int) 0 w w1 R))))))
       ((((ByteArray.size (((out ++ in_) ++ (bs [111, 110, 32])) ++ w1.fEvent) + ByteArray.size (bs [32, 103, 111, 32]) : Nat) : Int) ≤ 9223372036854775807) ∧
        ((((ByteArray.size ((((out ++ in_) ++ (bs [111, 110, 32])) ++ w1.fEvent) ++ (bs [32, 103, 111, 32])) + ByteArray.size w1.fTarget : Nat) : Int) ≤ 9223372036854775807) ∧
         (L102_1 tabs in_ ((((((out ++ in_) ++ (bs [111, 110, 32])) ++ w1.fEvent) ++ (bs [32, 103, 111, 32])) ++ w1.fTarget)) n n1 (((List.length w1.fSets) : Nat) : Int) 0 w w1 R))))))))
  (L102_2 tabs in_ out (((List.length w.fInner) : Nat) : Int) 0 w R)) : L102_0 tabs in_ out n n1 w R := by
  unfold L102_0
  refine cutL_rule (ann := A102) (mv := MV) mixed (by kernel_rfl) ?_
  all_goals revert h
  all_goals refine via ?_
  all_goals kernel_rfl
set_option maxRecDepth 100000 in
theorem l102_1 (tabs : ByteArray) (in_ : ByteArray) (out : ByteArray) (n : Int) (n1 : Int) (n2 : Int) (n3 : Int) (w : W_tumbrelref06_State) (w1 : W_tumbrelref06_On) (R : T × List T) (h : cond (decide ((n3 : Int) < n2))
  ((((ByteArray.size out + ByteArray.size (bs [32, 115, 101, 116, 32]) : Nat) : Int) ≤ 9223372036854775807) ∧
   (∃ w2 : W_tumbrelref06_Set, ((0 : Int) ≤ n3 ∧ w1.fSets[(Int.toNat n3)]? = some w2.t) ∧
    ((((ByteArray.size (out ++ (bs [32, 115, 101, 116, 32])) + ByteArray.size w2.fName : Nat) : Int) ≤ 9223372036854775807) ∧
     ((((ByteArray.size ((out ++ (bs [32, 115, 101, 116, 32])) ++ w2.fName) + ByteArray.size (bs [32, 61, 32]) : Nat) : Int) ≤ 9223372036854775807) ∧
      (∃ w3 : W_tumbrelref06_Set, ((0 : Int) ≤ n3 ∧ w1.fSets[(Int.toNat n3)]? = some w3.t) ∧
       (∃ s : ByteArray, (Rn 190 [(.agg [(i64 w3.fTo_Kind), (i64 w3.fTo_N), (st w3.fTo_S), (.sl 4 w3.fTo_Parts)])] ((st s), [.dead])) ∧
        ((((ByteArray.size (((out ++ (bs [32, 115, 101, 116, 32])) ++ w2.fName) ++ (bs [32, 61, 32])) + ByteArray.size s : Nat) : Int) ≤ 9223372036854775807) ∧
         (L102_1 tabs in_ (((((out ++ (bs [32, 115, 101, 116, 32])) ++ w2.fName) ++ (bs [32, 61, 32])) ++ s)) n n1 n2 (IntKind.wrap .i64 (n3 + 1)) w w1 R))))))))
  ((((ByteArray.size out + ByteArray.size (bs [10]) : Nat) : Int) ≤ 9223372036854775807) ∧
   (L102_0 tabs in_ (out ++ (bs [10])) n (IntKind.wrap .i64 (n1 + 1)) w R))) : L102_1 tabs in_ out n n1 n2 n3 w w1 R := by
  unfold L102_1
  refine cutL_rule (ann := A102) (mv := MV) mixed (by kernel_rfl) ?_
  all_goals revert h
  all_goals refine via ?_
  all_goals kernel_rfl
set_option maxRecDepth 100000 in
theorem l102_2 (tabs : ByteArray) (in_ : ByteArray) (out : ByteArray) (n : Int) (n1 : Int) (w : W_tumbrelref06_State) (R : T × List T) (h : cond (decide ((n1 : Int) < n))
  (∃ w1 : W_tumbrelref06_State, ((0 : Int) ≤ n1 ∧ w.fInner[(Int.toNat n1)]? = some w1.t) ∧
   (∃ s : ByteArray, (Rn 102 [w1.t, (st in_)] ((st s), [.dead, .dead])) ∧
    ((((ByteArray.size out + ByteArray.size s : Nat) : Int) ≤ 9223372036854775807) ∧
     (L102_2 tabs in_ (out ++ s) n (IntKind.wrap .i64 (n1 + 1)) w R))))
  ((((ByteArray.size out + ByteArray.size tabs : Nat) : Int) ≤ 9223372036854775807) ∧
   ((((ByteArray.size (out ++ tabs) + ByteArray.size (bs [125, 10]) : Nat) : Int) ≤ 9223372036854775807) ∧
    (R = ((st ((out ++ tabs) ++ (bs [125, 10]))), [.dead, .dead]))))) : L102_2 tabs in_ out n n1 w R := by
  unfold L102_2
  refine cutL_rule (ann := A102) (mv := MV) mixed (by kernel_rfl) ?_
  all_goals revert h
  all_goals refine via ?_
  all_goals kernel_rfl
set_option maxRecDepth 100000 in
theorem f102 (w : W_tumbrelref06_State) (tabs : ByteArray) (R : T × List T) (h : (((ByteArray.size tabs + ByteArray.size (bs [9]) : Nat) : Int) ≤ 9223372036854775807) ∧
  ((((ByteArray.size tabs + ByteArray.size (bs [115, 116, 97, 116, 101, 32]) : Nat) : Int) ≤ 9223372036854775807) ∧
   ((((ByteArray.size (tabs ++ (bs [115, 116, 97, 116, 101, 32])) + ByteArray.size w.fName : Nat) : Int) ≤ 9223372036854775807) ∧
    ((((ByteArray.size ((tabs ++ (bs [115, 116, 97, 116, 101, 32])) ++ w.fName) + ByteArray.size (bs [32, 123, 10]) : Nat) : Int) ≤ 9223372036854775807) ∧
     (cond w.fAll
      ((((ByteArray.size (((tabs ++ (bs [115, 116, 97, 116, 101, 32])) ++ w.fName) ++ (bs [32, 123, 10])) + ByteArray.size (tabs ++ (bs [9])) : Nat) : Int) ≤ 9223372036854775807) ∧
       ((((ByteArray.size ((((tabs ++ (bs [115, 116, 97, 116, 101, 32])) ++ w.fName) ++ (bs [32, 123, 10])) ++ (tabs ++ (bs [9]))) + ByteArray.size (bs [97, 108, 108, 10]) : Nat) : Int) ≤ 9223372036854775807) ∧
        (L102_0 tabs (tabs ++ (bs [9])) ((((((tabs ++ (bs [115, 116, 97, 116, 101, 32])) ++ w.fName) ++ (bs [32, 123, 10])) ++ (tabs ++ (bs [9]))) ++ (bs [97, 108, 108, 10]))) (((List.length w.fOns) : Nat) : Int) 0 w R)))
      (cond w.fEnd
       ((((ByteArray.size (((tabs ++ (bs [115, 116, 97, 116, 101, 32])) ++ w.fName) ++ (bs [32, 123, 10])) + ByteArray.size (tabs ++ (bs [9])) : Nat) : Int) ≤ 9223372036854775807) ∧
        ((((ByteArray.size ((((tabs ++ (bs [115, 116, 97, 116, 101, 32])) ++ w.fName) ++ (bs [32, 123, 10])) ++ (tabs ++ (bs [9]))) + ByteArray.size (bs [101, 110, 100, 10]) : Nat) : Int) ≤ 9223372036854775807) ∧
         (L102_0 tabs (tabs ++ (bs [9])) ((((((tabs ++ (bs [115, 116, 97, 116, 101, 32])) ++ w.fName) ++ (bs [32, 123, 10])) ++ (tabs ++ (bs [9]))) ++ (bs [101, 110, 100, 10]))) (((List.length w.fOns) : Nat) : Int) 0 w R)))
       (cond (!(decide (w.fDo = (bs []))))
        ((((ByteArray.size (((tabs ++ (bs [115, 116, 97, 116, 101, 32])) ++ w.fName) ++ (bs [32, 123, 10])) + ByteArray.size (tabs ++ (bs [9])) : Nat) : Int) ≤ 9223372036854775807) ∧
         ((((ByteArray.size ((((tabs ++ (bs [115, 116, 97, 116, 101, 32])) ++ w.fName) ++ (bs [32, 123, 10])) ++ (tabs ++ (bs [9]))) + ByteArray.size (bs [100, 111, 32]) : Nat) : Int) ≤ 9223372036854775807) ∧
          ((((ByteArray.size (((((tabs ++ (bs [115, 116, 97, 116, 101, 32])) ++ w.fName) ++ (bs [32, 123, 10])) ++ (tabs ++ (bs [9]))) ++ (bs [100, 111, 32])) + ByteArray.size w.fDo : Nat) : Int) ≤ 9223372036854775807) ∧
           ((((ByteArray.size ((((((tabs ++ (bs [115, 116, 97, 116, 101, 32])) ++ w.fName) ++ (bs [32, 123, 10])) ++ (tabs ++ (bs [9]))) ++ (bs [100, 111, 32])) ++ w.fDo) + ByteArray.size (bs [32, 117, 110, 100, 111, 32]) : Nat) : Int) ≤ 9223372036854775807) ∧
            ((((ByteArray.size (((((((tabs ++ (bs [115, 116, 97, 116, 101, 32])) ++ w.fName) ++ (bs [32, 123, 10])) ++ (tabs ++ (bs [9]))) ++ (bs [100, 111, 32])) ++ w.fDo) ++ (bs [32, 117, 110, 100, 111, 32])) + ByteArray.size w.fUndo : Nat) : Int) ≤ 9223372036854775807) ∧
             ((((ByteArray.size ((((((((tabs ++ (bs [115, 116, 97, 116, 101, 32])) ++ w.fName) ++ (bs [32, 123, 10])) ++ (tabs ++ (bs [9]))) ++ (bs [100, 111, 32])) ++ w.fDo) ++ (bs [32, 117, 110, 100, 111, 32])) ++ w.fUndo) + ByteArray.size (bs [32, 97, 116, 32]) : Nat) : Int) ≤ 9223372036854775807) ∧
              (∃ s : ByteArray, (Rn 97 [(i64 w.fWhere)] ((st s), [.dead])) ∧
               ((((ByteArray.size (((((((((tabs ++ (bs [115, 116, 97, 116, 101, 32])) ++ w.fName) ++ (bs [32, 123, 10])) ++ (tabs ++ (bs [9]))) ++ (bs [100, 111, 32])) ++ w.fDo) ++ (bs [32, 117, 110, 100, 111, 32])) ++ w.fUndo) ++ (bs [32, 97, 116, 32])) + ByteArray.size s : Nat) : Int) ≤ 9223372036854775807) ∧
                ((((ByteArray.size ((((((((((tabs ++ (bs [115, 116, 97, 116, 101, 32])) ++ w.fName) ++ (bs [32, 123, 10])) ++ (tabs ++ (bs [9]))) ++ (bs [100, 111, 32])) ++ w.fDo) ++ (bs [32, 117, 110, 100, 111, 32])) ++ w.fUndo) ++ (bs [32, 97, 116, 32])) ++ s) + ByteArray.size (bs [32, 114, 101, 116, 114, 105, 101, 115, 32]) : Nat) : Int) ≤ 9223372036854775807) ∧
                 (∃ s1 : ByteArray, (Rn 97 [(i64 w.fRetries)] ((st s1), [.dead])) ∧
                  ((((ByteArray.size (((((((((((tabs ++ (bs [115, 116, 97, 116, 101, 32])) ++ w.fName) ++ (bs [32, 123, 10])) ++ (tabs ++ (bs [9]))) ++ (bs [100, 111, 32])) ++ w.fDo) ++ (bs [32, 117, 110, 100, 111, 32])) ++ w.fUndo) ++ (bs [32, 97, 116, 32])) ++ s) ++ (bs [32, 114, 101, 116, 114, 105, 101, 115, 32])) + ByteArray.size s1 : Nat) : Int) ≤ 9223372036854775807) ∧
                   ((((ByteArray.size ((((((((((((tabs ++ (bs [115, 116, 97, 116, 101, 32])) ++ w.fName) ++ (bs [32, 123, 10])) ++ (tabs ++ (bs [9]))) ++ (bs [100, 111, 32])) ++ w.fDo) ++ (bs [32, 117, 110, 100, 111, 32])) ++ w.fUndo) ++ (bs [32, 97, 116, 32])) ++ s) ++ (bs [32, 114, 101, 116, 114, 105, 101, 115, 32])) ++ s1) + ByteArray.size (bs [10]) : Nat) : Int) ≤ 9223372036854775807) ∧
                    (L102_0 tabs (tabs ++ (bs [9])) ((((((((((((((tabs ++ (bs [115, 116, 97, 116, 101, 32])) ++ w.fName) ++ (bs [32, 123, 10])) ++ (tabs ++ (bs [9]))) ++ (bs [100, 111, 32])) ++ w.fDo) ++ (bs [32, 117, 110, 100, 111, 32])) ++ w.fUndo) ++ (bs [32, 97, 116, 32])) ++ s) ++ (bs [32, 114, 101, 116, 114, 105, 101, 115, 32])) ++ s1) ++ (bs [10]))) (((List.length w.fOns) : Nat) : Int) 0 w R)))))))))))))
        (L102_0 tabs (tabs ++ (bs [9])) ((((tabs ++ (bs [115, 116, 97, 116, 101, 32])) ++ w.fName) ++ (bs [32, 123, 10]))) (((List.length w.fOns) : Nat) : Int) 0 w R)))))))) : Rn 102 [w.t, (st tabs)] R := by
  refine fn_rule (ann := A102) (mv := MV) (fz := true) mixed Tryz.func102 (c := B102) (by kernel_rfl) (by decide) ?_
  all_goals revert h
  all_goals refine via ?_
  all_goals kernel_rfl
/- tumbrel/tumbrelref03.Words -/
noncomputable def A103 : Ann := mkAnn [(263208, (fun a => [.ex (Int) fun n => .ex (Int) fun n1 => .done ((.tup [(i32 n), (i64 n1)]), [.dead])])), (312360, (fun a => [.ex (Int) fun n => .ex (Int) fun n1 => .ex (Int) fun n2 => .done ((.tup [(i64 n), (i64 n1), (i64 n2)]), [.dead])]))] [] [] [(248, [0, 3, 5, 6]), (4072944, [0, 3, 5, 6])]
noncomputable abbrev B103 : Code := Tryz.f103.body.getD .skip
def L103_0 (s : ByteArray) (l : List T) (w : W_api_Pos) (w1 : W_api_Pos) (R : T × List T) : Prop := CutL Tryz.prog Tryz.f103 B103 true [1, 1, 1, 1, 0, 0, 0] (mkSt 93 [(0, (st s)), (3, (.ptr (1000000004, 0) 0)), (5, (mnT (1000000006, 0) l)), (6, (.ptr (1000000007, 0) 0))] (([((1000000004, 0), .box 23 [(i64 w.fLine), (i64 w.fCol)])] ++ mnH (1000000006, 0) 332 4 l ++ [((1000000007, 0), .box 23 [(i64 w1.fLine), (i64 w1.fCol)])]))) [.dead] R
def L103_1 (s : ByteArray) (l : List T) (w : W_api_Pos) (w1 : W_api_Pos) (R : T × List T) : Prop := CutL Tryz.prog Tryz.f103 B103 true [1, 1, 1, 1, 0, 0, 0, 1, 0, 0, 1, 0, 1, 1, 1, 1, 1, 0, 0, 0, 0] (mkSt 93 [(0, (st s)), (3, (.ptr (1000000004, 0) 0)), (5, (mnT (1000000006, 0) l)), (6, (.ptr (1000000007, 0) 0))] (([((1000000004, 0), .box 23 [(i64 w.fLine), (i64 w.fCol)])] ++ mnH (1000000006, 0) 332 4 l ++ [((1000000007, 0), .box 23 [(i64 w1.fLine), (i64 w1.fCol)])]))) [.dead] R
set_option maxRecDepth 100000 in
theorem l103_0 (s : ByteArray) (l : List T) (w : W_api_Pos) (w1 : W_api_Pos) (R : T × List T) (h : cond (decide ((0 : Int) < (((ByteArray.size s) : Nat) : Int)))
  (((0 : Int) ≤ 0 ∧ 0 < (((ByteArray.size s) : Nat) : Int)) ∧
   (cond (decide (((byteAt s 0) : Int) = 10))
    (((0 : Int) ≤ 1 ∧ 1 ≤ (((ByteArray.size s) : Nat) : Int)) ∧
     (L103_0 (ByteArray.extract s 1 (ByteArray.size s)) l w ⟨(IntKind.wrap .i64 (w1.fLine + 1)), 1⟩ R))
    (cond (decide (((byteAt s 0) : Int) = 32))
     (((0 : Int) ≤ 1 ∧ 1 ≤ (((ByteArray.size s) : Nat) : Int)) ∧
      (L103_0 (ByteArray.extract s 1 (ByteArray.size s)) l w ⟨w1.fLine, (IntKind.wrap .i64 (w1.fCol + 1))⟩ R))
     (cond (decide (((byteAt s 0) : Int) = 9))
      (((0 : Int) ≤ 1 ∧ 1 ≤ (((ByteArray.size s) : Nat) : Int)) ∧
       (L103_0 (ByteArray.extract s 1 (ByteArray.size s)) l w ⟨w1.fLine, (IntKind.wrap .i64 (w1.fCol + 1))⟩ R))
      (cond (decide (((byteAt s 0) : Int) = 35))
       (L103_1 s l w w1 R)
       (∃ n : Int, ∃ n1 : Int, ∃ n2 : Int, (Rn 192 [(st s)] ((.tup [(i64 n), (i64 n1), (i64 n2)]), [.dead])) ∧
        (cond (decide ((n : Int) = 0))
         (R = ((.tup [(.sl 4 []), w1.t, (i64 11)]), [.dead]))
         (cond (decide (((((List.length l) : Nat) : Int) : Int) = 3000))
          (R = ((.tup [(.sl 4 []), w1.t, (i64 4)]), [.dead]))
          (((0 : Int) ≤ n1 ∧ n1 ≤ (((ByteArray.size s) : Nat) : Int)) ∧
           (chk (Nat.ble (((List.length l) + 1) * 40) 140737488355328)
            (((0 : Int) ≤ n1 ∧ n1 ≤ (((ByteArray.size s) : Nat) : Int)) ∧
             (L103_0 ((ByteArray.extract s (Int.toNat n1) (ByteArray.size s))) (l ++ [(.agg [(i64 n), (st (ByteArray.extract s 0 (Int.toNat n1))), (i64 w1.fLine), (i64 w1.fCol)])]) w ⟨w1.fLine, (IntKind.wrap .i64 (w1.fCol + n2))⟩ R))))))))))))
  (R = ((.tup [(.sl 4 l), (.agg [(i64 0), (i64 0)]), (i64 0)]), [.dead]))) : L103_0 s l w w1 R := by
  unfold L103_0
  refine cutL_rule (ann := A103) (mv := MV) mixed (by kernel_rfl) ?_
  all_goals rcases l with _ | ⟨_, _⟩
  all_goals revert h
  all_goals refine via ?_
  all_goals kernel_rfl
set_option maxRecDepth 100000 in
theorem l103_1 (s : ByteArray) (l : List T) (w : W_api_Pos) (w1 : W_api_Pos) (R : T × List T) (h : cond (decide ((0 : Int) < (((ByteArray.size s) : Nat) : Int)))
  (((0 : Int) ≤ 0 ∧ 0 < (((ByteArray.size s) : Nat) : Int)) ∧
   (cond (!(decide (((byteAt s 0) : Int) = 10)))
    (∃ n : Int, ∃ n1 : Int, (Rn 191 [(st s)] ((.tup [(i32 n), (i64 n1)]), [.dead])) ∧
     (((0 : Int) ≤ n1 ∧ n1 ≤ (((ByteArray.size s) : Nat) : Int)) ∧
      (L103_1 ((ByteArray.extract s (Int.toNat n1) (ByteArray.size s))) l w ⟨w1.fLine, (IntKind.wrap .i64 (w1.fCol + 1))⟩ R)))
    (L103_0 s l w w1 R)))
  (L103_0 s l w w1 R)) : L103_1 s l w w1 R := by
  unfold L103_1
  refine cutL_rule (ann := A103) (mv := MV) mixed (by kernel_rfl) ?_
  all_goals rcases l with _ | ⟨_, _⟩
  all_goals revert h
  all_goals refine via ?_
  all_goals kernel_rfl
set_option maxRecDepth 100000 in
theorem f103 (s : ByteArray) (R : T × List T) (h : cond (decide ((12000 : Int) < (((ByteArray.size s) : Nat) : Int)))
  (R = ((.tup [(.sl 4 []), (.agg [(i64 1), (i64 1)]), (i64 4)]), [.dead]))
  (L103_0 s ([] : List T) ⟨0, 0⟩ ⟨1, 1⟩ R)) : Rn 103 [(st s)] R := by
  refine fn_rule (ann := A103) (mv := MV) (fz := true) mixed Tryz.func103 (c := B103) (by kernel_rfl) (by decide) ?_
  all_goals revert h
  all_goals refine via ?_
  all_goals kernel_rfl
/- tumbrel/show.plain -/
noncomputable def A104 : Ann := mkAnn [(17448, (fun a => [.ex (Bool) fun b => .done ((tb b), [.dead, .dead])]))] [] [] []
noncomputable abbrev B104 : Code := Tryz.f104.body.getD .skip
set_option maxRecDepth 100000 in
theorem f104 (names : List T) (R : T × List T) (h : ∃ b : Bool, (Rn 166 [(.sl 1 names), (.s (.func (.func 193) #[] #[]))] ((tb b), [.dead, .dead])) ∧
  (R = ((tb (!b)), [.dead]))) : Rn 104 [(.sl 1 names)] R := by
  refine fn_rule (ann := A104) (mv := MV) (fz := true) mixed Tryz.func104 (c := B104) (by kernel_rfl) (by decide) ?_
  all_goals revert h
  all_goals refine via ?_
  all_goals kernel_rfl
/- tumbrel/show.number -/
noncomputable def A105 : Ann := mkAnn [] [] [] []
noncomputable abbrev B105 : Code := Tryz.f105.body.getD .skip
set_option maxRecDepth 100000 in
theorem f105 (n : Int) (R : T × List T) (h : cond (decide ((0 : Int) ≤ n))
  (R = ((tb (decide ((n : Int) ≤ 1000000000))), [.dead]))
  (R = ((tb false), [.dead]))) : Rn 105 [(i64 n)] R := by
  refine fn_rule (ann := A105) (mv := MV) (fz := true) mixed Tryz.func105 (c := B105) (by kernel_rfl) (by decide) ?_
  all_goals revert h
  all_goals refine via ?_
  all_goals kernel_rfl
/- slices.ContainsFunc[[]tumbrel/chart.Var,tumbrel/chart.Var] -/
noncomputable def A106 : Ann := mkAnn [(17512, (fun a => [.ex (Int) fun n => .done ((i64 n), [.dead, .dead])]))] [] [] []
noncomputable abbrev B106 : Code := Tryz.f106.body.getD .skip
set_option maxRecDepth 100000 in
theorem f106 (s : List T) (R : T × List T) (h : ∃ n : Int, (Rn 196 [(.sl 4 s), (.s (.func (.func 107) #[] #[]))] ((i64 n), [.dead, .dead])) ∧
  (R = ((tb (decide ((0 : Int) ≤ n))), [.dead, .dead]))) : Rn 106 [(.sl 4 s), (.s (.func (.func 107) #[] #[]))] R := by
  refine fn_rule (ann := A106) (mv := MV) (fz := true) mixed Tryz.func106 (c := B106) (by kernel_rfl) (by decide) ?_
  all_goals revert h
  all_goals refine via ?_
  all_goals kernel_rfl
/- slices.ContainsFunc[[]tumbrel/chart.State,tumbrel/chart.State] -/
noncomputable def A108 : Ann := mkAnn [(17512, (fun a => [.ex (Int) fun n => .done ((i64 n), [.dead, .dead])]))] [] [] []
noncomputable abbrev B108 : Code := Tryz.f108.body.getD .skip
set_option maxRecDepth 100000 in
theorem f108 (s : List T) (R : T × List T) (h : ∃ n : Int, (Rn 197 [(.sl 11 s), (.s (.func (.func 109) #[] #[]))] ((i64 n), [.dead, .dead])) ∧
  (R = ((tb (decide ((0 : Int) ≤ n))), [.dead, .dead]))) : Rn 108 [(.sl 11 s), (.s (.func (.func 109) #[] #[]))] R := by
  refine fn_rule (ann := A108) (mv := MV) (fz := true) mixed Tryz.func108 (c := B108) (by kernel_rfl) (by decide) ?_
  all_goals revert h
  all_goals refine via ?_
  all_goals kernel_rfl
/- tumbrel/tumbrelref03.Plain -/
noncomputable def A111 : Ann := mkAnn [(17448, (fun a => [.ex (Bool) fun b => .done ((tb b), [.dead])])), (17640, (fun a => [.ex (Bool) fun b => .done ((tb b), [.dead])]))] [] [] []
noncomputable abbrev B111 : Code := Tryz.f111.body.getD .skip
set_option maxRecDepth 100000 in
theorem f111 (s : ByteArray) (R : T × List T) (h : ∃ b : Bool, (Rn 202 [(st s)] ((tb b), [.dead])) ∧
  (cond b
   (∃ b1 : Bool, (Rn 203 [(st s)] ((tb b1), [.dead])) ∧
    (R = ((tb (!b1)), [.dead])))
   (R = ((tb false), [.dead])))) : Rn 111 [(st s)] R := by
  refine fn_rule (ann := A111) (mv := MV) (fz := true) mixed Tryz.func111 (c := B111) (by kernel_rfl) (by decide) ?_
  all_goals revert h
  all_goals refine via ?_
  all_goals kernel_rfl
/- tumbrel/tumbrelref06.number -/
noncomputable def A112 : Ann := mkAnn [] [] [] []
noncomputable abbrev B112 : Code := Tryz.f112.body.getD .skip
set_option maxRecDepth 100000 in
theorem f112 (n : Int) (R : T × List T) (h : cond (decide ((0 : Int) ≤ n))
  (R = ((tb (decide ((n : Int) ≤ 1000000000))), [.dead]))
  (R = ((tb false), [.dead]))) : Rn 112 [(i64 n)] R := by
  refine fn_rule (ann := A112) (mv := MV) (fz := true) mixed Tryz.func112 (c := B112) (by kernel_rfl) (by decide) ?_
  all_goals revert h
  all_goals refine via ?_
  all_goals kernel_rfl
/- tumbrel/tumbrelref06.formedState -/
noncomputable def A113 : Ann := mkAnn [(17704, (fun a => [.ex (Bool) fun b => .done ((tb b), [.dead])])), (99560, (fun a => [.ex (Bool) fun b => .done ((tb b), [.dead])])), (99880, (fun a => [.ex (Bool) fun b => .done ((tb b), [.dead])])), (100264, (fun a => [.ex (Bool) fun b => .done ((tb b), [.dead])])), (100648, (fun a => [.ex (Bool) fun b => .done ((tb b), [.dead])])), (197736, (fun a => [.ex (Bool) fun b => .done ((tb b), [.dead])])), (198056, (fun a => [.ex (Bool) fun b => .done ((tb b), [.dead])])), (198632, (fun a => [.ex (Bool) fun b => .done ((tb b), [.dead])])), (279912, (fun a => [.ex (Bool) fun b => .done ((tb b), [.dead])])), (280488, (fun a => [.ex (Bool) fun b => .done ((tb b), [.dead])])), (394664, (fun a => [.ex (Bool) fun b => .done ((tb b), [.dead, .dead])]))] [(181416, [.ex W_tumbrelref06_On fun w => .done w.t]), (279720, [.ex W_tumbrelref06_Set fun w => .done w.t]), (280296, [.ex W_tumbrelref06_Set fun w => .done w.t]), (394408, [.ex W_tumbrelref06_State fun w => .done w.t])] [] [(1012, [1, 2, 80, 81]), (2036, [1, 2, 137, 138]), (1037116, [1, 2, 7, 80, 81, 94, 95, 96, 97, 100, 101, 102, 107, 111, 112])]
noncomputable abbrev B113 : Code := Tryz.f113.body.getD .skip
def L113_0 (depth : Int) (n : Int) (n1 : Int) (w : W_tumbrelref06_State) (R : T × List T) : Prop := CutL Tryz.prog Tryz.f113 B113 true [1, 1, 1, 1, 1, 0, 1, 0, 0] (mkSt 151 [(1, (i64 depth)), (2, (.ptr (1000000003, 0) 0)), (80, (i64 n)), (81, (i64 n1))] [((1000000003, 0), .box 63 [(st w.fName), (i64 w.fAt_Line), (i64 w.fAt_Col), (tb w.fAll), (tb w.fEnd), (st w.fDo), (st w.fUndo), (i64 w.fWhere), (i64 w.fRetries), (.sl 10 w.fOns), (.sl 11 w.fInner)])]) [.dead, .dead] R
def L113_1a (depth : Int) (n : Int) (n1 : Int) (s : ByteArray) (b : Bool) (b1 : Bool) (b2 : Bool) (b3 : Bool) (b4 : Bool) (n2 : Int) (n3 : Int) (w : W_tumbrelref06_State) (w1 : W_tumbrelref06_On) (R : T × List T) : Prop := CutL Tryz.prog Tryz.f113 B113 true [1, 1, 1, 1, 1, 0, 1, 0, 0, 1, 1, 0, 0, 1, 1, 1, 1, 0, 0] (mkSt 151 [(1, (i64 depth)), (2, (.ptr (1000000003, 0) 0)), (7, (.ptr (1000000008, 0) 0)), (80, (i64 n)), (81, (i64 n1)), (94, (.ptr (1000000008, 0) 6)), (95, (st s)), (96, (tb b)), (97, (tb b1)), (100, (.ptr (1000000008, 0) 1)), (101, (tb b2)), (102, (tb b3)), (107, (tb b4)), (111, (i64 n2)), (112, (i64 n3))] [((1000000003, 0), .box 63 [(st w.fName), (i64 w.fAt_Line), (i64 w.fAt_Col), (tb w.fAll), (tb w.fEnd), (st w.fDo), (st w.fUndo), (i64 w.fWhere), (i64 w.fRetries), (.sl 10 w.fOns), (.sl 11 w.fInner)]), ((1000000008, 0), .box 75 [(st w1.fEvent), (tb w1.fHas), (i64 w1.fGuard_Kind), (i64 w1.fGuard_N), (st w1.fGuard_S), (.sl 4 w1.fGuard_Parts), (st w1.fTarget), (.sl 5 w1.fSets), (i64 w1.fAt_Line), (i64 w1.fAt_Col)])]) [.dead, .dead] R
def L113_2 (depth : Int) (n : Int) (n1 : Int) (w : W_tumbrelref06_State) (R : T × List T) : Prop := CutL Tryz.prog Tryz.f113 B113 true [1, 1, 1, 1, 1, 1, 0, 1, 0, 0] (mkSt 151 [(1, (i64 depth)), (2, (.ptr (1000000003, 0) 0)), (137, (i64 n)), (138, (i64 n1))] [((1000000003, 0), .box 63 [(st w.fName), (i64 w.fAt_Line), (i64 w.fAt_Col), (tb w.fAll), (tb w.fEnd), (st w.fDo), (st w.fUndo), (i64 w.fWhere), (i64 w.fRetries), (.sl 10 w.fOns), (.sl 11 w.fInner)])]) [.dead, .dead] R
set_option maxRecDepth 100000 in
theorem l113_0 (depth : Int) (n : Int) (n1 : Int) (w : W_tumbrelref06_State) (R : T × List T) (h : cond (decide ((n1 : Int) < n))
  (∃ w1 : W_tumbrelref06_On, ((0 : Int) ≤ n1 ∧ w.fOns[(Int.toNat n1)]? = some w1.t) ∧
   (∃ b : Bool, (Rn 111 [(st w1.fEvent)] ((tb b), [.dead])) ∧
    (cond (!b)
     (R = ((tb false), [.dead, .dead]))
     (∃ b1 : Bool, (Rn 111 [(st w1.fTarget)] ((tb b1), [.dead])) ∧
      (cond (!b1)
       (R = ((tb false), [.dead, .dead]))
       (cond w1.fHas
        (∃ b2 : Bool, (Rn 204 [(.agg [(i64 w1.fGuard_Kind), (i64 w1.fGuard_N), (st w1.fGuard_S), (.sl 4 w1.fGuard_Parts)])] ((tb b2), [.dead])) ∧
         (cond (!b2)
          (R = ((tb false), [.dead, .dead]))
          (L113_1a depth n n1 w1.fTarget b1 (!b1) w1.fHas true (!b2) (((List.length w1.fSets) : Nat) : Int) 0 w w1 R)))
        (L113_1a depth n n1 w1.fTarget b1 (!b1) w1.fHas false false (((List.length w1.fSets) : Nat) : Int) 0 w w1 R)))))))
  (L113_2 depth (((List.length w.fInner) : Nat) : Int) 0 w R)) : L113_0 depth n n1 w R := by
  unfold L113_0
  refine cutL_rule (ann := A113) (mv := MV) mixed (by kernel_rfl) ?_
  all_goals revert h
  all_goals refine via ?_
  all_goals kernel_rfl
set_option maxRecDepth 100000 in
theorem l113_1a (depth : Int) (n : Int) (n1 : Int) (s : ByteArray) (b : Bool) (b1 : Bool) (b2 : Bool) (b3 : Bool) (b4 : Bool) (n2 : Int) (n3 : Int) (w : W_tumbrelref06_State) (w1 : W_tumbrelref06_On) (R : T × List T) (h : cond (decide ((n3 : Int) < n2))
  (∃ w2 : W_tumbrelref06_Set, ((0 : Int) ≤ n3 ∧ w1.fSets[(Int.toNat n3)]? = some w2.t) ∧
   (∃ b5 : Bool, (Rn 111 [(st w2.fName)] ((tb b5), [.dead])) ∧
    (cond (!b5)
     (R = ((tb false), [.dead, .dead]))
     (∃ w3 : W_tumbrelref06_Set, ((0 : Int) ≤ n3 ∧ w1.fSets[(Int.toNat n3)]? = some w3.t) ∧
      (∃ b6 : Bool, (Rn 204 [(.agg [(i64 w3.fTo_Kind), (i64 w3.fTo_N), (st w3.fTo_S), (.sl 4 w3.fTo_Parts)])] ((tb b6), [.dead])) ∧
       (cond (!b6)
        (R = ((tb false), [.dead, .dead]))
        (L113_1a depth n n1 s b b1 b2 b3 b4 n2 (IntKind.wrap .i64 (n3 + 1)) w w1 R)))))))
  (L113_0 depth n (IntKind.wrap .i64 (n1 + 1)) w R)) : L113_1a depth n n1 s b b1 b2 b3 b4 n2 n3 w w1 R := by
  unfold L113_1a
  refine cutL_rule (ann := A113) (mv := MV) mixed (by kernel_rfl) ?_
  all_goals revert h
  all_goals refine via ?_
  all_goals kernel_rfl
set_option maxRecDepth 100000 in
theorem l113_2 (depth : Int) (n : Int) (n1 : Int) (w : W_tumbrelref06_State) (R : T × List T) (h : cond (decide ((n1 : Int) < n))
  (∃ w1 : W_tumbrelref06_State, ((0 : Int) ≤ n1 ∧ w.fInner[(Int.toNat n1)]? = some w1.t) ∧
   (∃ b : Bool, (Rn 113 [w1.t, (i64 (IntKind.wrap .i64 (depth + 1)))] ((tb b), [.dead, .dead])) ∧
    (cond (!b)
     (R = ((tb false), [.dead, .dead]))
     (L113_2 depth n (IntKind.wrap .i64 (n1 + 1)) w R))))
  (R = ((tb true), [.dead, .dead]))) : L113_2 depth n n1 w R := by
  unfold L113_2
  refine cutL_rule (ann := A113) (mv := MV) mixed (by kernel_rfl) ?_
  all_goals revert h
  all_goals refine via ?_
  all_goals kernel_rfl
set_option maxRecDepth 100000 in
theorem f113 (w : W_tumbrelref06_State) (depth : Int) (R : T × List T) (h : cond (decide ((6 : Int) < depth))
  (R = ((tb false), [.dead, .dead]))
  (∃ b : Bool, (Rn 111 [(st w.fName)] ((tb b), [.dead])) ∧
   (cond (!b)
    (R = ((tb false), [.dead, .dead]))
    (cond (!(decide (w.fDo = (bs []))))
     (cond w.fAll
      (cond w.fEnd
       (R = ((tb false), [.dead, .dead]))
       (cond w.fAll
        (R = ((tb false), [.dead, .dead]))
        (cond w.fEnd
         (R = ((tb false), [.dead, .dead]))
         (∃ b1 : Bool, (Rn 111 [(st w.fDo)] ((tb b1), [.dead])) ∧
          (cond (!b1)
           (R = ((tb false), [.dead, .dead]))
           (∃ b2 : Bool, (Rn 111 [(st w.fUndo)] ((tb b2), [.dead])) ∧
            (cond (!b2)
             (R = ((tb false), [.dead, .dead]))
             (∃ b3 : Bool, (Rn 112 [(i64 w.fWhere)] ((tb b3), [.dead])) ∧
              (cond (!b3)
               (R = ((tb false), [.dead, .dead]))
               (∃ b4 : Bool, (Rn 112 [(i64 w.fRetries)] ((tb b4), [.dead])) ∧
                (cond (!b4)
                 (R = ((tb false), [.dead, .dead]))
                 (L113_0 depth (((List.length w.fOns) : Nat) : Int) 0 w R))))))))))))
      (cond w.fAll
       (R = ((tb false), [.dead, .dead]))
       (cond w.fEnd
        (R = ((tb false), [.dead, .dead]))
        (∃ b5 : Bool, (Rn 111 [(st w.fDo)] ((tb b5), [.dead])) ∧
         (cond (!b5)
          (R = ((tb false), [.dead, .dead]))
          (∃ b6 : Bool, (Rn 111 [(st w.fUndo)] ((tb b6), [.dead])) ∧
           (cond (!b6)
            (R = ((tb false), [.dead, .dead]))
            (∃ b7 : Bool, (Rn 112 [(i64 w.fWhere)] ((tb b7), [.dead])) ∧
             (cond (!b7)
              (R = ((tb false), [.dead, .dead]))
              (∃ b8 : Bool, (Rn 112 [(i64 w.fRetries)] ((tb b8), [.dead])) ∧
               (cond (!b8)
                (R = ((tb false), [.dead, .dead]))
                (L113_0 depth (((List.length w.fOns) : Nat) : Int) 0 w R))))))))))))
     (cond (!(decide (w.fUndo = (bs []))))
      (cond w.fAll
       (cond w.fEnd
        (R = ((tb false), [.dead, .dead]))
        (cond w.fAll
         (R = ((tb false), [.dead, .dead]))
         (cond w.fEnd
          (R = ((tb false), [.dead, .dead]))
          (∃ b9 : Bool, (Rn 111 [(st w.fDo)] ((tb b9), [.dead])) ∧
           (cond (!b9)
            (R = ((tb false), [.dead, .dead]))
            (∃ b10 : Bool, (Rn 111 [(st w.fUndo)] ((tb b10), [.dead])) ∧
             (cond (!b10)
              (R = ((tb false), [.dead, .dead]))
              (∃ b11 : Bool, (Rn 112 [(i64 w.fWhere)] ((tb b11), [.dead])) ∧
               (cond (!b11)
                (R = ((tb false), [.dead, .dead]))
                (∃ b12 : Bool, (Rn 112 [(i64 w.fRetries)] ((tb b12), [.dead])) ∧
                 (cond (!b12)
                  (R = ((tb false), [.dead, .dead]))
                  (L113_0 depth (((List.length w.fOns) : Nat) : Int) 0 w R))))))))))))
       (cond w.fAll
        (R = ((tb false), [.dead, .dead]))
        (cond w.fEnd
         (R = ((tb false), [.dead, .dead]))
         (∃ b13 : Bool, (Rn 111 [(st w.fDo)] ((tb b13), [.dead])) ∧
          (cond (!b13)
           (R = ((tb false), [.dead, .dead]))
           (∃ b14 : Bool, (Rn 111 [(st w.fUndo)] ((tb b14), [.dead])) ∧
            (cond (!b14)
             (R = ((tb false), [.dead, .dead]))
             (∃ b15 : Bool, (Rn 112 [(i64 w.fWhere)] ((tb b15), [.dead])) ∧
              (cond (!b15)
               (R = ((tb false), [.dead, .dead]))
               (∃ b16 : Bool, (Rn 112 [(i64 w.fRetries)] ((tb b16), [.dead])) ∧
                (cond (!b16)
                 (R = ((tb false), [.dead, .dead]))
                 (L113_0 depth (((List.length w.fOns) : Nat) : Int) 0 w R))))))))))))
      (cond (!(decide ((w.fWhere : Int) = 0)))
       (cond w.fAll
        (cond w.fEnd
         (R = ((tb false), [.dead, .dead]))
         (cond w.fAll
          (R = ((tb false), [.dead, .dead]))
          (cond w.fEnd
           (R = ((tb false), [.dead, .dead]))
           (∃ b17 : Bool, (Rn 111 [(st w.fDo)] ((tb b17), [.dead])) ∧
            (cond (!b17)
             (R = ((tb false), [.dead, .dead]))
             (∃ b18 : Bool, (Rn 111 [(st w.fUndo)] ((tb b18), [.dead])) ∧
              (cond (!b18)
               (R = ((tb false), [.dead, .dead]))
               (∃ b19 : Bool, (Rn 112 [(i64 w.fWhere)] ((tb b19), [.dead])) ∧
                (cond (!b19)
                 (R = ((tb false), [.dead, .dead]))
                 (∃ b20 : Bool, (Rn 112 [(i64 w.fRetries)] ((tb b20), [.dead])) ∧
                  (cond (!b20)
                   (R = ((tb false), [.dead, .dead]))
                   (L113_0 depth (((List.length w.fOns) : Nat) : Int) 0 w R))))))))))))
        (cond w.fAll
         (R = ((tb false), [.dead, .dead]))
         (cond w.fEnd
          (R = ((tb false), [.dead, .dead]))
          (∃ b21 : Bool, (Rn 111 [(st w.fDo)] ((tb b21), [.dead])) ∧
           (cond (!b21)
            (R = ((tb false), [.dead, .dead]))
            (∃ b22 : Bool, (Rn 111 [(st w.fUndo)] ((tb b22), [.dead])) ∧
             (cond (!b22)
              (R = ((tb false), [.dead, .dead]))
              (∃ b23 : Bool, (Rn 112 [(i64 w.fWhere)] ((tb b23), [.dead])) ∧
               (cond (!b23)
                (R = ((tb false), [.dead, .dead]))
                (∃ b24 : Bool, (Rn 112 [(i64 w.fRetries)] ((tb b24), [.dead])) ∧
                 (cond (!b24)
                  (R = ((tb false), [.dead, .dead]))
                  (L113_0 depth (((List.length w.fOns) : Nat) : Int) 0 w R))))))))))))
       (cond w.fAll
        (cond w.fEnd
         (R = ((tb false), [.dead, .dead]))
         (cond w.fAll
          (cond (!(decide ((w.fRetries : Int) = 0)))
           (R = ((tb false), [.dead, .dead]))
           (cond (!(decide ((w.fRetries : Int) = 0)))
            (∃ b25 : Bool, (Rn 111 [(st w.fDo)] ((tb b25), [.dead])) ∧
             (cond (!b25)
              (R = ((tb false), [.dead, .dead]))
              (∃ b26 : Bool, (Rn 111 [(st w.fUndo)] ((tb b26), [.dead])) ∧
               (cond (!b26)
                (R = ((tb false), [.dead, .dead]))
                (∃ b27 : Bool, (Rn 112 [(i64 w.fWhere)] ((tb b27), [.dead])) ∧
                 (cond (!b27)
                  (R = ((tb false), [.dead, .dead]))
                  (∃ b28 : Bool, (Rn 112 [(i64 w.fRetries)] ((tb b28), [.dead])) ∧
                   (cond (!b28)
                    (R = ((tb false), [.dead, .dead]))
                    (L113_0 depth (((List.length w.fOns) : Nat) : Int) 0 w R)))))))))
            (L113_0 depth (((List.length w.fOns) : Nat) : Int) 0 w R)))
          (cond w.fEnd
           (cond (!(decide ((w.fRetries : Int) = 0)))
            (R = ((tb false), [.dead, .dead]))
            (cond (!(decide ((w.fRetries : Int) = 0)))
             (∃ b29 : Bool, (Rn 111 [(st w.fDo)] ((tb b29), [.dead])) ∧
              (cond (!b29)
               (R = ((tb false), [.dead, .dead]))
               (∃ b30 : Bool, (Rn 111 [(st w.fUndo)] ((tb b30), [.dead])) ∧
                (cond (!b30)
                 (R = ((tb false), [.dead, .dead]))
                 (∃ b31 : Bool, (Rn 112 [(i64 w.fWhere)] ((tb b31), [.dead])) ∧
                  (cond (!b31)
                   (R = ((tb false), [.dead, .dead]))
                   (∃ b32 : Bool, (Rn 112 [(i64 w.fRetries)] ((tb b32), [.dead])) ∧
                    (cond (!b32)
                     (R = ((tb false), [.dead, .dead]))
                     (L113_0 depth (((List.length w.fOns) : Nat) : Int) 0 w R)))))))))
             (L113_0 depth (((List.length w.fOns) : Nat) : Int) 0 w R)))
           (cond (!(decide ((w.fRetries : Int) = 0)))
            (∃ b33 : Bool, (Rn 111 [(st w.fDo)] ((tb b33), [.dead])) ∧
             (cond (!b33)
              (R = ((tb false), [.dead, .dead]))
              (∃ b34 : Bool, (Rn 111 [(st w.fUndo)] ((tb b34), [.dead])) ∧
               (cond (!b34)
                (R = ((tb false), [.dead, .dead]))
                (∃ b35 : Bool, (Rn 112 [(i64 w.fWhere)] ((tb b35), [.dead])) ∧
                 (cond (!b35)
                  (R = ((tb false), [.dead, .dead]))
                  (∃ b36 : Bool, (Rn 112 [(i64 w.fRetries)] ((tb b36), [.dead])) ∧
                   (cond (!b36)
                    (R = ((tb false), [.dead, .dead]))
                    (L113_0 depth (((List.length w.fOns) : Nat) : Int) 0 w R)))))))))
            (L113_0 depth (((List.length w.fOns) : Nat) : Int) 0 w R)))))
        (cond w.fAll
         (cond (!(decide ((w.fRetries : Int) = 0)))
          (R = ((tb false), [.dead, .dead]))
          (cond (!(decide ((w.fRetries : Int) = 0)))
           (∃ b37 : Bool, (Rn 111 [(st w.fDo)] ((tb b37), [.dead])) ∧
            (cond (!b37)
             (R = ((tb false), [.dead, .dead]))
             (∃ b38 : Bool, (Rn 111 [(st w.fUndo)] ((tb b38), [.dead])) ∧
              (cond (!b38)
               (R = ((tb false), [.dead, .dead]))
               (∃ b39 : Bool, (Rn 112 [(i64 w.fWhere)] ((tb b39), [.dead])) ∧
                (cond (!b39)
                 (R = ((tb false), [.dead, .dead]))
                 (∃ b40 : Bool, (Rn 112 [(i64 w.fRetries)] ((tb b40), [.dead])) ∧
                  (cond (!b40)
                   (R = ((tb false), [.dead, .dead]))
                   (L113_0 depth (((List.length w.fOns) : Nat) : Int) 0 w R)))))))))
           (L113_0 depth (((List.length w.fOns) : Nat) : Int) 0 w R)))
         (cond w.fEnd
          (cond (!(decide ((w.fRetries : Int) = 0)))
           (R = ((tb false), [.dead, .dead]))
           (cond (!(decide ((w.fRetries : Int) = 0)))
            (∃ b41 : Bool, (Rn 111 [(st w.fDo)] ((tb b41), [.dead])) ∧
             (cond (!b41)
              (R = ((tb false), [.dead, .dead]))
              (∃ b42 : Bool, (Rn 111 [(st w.fUndo)] ((tb b42), [.dead])) ∧
               (cond (!b42)
                (R = ((tb false), [.dead, .dead]))
                (∃ b43 : Bool, (Rn 112 [(i64 w.fWhere)] ((tb b43), [.dead])) ∧
                 (cond (!b43)
                  (R = ((tb false), [.dead, .dead]))
                  (∃ b44 : Bool, (Rn 112 [(i64 w.fRetries)] ((tb b44), [.dead])) ∧
                   (cond (!b44)
                    (R = ((tb false), [.dead, .dead]))
                    (L113_0 depth (((List.length w.fOns) : Nat) : Int) 0 w R)))))))))
            (L113_0 depth (((List.length w.fOns) : Nat) : Int) 0 w R)))
          (cond (!(decide ((w.fRetries : Int) = 0)))
           (∃ b45 : Bool, (Rn 111 [(st w.fDo)] ((tb b45), [.dead])) ∧
            (cond (!b45)
             (R = ((tb false), [.dead, .dead]))
             (∃ b46 : Bool, (Rn 111 [(st w.fUndo)] ((tb b46), [.dead])) ∧
              (cond (!b46)
               (R = ((tb false), [.dead, .dead]))
               (∃ b47 : Bool, (Rn 112 [(i64 w.fWhere)] ((tb b47), [.dead])) ∧
                (cond (!b47)
                 (R = ((tb false), [.dead, .dead]))
                 (∃ b48 : Bool, (Rn 112 [(i64 w.fRetries)] ((tb b48), [.dead])) ∧
                  (cond (!b48)
                   (R = ((tb false), [.dead, .dead]))
                   (L113_0 depth (((List.length w.fOns) : Nat) : Int) 0 w R)))))))))
           (L113_0 depth (((List.length w.fOns) : Nat) : Int) 0 w R))))))))))) : Rn 113 [w.t, (i64 depth)] R := by
  refine fn_rule (ann := A113) (mv := MV) (fz := true) mixed Tryz.func113 (c := B113) (by kernel_rfl) (by decide) ?_
  all_goals revert h
  all_goals refine via ?_
  all_goals kernel_rfl
/- (*tumbrel/glyph.lexer).word -/
noncomputable def A270 : Ann := mkAnn [(33832, (fun a => [.ex (Bool) fun b => .done ((tb b), [.dead])])), (50344, (fun a => [.ex (Int) fun n => .done ((i64 n), [(a.getD 0 .dead), .dead])])), (66984, (fun a => [.ex (Bool) fun b => .done ((tb b), [.dead])])), (82984, (fun a => [.ex (Bool) fun b => .done ((tb b), [.dead])])), (99496, (fun a => [.ex (Int) fun n => .done ((i64 n), [(a.getD 0 .dead), .dead])])), (116136, (fun a => [.ex (Bool) fun b => .done ((tb b), [.dead])])), (181352, (fun a => [.ex (Bool) fun b => .done ((tb b), [.dead, .dead])]))] [(164904, [.ex ByteArray fun w => .done (st w)])] [] [(244, [0, 6, 8, 51, 52, 53])]
noncomputable abbrev B270 : Code := Tryz.f270.body.getD .skip
def L270_0 (rest : ByteArray) (n : Int) (n1 : Int) (s : ByteArray) (l : List T) (n2 : Int) (b : Bool) (n3 : Int) (n4 : Int) (w : W_glyph_Word) (l1 : List T) (R : T × List T) : Prop := CutL Tryz.prog Tryz.f270 B270 true [1, 1, 1, 0, 1, 0, 0] (mkSt 68 [(0, (.ptr (0, 0) 0)), (6, (.ptr (1000000007, 0) 0)), (8, (st rest)), (51, (.own (1000000052, 0))), (52, (i64 n)), (53, (i64 n1))] (([((0, 0), .box 323 [(st s), (mnT (1, 0) l), (i64 n2), (tb b), (i64 n3), (i64 n4)]), ((1000000007, 0), .box 414 [(i64 w.fKind), (st w.fText), (i64 w.fAt_Line), (i64 w.fAt_Col)]), ((1000000052, 0), .arr 9 1 l1)] ++ mnH (1, 0) 414 4 l))) [(.ptr (0, 0) 0), .dead, .dead] R
set_option maxRecDepth 100000 in
theorem l270_0 (rest : ByteArray) (n : Int) (n1 : Int) (s : ByteArray) (l : List T) (n2 : Int) (b : Bool) (n3 : Int) (n4 : Int) (w : W_glyph_Word) (l1 : List T) (R : T × List T) (h : cond (decide ((n1 : Int) < n))
  (((0 : Int) ≤ n1 ∧ n1 < (((List.length l1) : Nat) : Int)) ∧
   (∃ s1 : ByteArray, (l1[(Int.toNat n1)]? = some (st s1)) ∧
    (∃ b1 : Bool, (Rn 262 [(st rest), (st s1)] ((tb b1), [.dead, .dead])) ∧
     (cond b1
      (R = ((.tup [(.agg [(i64 3), (st s1), (i64 n3), (i64 n4)]), (tb true)]), [(.cbox 323 [(st s), (mnC 414 4 l), (i64 n2), (tb b), (i64 n3), (i64 n4)]), .dead, .dead]))
      (L270_0 rest n (IntKind.wrap .i64 (n1 + 1)) s l n2 b n3 n4 w l1 R)))))
  (R = ((.tup [(.agg [(i64 0), (st (bs [])), (i64 0), (i64 0)]), (tb false)]), [(.cbox 323 [(st s), (mnC 414 4 l), (i64 n2), (tb b), (i64 n3), (i64 n4)]), .dead, .dead]))) : L270_0 rest n n1 s l n2 b n3 n4 w l1 R := by
  unfold L270_0
  refine cutL_rule (ann := A270) (mv := MV) mixed (by kernel_rfl) ?_
  all_goals rcases l with _ | ⟨_, _⟩
  all_goals revert h
  all_goals refine via ?_
  all_goals kernel_rfl
set_option maxRecDepth 100000 in
theorem f270 (s : ByteArray) (l : List T) (n : Int) (b : Bool) (n1 : Int) (n2 : Int) (i : Int) (n3 : Int) (R : T × List T) (h : ((0 : Int) ≤ i ∧ i ≤ (((ByteArray.size s) : Nat) : Int)) ∧
  (∃ b1 : Bool, (Rn 279 [(i32 n3)] ((tb b1), [.dead])) ∧
   (cond b1
    (∃ n4 : Int, (Rn 343 [(.cbox 323 [(st s), (mnC 414 4 l), (i64 n), (tb b), (i64 n1), (i64 n2)]), (i64 i)] ((i64 n4), [(.cbox 323 [(st s), (mnC 414 4 l), (i64 n), (tb b), (i64 n1), (i64 n2)]), .dead])) ∧
     (((0 : Int) ≤ n4 ∧ n4 ≤ (((ByteArray.size (ByteArray.extract s (Int.toNat i) (ByteArray.size s))) : Nat) : Int)) ∧
      (∃ b2 : Bool, (Rn 194 [(st (ByteArray.extract (ByteArray.extract s (Int.toNat i) (ByteArray.size s)) 0 (Int.toNat n4)))] ((tb b2), [.dead])) ∧
       (R = ((.tup [(.agg [(i64 1), (st (ByteArray.extract (ByteArray.extract s (Int.toNat i) (ByteArray.size s)) 0 (Int.toNat n4))), (i64 n1), (i64 n2)]), (tb b2)]), [(.cbox 323 [(st s), (mnC 414 4 l), (i64 n), (tb b), (i64 n1), (i64 n2)]), .dead, .dead])))))
    (∃ b3 : Bool, (Rn 344 [(i32 n3)] ((tb b3), [.dead])) ∧
     (cond b3
      (∃ n5 : Int, (Rn 343 [(.cbox 323 [(st s), (mnC 414 4 l), (i64 n), (tb b), (i64 n1), (i64 n2)]), (i64 i)] ((i64 n5), [(.cbox 323 [(st s), (mnC 414 4 l), (i64 n), (tb b), (i64 n1), (i64 n2)]), .dead])) ∧
       (((0 : Int) ≤ n5 ∧ n5 ≤ (((ByteArray.size (ByteArray.extract s (Int.toNat i) (ByteArray.size s))) : Nat) : Int)) ∧
        (∃ b4 : Bool, (Rn 345 [(st (ByteArray.extract (ByteArray.extract s (Int.toNat i) (ByteArray.size s)) 0 (Int.toNat n5)))] ((tb b4), [.dead])) ∧
         (R = ((.tup [(.agg [(i64 2), (st (ByteArray.extract (ByteArray.extract s (Int.toNat i) (ByteArray.size s)) 0 (Int.toNat n5))), (i64 n1), (i64 n2)]), (tb b4)]), [(.cbox 323 [(st s), (mnC 414 4 l), (i64 n), (tb b), (i64 n1), (i64 n2)]), .dead, .dead])))))
      (L270_0 ((ByteArray.extract s (Int.toNat i) (ByteArray.size s))) 15 0 s l n b n1 n2 ⟨0, (bs []), 0, 0⟩ ([(st (bs [61, 61])), (st (bs [33, 61])), (st (bs [60, 61])), (st (bs [38, 38])), (st (bs [124, 124])), (st (bs [123])), (st (bs [125])), (st (bs [40])), (st (bs [41])), (st (bs [61])), (st (bs [33])), (st (bs [60])), (st (bs [43])), (st (bs [45])), (st (bs [42]))] : List T) R)))))) : Rn 270 [(.cbox 323 [(st s), (mnC 414 4 l), (i64 n), (tb b), (i64 n1), (i64 n2)]), (i64 i), (i32 n3)] R := by
  refine fn_rule (ann := A270) (mv := MV) (fz := true) mixed Tryz.func270 (c := B270) (by kernel_rfl) (by decide) ?_
  all_goals rcases l with _ | ⟨_, _⟩
  all_goals revert h
  all_goals refine via ?_
  all_goals kernel_rfl
/- tumbrel/tumbrelref04.Small -/
noncomputable def A171 : Ann := mkAnn [(17448, (fun a => [.ex (Int) fun n => .done ((i64 n), [.dead, .dead, .dead])]))] [] [] []
noncomputable abbrev B171 : Code := Tryz.f171.body.getD .skip
set_option maxRecDepth 100000 in
theorem f171 (w : W_tumbrelref04_Node) (R : T × List T) (h : ∃ n : Int, (Rn 255 [w.t, (i64 0), (i64 200)] ((i64 n), [.dead, .dead, .dead])) ∧
  (R = ((tb (decide ((0 : Int) ≤ n))), [.dead]))) : Rn 171 [w.t] R := by
  refine fn_rule (ann := A171) (mv := MV) (fz := true) mixed Tryz.func171 (c := B171) (by kernel_rfl) (by decide) ?_
  all_goals revert h
  all_goals refine via ?_
  all_goals kernel_rfl
/- tumbrel/tumbrellaw04.Theirs -/
noncomputable def A153 : Ann := mkAnn [(132136, (fun a => [.ex (IfV) fun e => .done (e.v, [.dead, (a.getD 1 .dead)])])), (164904, (fun a => [.ex (IfV) fun e => .done (e.v, [.dead, (a.getD 1 .dead)])])), (197800, (fun a => [.ex (IfV) fun e => .done (e.v, [.dead, (a.getD 1 .dead)])])), (197928, (fun a => [.ex (IfV) fun e => .done (e.v, [.dead, (a.getD 1 .dead)])]))] [] [] [] [(197800, [(1000, 0)]), (197928, [(1000, 0)])]
noncomputable abbrev B153 : Code := Tryz.f153.body.getD .skip
set_option maxRecDepth 100000 in
theorem f153 (w : W_tumbrelref04_Node) (R : T × List T) (h : cond (decide ((w.fKind : Int) = 1))
  (R = ((.ifc 165 (.agg [(i64 w.fN)])), [.dead]))
  (cond (decide ((w.fKind : Int) = 2))
   (R = ((.ifc 378 (.agg [(st w.fS)])), [.dead]))
   (cond (decide ((w.fKind : Int) = 3))
    (∃ e : IfV, (Rn 244 [(i64 0), (.cbox 72 [(i64 w.fKind), (i64 w.fN), (st w.fS), (.sl 4 w.fParts)])] (e.v, [.dead, (.cbox 72 [(i64 w.fKind), (i64 w.fN), (st w.fS), (.sl 4 w.fParts)])])) ∧
     (R = ((.ifc 380 (.agg [e.v])), [.dead])))
    (cond (decide ((w.fKind : Int) = 4))
     (∃ e1 : IfV, (Rn 244 [(i64 0), (.cbox 72 [(i64 w.fKind), (i64 w.fN), (st w.fS), (.sl 4 w.fParts)])] (e1.v, [.dead, (.cbox 72 [(i64 w.fKind), (i64 w.fN), (st w.fS), (.sl 4 w.fParts)])])) ∧
      (R = ((.ifc 381 (.agg [e1.v])), [.dead])))
     (cond (decide ((w.fKind : Int) = 5))
      (∃ e2 : IfV, (Rn 244 [(i64 0), (.cbox 72 [(i64 w.fKind), (i64 w.fN), (st w.fS), (.sl 4 w.fParts)])] (e2.v, [.dead, (.cbox 72 [(i64 w.fKind), (i64 w.fN), (st w.fS), (.sl 4 w.fParts)])])) ∧
       (((some (.box 72 [(i64 w.fKind), (i64 w.fN), (st w.fS), (.sl 4 w.fParts)]) : Option O) = some (.box 72 [(i64 w.fKind), (i64 w.fN), (st w.fS), (.sl 4 w.fParts)])) ∧
        (∃ e3 : IfV, (Rn 244 [(i64 1), (.cbox 72 [(i64 w.fKind), (i64 w.fN), (st w.fS), (.sl 4 w.fParts)])] (e3.v, [.dead, (.cbox 72 [(i64 w.fKind), (i64 w.fN), (st w.fS), (.sl 4 w.fParts)])])) ∧
         (((some (.box 72 [(i64 w.fKind), (i64 w.fN), (st w.fS), (.sl 4 w.fParts)]) : Option O) = some (.box 72 [(i64 w.fKind), (i64 w.fN), (st w.fS), (.sl 4 w.fParts)])) ∧
          (R = ((.ifc 383 (.agg [(st w.fS), e2.v, e3.v])), [.dead]))))))
      (R = ((.ifc 0 .dead), [.dead]))))))) : Rn 153 [w.t] R := by
  refine fn_rule (ann := A153) (mv := MV) (fz := true) mixed Tryz.func153 (c := B153) (by kernel_rfl) (by decide) ?_
  all_goals revert h
  all_goals refine via ?_
  all_goals kernel_rfl
/- tumbrel/tumbrelref04.Clean -/
noncomputable def A156 : Ann := mkAnn [(296232, (fun a => [.ex (W_tumbrelref04_Node) fun w => .done (w.t, [.dead])]))] [(296104, [.ex W_tumbrelref04_Node fun w => .done w.t])] [] [(500, [1, 2, 3, 31, 32])]
noncomputable abbrev B156 : Code := Tryz.f156.body.getD .skip
def L156_0 (n : Int) (n1 : Int) (w : W_tumbrelref04_Node) (n2 : Int) (n3 : Int) (s : ByteArray) (n4 : Int) (n5 : Int) (s1 : ByteArray) (l : List T) (R : T × List T) : Prop := CutL Tryz.prog Tryz.f156 B156 true [1, 1, 1, 1, 0, 1, 0, 0] (mkSt 55 [(1, (.ptr (1000000002, 0) 0)), (2, (.ptr (1000000003, 0) 0)), (3, (.ptr (1000000004, 0) 0)), (31, (i64 n)), (32, (i64 n1))] (([((1000000002, 0), .box 72 [(i64 w.fKind), (i64 w.fN), (st w.fS), (.sl 4 w.fParts)]), ((1000000003, 0), .box 72 [(i64 n2), (i64 n3), (st s), nilS]), ((1000000004, 0), .box 72 [(i64 n4), (i64 n5), (st s1), (mnT (1000000516, 0) l)])] ++ mnH (1000000516, 0) 72 4 l))) [.dead] R
set_option maxRecDepth 100000 in
theorem l156_0 (n : Int) (n1 : Int) (w : W_tumbrelref04_Node) (n2 : Int) (n3 : Int) (s : ByteArray) (n4 : Int) (n5 : Int) (s1 : ByteArray) (l : List T) (R : T × List T) (h : cond (decide ((n1 : Int) < n))
  (cond (decide ((n1 : Int) < (((List.length w.fParts) : Nat) : Int)))
   (∃ w1 : W_tumbrelref04_Node, ((0 : Int) ≤ n1 ∧ w.fParts[(Int.toNat n1)]? = some w1.t) ∧
    (∃ w2 : W_tumbrelref04_Node, (Rn 156 [w1.t] (w2.t, [.dead])) ∧
     (chk (Nat.ble (((List.length l) + 1) * 56) 140737488355328)
      (L156_0 n (IntKind.wrap .i64 (n1 + 1)) w n2 n3 s n4 n5 s1 (l ++ [w2.t]) R))))
   (chk (Nat.ble (((List.length l) + 1) * 56) 140737488355328)
    (L156_0 n (IntKind.wrap .i64 (n1 + 1)) w n2 n3 s n4 n5 s1 (l ++ [(.agg [(i64 0), (i64 0), (st (bs [])), (.sl 4 [])])]) R)))
  (R = ((.agg [(i64 n4), (i64 n5), (st s1), (.sl 4 l)]), [.dead]))) : L156_0 n n1 w n2 n3 s n4 n5 s1 l R := by
  unfold L156_0
  refine cutL_rule (ann := A156) (mv := MV) mixed (by kernel_rfl) ?_
  all_goals rcases l with _ | ⟨_, _⟩
  all_goals revert h
  all_goals refine via ?_
  all_goals kernel_rfl
set_option maxRecDepth 100000 in
theorem f156 (w : W_tumbrelref04_Node) (R : T × List T) (h : cond (decide ((w.fKind : Int) = 1))
  (R = ((.agg [(i64 1), (i64 w.fN), (st (bs [])), (.sl 4 [])]), [.dead]))
  (cond (decide ((w.fKind : Int) = 2))
   (R = ((.agg [(i64 2), (i64 0), (st w.fS), (.sl 4 [])]), [.dead]))
   (cond (decide ((w.fKind : Int) = 3))
    (L156_0 1 0 w 0 0 (bs []) w.fKind 0 (bs []) ([] : List T) R)
    (cond (decide ((w.fKind : Int) = 4))
     (L156_0 1 0 w 0 0 (bs []) w.fKind 0 (bs []) ([] : List T) R)
     (cond (decide ((w.fKind : Int) = 5))
      (L156_0 2 0 w 0 0 (bs []) 5 0 w.fS ([] : List T) R)
      (L156_0 0 0 w 0 0 (bs []) 0 0 (bs []) ([] : List T) R)))))) : Rn 156 [w.t] R := by
  refine fn_rule (ann := A156) (mv := MV) (fz := true) mixed Tryz.func156 (c := B156) (by kernel_rfl) (by decide) ?_
  all_goals revert h
  all_goals refine via ?_
  all_goals kernel_rfl
/- tumbrel/tumbrelref06.expr -/
noncomputable def A190 : Ann := mkAnn [(17448, (fun a => [.ex (ByteArray) fun s => .ex (Int) fun n => .done ((.tup [(st s), (i64 n)]), [.dead])]))] [] [] []
noncomputable abbrev B190 : Code := Tryz.f190.body.getD .skip
set_option maxRecDepth 100000 in
theorem f190 (w : W_tumbrelref04_Node) (R : T × List T) (h : ∃ s : ByteArray, ∃ n : Int, (Rn 271 [w.t] ((.tup [(st s), (i64 n)]), [.dead])) ∧
  (R = ((st s), [.dead]))) : Rn 190 [w.t] R := by
  refine fn_rule (ann := A190) (mv := MV) (fz := true) mixed Tryz.func190 (c := B190) (by kernel_rfl) (by decide) ?_
  all_goals revert h
  all_goals refine via ?_
  all_goals kernel_rfl
/- tumbrel/tumbrelref03.first -/
noncomputable def A192 : Ann := mkAnn [(17448, (fun a => [.ex (Int) fun n => .ex (Int) fun n1 => .done ((.tup [(i32 n), (i64 n1)]), [.dead])])), (33832, (fun a => [.ex (Int) fun n => .ex (Int) fun n1 => .done ((.tup [(i64 n), (i64 n1)]), [.dead])])), (50216, (fun a => [.ex (Bool) fun b => .done ((tb b), [.dead])])), (66728, (fun a => [.ex (Bool) fun b => .done ((tb b), [.dead])])), (115752, (fun a => [.ex (Bool) fun b => .done ((tb b), [.dead])])), (132264, (fun a => [.ex (Int) fun n => .ex (Bool) fun b => .done ((.tup [(i64 n), (tb b)]), [.dead])])), (197672, (fun a => [.ex (Int) fun n => .done ((i64 n), [.dead])]))] [] [] []
noncomputable abbrev B192 : Code := Tryz.f192.body.getD .skip
set_option maxRecDepth 100000 in
theorem f192 (s : ByteArray) (R : T × List T) (h : ∃ n : Int, ∃ n1 : Int, (Rn 191 [(st s)] ((.tup [(i32 n), (i64 n1)]), [.dead])) ∧
  (∃ n2 : Int, ∃ n3 : Int, (Rn 273 [(st s)] ((.tup [(i64 n2), (i64 n3)]), [.dead])) ∧
   (∃ b : Bool, (Rn 274 [(i32 n)] ((tb b), [.dead])) ∧
    (cond b
     (((0 : Int) ≤ n2 ∧ n2 ≤ (((ByteArray.size s) : Nat) : Int)) ∧
      (∃ b1 : Bool, (Rn 202 [(st (ByteArray.extract s 0 (Int.toNat n2)))] ((tb b1), [.dead])) ∧
       (cond b1
        (R = ((.tup [(i64 1), (i64 n2), (i64 n3)]), [.dead]))
        (R = ((.tup [(i64 0), (i64 0), (i64 0)]), [.dead])))))
     (∃ b2 : Bool, (Rn 275 [(i32 n)] ((tb b2), [.dead])) ∧
      (cond b2
       (((0 : Int) ≤ n2 ∧ n2 ≤ (((ByteArray.size s) : Nat) : Int)) ∧
        (∃ n4 : Int, ∃ b3 : Bool, (Rn 276 [(st (ByteArray.extract s 0 (Int.toNat n2)))] ((.tup [(i64 n4), (tb b3)]), [.dead])) ∧
         (cond b3
          (R = ((.tup [(i64 2), (i64 n2), (i64 n3)]), [.dead]))
          (R = ((.tup [(i64 0), (i64 0), (i64 0)]), [.dead])))))
       (∃ n5 : Int, (Rn 277 [(st s)] ((i64 n5), [.dead])) ∧
        (cond (decide ((n5 : Int) = 0))
         (R = ((.tup [(i64 0), (i64 0), (i64 0)]), [.dead]))
         (R = ((.tup [(i64 3), (i64 n5), (i64 n5)]), [.dead])))))))))) : Rn 192 [(st s)] R := by
  refine fn_rule (ann := A192) (mv := MV) (fz := true) mixed Tryz.func192 (c := B192) (by kernel_rfl) (by decide) ?_
  all_goals revert h
  all_goals refine via ?_
  all_goals kernel_rfl
/- tumbrel/tumbrelref03.next -/
noncomputable def A191 : Ann := mkAnn [(17448, (fun a => [.ex (Int) fun n => .ex (Int) fun n1 => .done ((.tup [(i32 n), (i64 n1)]), [.dead])]))] [] [] []
noncomputable abbrev B191 : Code := Tryz.f191.body.getD .skip
set_option maxRecDepth 100000 in
theorem f191 (s : ByteArray) (R : T × List T) (h : ∃ n : Int, ∃ n1 : Int, (Rn 272 [(st s)] ((.tup [(i32 n), (i64 n1)]), [.dead])) ∧
  (cond (decide ((n : Int) = 65533))
   (cond (decide ((n1 : Int) ≤ 1))
    (R = ((.tup [(i32 (-1)), (i64 n1)]), [.dead]))
    (R = ((.tup [(i32 n), (i64 n1)]), [.dead])))
   (R = ((.tup [(i32 n), (i64 n1)]), [.dead])))) : Rn 191 [(st s)] R := by
  refine fn_rule (ann := A191) (mv := MV) (fz := true) mixed Tryz.func191 (c := B191) (by kernel_rfl) (by decide) ?_
  all_goals revert h
  all_goals refine via ?_
  all_goals kernel_rfl
/- slices.ContainsFunc[[]string,string] -/
noncomputable def A166 : Ann := mkAnn [(17512, (fun a => [.ex (Int) fun n => .done ((i64 n), [.dead, .dead])]))] [] [] []
noncomputable abbrev B166 : Code := Tryz.f166.body.getD .skip
set_option maxRecDepth 100000 in
theorem f166 (s : List T) (R : T × List T) (h : ∃ n : Int, (Rn 247 [(.sl 1 s), (.s (.func (.func 193) #[] #[]))] ((i64 n), [.dead, .dead])) ∧
  (R = ((tb (decide ((0 : Int) ≤ n))), [.dead, .dead]))) : Rn 166 [(.sl 1 s), (.s (.func (.func 193) #[] #[]))] R := by
  refine fn_rule (ann := A166) (mv := MV) (fz := true) mixed Tryz.func166 (c := B166) (by kernel_rfl) (by decide) ?_
  all_goals revert h
  all_goals refine via ?_
  all_goals kernel_rfl
/- slices.IndexFunc[[]tumbrel/chart.Var,tumbrel/chart.Var] -/
noncomputable def A196 : Ann := mkAnn [(66856, (fun a => [.ex (Bool) fun b => .done ((tb b), [.dead])]))] [(66728, [.ex W_chart_Var fun w => .done w.t])] [] [(52, [0, 1, 7, 8])]
noncomputable abbrev B196 : Code := Tryz.f196.body.getD .skip
def L196_0 (s : List T) (n : Int) (n1 : Int) (R : T × List T) : Prop := CutL Tryz.prog Tryz.f196 B196 true [1, 0, 1, 0, 0] (mkSt 19 [(0, (.sl 4 s)), (1, (.s (.func (.func 107) #[] #[]))), (7, (i64 n)), (8, (i64 n1))] []) [.dead, .dead] R
set_option maxRecDepth 100000 in
theorem l196_0 (s : List T) (n : Int) (n1 : Int) (R : T × List T) (h : cond (decide ((n1 : Int) < n))
  (∃ w : W_chart_Var, ((0 : Int) ≤ n1 ∧ s[(Int.toNat n1)]? = some w.t) ∧
   (∃ b : Bool, (Rn 107 [w.t] ((tb b), [.dead])) ∧
    (cond b
     (R = ((i64 n1), [.dead, .dead]))
     (L196_0 s n (IntKind.wrap .i64 (n1 + 1)) R))))
  (R = ((i64 (-1)), [.dead, .dead]))) : L196_0 s n n1 R := by
  unfold L196_0
  refine cutL_rule (ann := A196) (mv := MV) mixed (by kernel_rfl) ?_
  all_goals revert h
  all_goals refine via ?_
  all_goals kernel_rfl
set_option maxRecDepth 100000 in
theorem f196 (s : List T) (R : T × List T) (h : L196_0 s (((List.length s) : Nat) : Int) 0 R) : Rn 196 [(.sl 4 s), (.s (.func (.func 107) #[] #[]))] R := by
  refine fn_rule (ann := A196) (mv := MV) (fz := true) mixed Tryz.func196 (c := B196) (by kernel_rfl) (by decide) ?_
  all_goals revert h
  all_goals refine via ?_
  all_goals kernel_rfl
/- slices.IndexFunc[[]tumbrel/chart.State,tumbrel/chart.State] -/
noncomputable def A197 : Ann := mkAnn [(66856, (fun a => [.ex (Bool) fun b => .done ((tb b), [.dead])]))] [(66728, [.ex W_chart_State fun w => .done w.t])] [] [(52, [0, 1, 7, 8])]
noncomputable abbrev B197 : Code := Tryz.f197.body.getD .skip
def L197_0 (s : List T) (n : Int) (n1 : Int) (R : T × List T) : Prop := CutL Tryz.prog Tryz.f197 B197 true [1, 0, 1, 0, 0] (mkSt 19 [(0, (.sl 11 s)), (1, (.s (.func (.func 109) #[] #[]))), (7, (i64 n)), (8, (i64 n1))] []) [.dead, .dead] R
set_option maxRecDepth 100000 in
theorem l197_0 (s : List T) (n : Int) (n1 : Int) (R : T × List T) (h : cond (decide ((n1 : Int) < n))
  (∃ w : W_chart_State, ((0 : Int) ≤ n1 ∧ s[(Int.toNat n1)]? = some w.t) ∧
   (∃ b : Bool, (Rn 109 [w.t] ((tb b), [.dead])) ∧
    (cond b
     (R = ((i64 n1), [.dead, .dead]))
     (L197_0 s n (IntKind.wrap .i64 (n1 + 1)) R))))
  (R = ((i64 (-1)), [.dead, .dead]))) : L197_0 s n n1 R := by
  unfold L197_0
  refine cutL_rule (ann := A197) (mv := MV) mixed (by kernel_rfl) ?_
  all_goals revert h
  all_goals refine via ?_
  all_goals kernel_rfl
set_option maxRecDepth 100000 in
theorem f197 (s : List T) (R : T × List T) (h : L197_0 s (((List.length s) : Nat) : Int) 0 R) : Rn 197 [(.sl 11 s), (.s (.func (.func 109) #[] #[]))] R := by
  refine fn_rule (ann := A197) (mv := MV) (fz := true) mixed Tryz.func197 (c := B197) (by kernel_rfl) (by decide) ?_
  all_goals revert h
  all_goals refine via ?_
  all_goals kernel_rfl
/- tumbrel/tumbrelref03.Name -/
noncomputable def A202 : Ann := mkAnn [(17448, (fun a => [.ex (Int) fun n => .ex (Int) fun n1 => .done ((.tup [(i32 n), (i64 n1)]), [.dead])])), (33832, (fun a => [.ex (Int) fun n => .ex (Int) fun n1 => .done ((.tup [(i64 n), (i64 n1)]), [.dead])])), (50216, (fun a => [.ex (Bool) fun b => .done ((tb b), [.dead])]))] [] [] []
noncomputable abbrev B202 : Code := Tryz.f202.body.getD .skip
set_option maxRecDepth 100000 in
theorem f202 (s : ByteArray) (R : T × List T) (h : ∃ n : Int, ∃ n1 : Int, (Rn 191 [(st s)] ((.tup [(i32 n), (i64 n1)]), [.dead])) ∧
  (∃ n2 : Int, ∃ n3 : Int, (Rn 273 [(st s)] ((.tup [(i64 n2), (i64 n3)]), [.dead])) ∧
   (∃ b : Bool, (Rn 274 [(i32 n)] ((tb b), [.dead])) ∧
    (cond b
     (cond (decide ((n2 : Int) = (((ByteArray.size s) : Nat) : Int)))
      (R = ((tb (decide ((n3 : Int) ≤ 24))), [.dead]))
      (R = ((tb false), [.dead])))
     (R = ((tb false), [.dead])))))) : Rn 202 [(st s)] R := by
  refine fn_rule (ann := A202) (mv := MV) (fz := true) mixed Tryz.func202 (c := B202) (by kernel_rfl) (by decide) ?_
  all_goals revert h
  all_goals refine via ?_
  all_goals kernel_rfl
end Go.Proofs.YtfknpnkdedckhaaGreatDoorT
