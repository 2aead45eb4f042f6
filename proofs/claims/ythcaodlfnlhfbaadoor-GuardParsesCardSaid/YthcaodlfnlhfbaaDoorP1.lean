/- What is to be shown of functions of the program, by their texts (printed by a program of this work; the kernel holds each against the text). -/
import Derived.Test.YthcaodlfnlhfbaaDoorP0
namespace Go.Proofs.YthcaodlfnlhfbaaDoorT
open Go Go.Proofs
set_option linter.unusedVariables false
/- tumbrel/tumbrellaw03.GlyphAgain -/
noncomputable def A3 : Ann := mkAnn [(17384, (fun a => [.ex (Bool) fun b => .done ((tb b), [])])), (50216, (fun a => [.ex (List T) fun l => .ex (W_api_Pos) fun w => .ex (Int) fun n => .done ((.tup [(.sl 4 l), w.t, (i64 n)]), [.dead])])), (197672, (fun a => [.ex (List T) fun l => .ex (W_api_Pos) fun w => .ex (Int) fun n => .done ((.tup [(.sl 4 l), w.t, (i64 n)]), [.dead])]))] [(165032, [.ex W_glyph_Word fun w => .done w.t]), (328808, [.ex W_glyph_Word fun w => .done w.t]), (329128, [.ex W_glyph_Word fun w => .done w.t]), (329576, [.ex W_glyph_Word fun w => .done w.t]), (329896, [.ex W_glyph_Word fun w => .done w.t])] [] [(1012, [3, 6, 26, 27]), (16372, [3, 8, 60, 61])]
noncomputable abbrev B3 : Code := Tryd.f3.body.getD .skip
def L3_0 (l : List T) (s : ByteArray) (n : Int) (n1 : Int) (R : T × List T) : Prop := CutL Tryd.prog Tryd.f3 B3 true [1, 1, 1, 1, 1, 0, 1, 0, 0] (mkSt 89 [(3, (.sl 4 l)), (6, (st s)), (26, (i64 n)), (27, (i64 n1))] []) [.dead] R
def L3_1 (l : List T) (l1 : List T) (n : Int) (n1 : Int) (R : T × List T) : Prop := CutL Tryd.prog Tryd.f3 B3 true [1, 1, 1, 1, 1, 1, 1, 1, 1, 0, 1, 0, 0] (mkSt 89 [(3, (.sl 4 l)), (8, (.sl 4 l1)), (60, (i64 n)), (61, (i64 n1))] []) [.dead] R
set_option maxRecDepth 100000 in
theorem l3_0 (l : List T) (s : ByteArray) (n : Int) (n1 : Int) (R : T × List T) (h : cond (decide ((n1 : Int) < n))
  (∃ w : W_glyph_Word, ((0 : Int) ≤ n1 ∧ l[(Int.toNat n1)]? = some w.t) ∧
   ((((ByteArray.size s + ByteArray.size w.fText : Nat) : Int) ≤ 9223372036854775807) ∧
    ((((ByteArray.size (s ++ w.fText) + ByteArray.size (bs [32]) : Nat) : Int) ≤ 9223372036854775807) ∧
     (L3_0 l (((s ++ w.fText) ++ (bs [32]))) n (IntKind.wrap .i64 (n1 + 1)) R))))
  (∃ l1 : List T, ∃ w1 : W_api_Pos, ∃ n2 : Int, (Rn 12 [(st s)] ((.tup [(.sl 4 l1), w1.t, (i64 n2)]), [.dead])) ∧
   (cond (decide ((12000 : Int) < (((ByteArray.size s) : Nat) : Int)))
    (R = ((tb (decide ((n2 : Int) = 4))), [.dead]))
    (cond (!(decide ((n2 : Int) = 0)))
     (R = ((tb false), [.dead]))
     (cond (!(decide (((((List.length l1) : Nat) : Int) : Int) = (((List.length l) : Nat) : Int))))
      (R = ((tb false), [.dead]))
      (L3_1 l l1 (((List.length l1) : Nat) : Int) 0 R)))))) : L3_0 l s n n1 R := by
  unfold L3_0
  refine cutL_rule (ann := A3) (mv := MV) mixed (by kernel_rfl) ?_
  all_goals revert h
  all_goals refine via ?_
  all_goals kernel_rfl
set_option maxRecDepth 100000 in
theorem l3_1 (l : List T) (l1 : List T) (n : Int) (n1 : Int) (R : T × List T) (h : cond (decide ((n1 : Int) < n))
  (∃ w : W_glyph_Word, ((0 : Int) ≤ n1 ∧ l1[(Int.toNat n1)]? = some w.t) ∧
   (∃ w1 : W_glyph_Word, ((0 : Int) ≤ n1 ∧ l[(Int.toNat n1)]? = some w1.t) ∧
    (cond (!(decide ((w.fKind : Int) = w1.fKind)))
     (R = ((tb false), [.dead]))
     (∃ w2 : W_glyph_Word, ((0 : Int) ≤ n1 ∧ l1[(Int.toNat n1)]? = some w2.t) ∧
      (∃ w3 : W_glyph_Word, ((0 : Int) ≤ n1 ∧ l[(Int.toNat n1)]? = some w3.t) ∧
       (cond (!(decide (w2.fText = w3.fText)))
        (R = ((tb false), [.dead]))
        (L3_1 l l1 n (IntKind.wrap .i64 (n1 + 1)) R)))))))
  (R = ((tb true), [.dead]))) : L3_1 l l1 n n1 R := by
  unfold L3_1
  refine cutL_rule (ann := A3) (mv := MV) mixed (by kernel_rfl) ?_
  all_goals revert h
  all_goals refine via ?_
  all_goals kernel_rfl
set_option maxRecDepth 100000 in
theorem f3 (s : ByteArray) (R : T × List T) (h : ∃ b : Bool, (Rn 11 [] ((tb b), [])) ∧
  (cond (!b)
   (R = ((tb false), [.dead]))
   (∃ l : List T, ∃ w : W_api_Pos, ∃ n : Int, (Rn 12 [(st s)] ((.tup [(.sl 4 l), w.t, (i64 n)]), [.dead])) ∧
    (cond (!(decide ((n : Int) = 0)))
     (R = ((tb (decide (((((List.length l) : Nat) : Int) : Int) = 0))), [.dead]))
     (L3_0 l (bs []) (((List.length l) : Nat) : Int) 0 R))))) : Rn 3 [(st s)] R := by
  refine fn_rule (ann := A3) (mv := MV) (fz := true) mixed Tryd.func3 (c := B3) (by kernel_rfl) (by decide) ?_
  all_goals revert h
  all_goals refine via ?_
  all_goals kernel_rfl
/- tumbrel/tumbrellaw03.GlyphRemarks -/
noncomputable def A4 : Ann := mkAnn [(17384, (fun a => [.ex (Bool) fun b => .done ((tb b), [])])), (33768, (fun a => [.ex (Bool) fun b => .done ((tb b), [])])), (132328, (fun a => [.ex (List T) fun l => .ex (W_api_Pos) fun w => .ex (Int) fun n => .done ((.tup [(.sl 4 l), w.t, (i64 n)]), [.dead])])), (148904, (fun a => [.ex (List T) fun l => .ex (W_api_Pos) fun w => .ex (Int) fun n => .done ((.tup [(.sl 4 l), w.t, (i64 n)]), [.dead])]))] [(246888, [.ex W_glyph_Word fun w => .done w.t]), (247208, [.ex W_glyph_Word fun w => .done w.t]), (247656, [.ex W_glyph_Word fun w => .done w.t]), (247976, [.ex W_glyph_Word fun w => .done w.t])] [] [(116, [0, 1, 2, 7]), (2036, [8, 11, 75, 76])]
noncomputable abbrev B4 : Code := Tryd.f4.body.getD .skip
def L4_0 (s : ByteArray) (remark : ByteArray) (behind : ByteArray) (i : Int) (R : T × List T) : Prop := CutL Tryd.prog Tryd.f4 B4 true [1, 1, 0, 1, 0, 0] (mkSt 104 [(0, (st s)), (1, (st remark)), (2, (st behind)), (7, (i64 i))] []) [.dead, .dead, .dead] R
def L4_1 (l : List T) (l1 : List T) (n : Int) (n1 : Int) (R : T × List T) : Prop := CutL Tryd.prog Tryd.f4 B4 true [1, 1, 1, 1, 1, 1, 0, 1, 0, 0] (mkSt 104 [(8, (.sl 4 l)), (11, (.sl 4 l1)), (75, (i64 n)), (76, (i64 n1))] []) [.dead, .dead, .dead] R
set_option maxRecDepth 100000 in
theorem l4_0 (s : ByteArray) (remark : ByteArray) (behind : ByteArray) (i : Int) (R : T × List T) (h : cond (decide ((i : Int) < (((ByteArray.size remark) : Nat) : Int)))
  (((0 : Int) ≤ i ∧ i < (((ByteArray.size remark) : Nat) : Int)) ∧
   (cond (decide (((byteAt remark (Int.toNat i)) : Int) = 10))
    (R = ((tb true), [.dead, .dead, .dead]))
    (L4_0 s remark behind (IntKind.wrap .i64 (i + 1)) R)))
  ((((ByteArray.size s + ByteArray.size (bs [10]) : Nat) : Int) ≤ 9223372036854775807) ∧
   ((((ByteArray.size (s ++ (bs [10])) + ByteArray.size behind : Nat) : Int) ≤ 9223372036854775807) ∧
    (∃ l : List T, ∃ w : W_api_Pos, ∃ n : Int, (Rn 12 [(st ((s ++ (bs [10])) ++ behind))] ((.tup [(.sl 4 l), w.t, (i64 n)]), [.dead])) ∧
     ((((ByteArray.size s + ByteArray.size (bs [10, 35]) : Nat) : Int) ≤ 9223372036854775807) ∧
      ((((ByteArray.size (s ++ (bs [10, 35])) + ByteArray.size remark : Nat) : Int) ≤ 9223372036854775807) ∧
       ((((ByteArray.size ((s ++ (bs [10, 35])) ++ remark) + ByteArray.size (bs [10]) : Nat) : Int) ≤ 9223372036854775807) ∧
        ((((ByteArray.size (((s ++ (bs [10, 35])) ++ remark) ++ (bs [10])) + ByteArray.size behind : Nat) : Int) ≤ 9223372036854775807) ∧
         (∃ l1 : List T, ∃ w1 : W_api_Pos, ∃ n1 : Int, (Rn 12 [(st ((((s ++ (bs [10, 35])) ++ remark) ++ (bs [10])) ++ behind))] ((.tup [(.sl 4 l1), w1.t, (i64 n1)]), [.dead])) ∧
          (cond (!(decide ((n : Int) = n1)))
           (R = ((tb false), [.dead, .dead, .dead]))
           (cond (!(decide (((((List.length l1) : Nat) : Int) : Int) = (((List.length l) : Nat) : Int))))
            (R = ((tb false), [.dead, .dead, .dead]))
            (L4_1 l l1 (((List.length l) : Nat) : Int) 0 R)))))))))))) : L4_0 s remark behind i R := by
  unfold L4_0
  refine cutL_rule (ann := A4) (mv := MV) mixed (by kernel_rfl) ?_
  all_goals revert h
  all_goals refine via ?_
  all_goals kernel_rfl
set_option maxRecDepth 100000 in
theorem l4_1 (l : List T) (l1 : List T) (n : Int) (n1 : Int) (R : T × List T) (h : cond (decide ((n1 : Int) < n))
  (∃ w : W_glyph_Word, ((0 : Int) ≤ n1 ∧ l1[(Int.toNat n1)]? = some w.t) ∧
   (∃ w1 : W_glyph_Word, ((0 : Int) ≤ n1 ∧ l[(Int.toNat n1)]? = some w1.t) ∧
    (cond (!(decide ((w.fKind : Int) = w1.fKind)))
     (R = ((tb false), [.dead, .dead, .dead]))
     (∃ w2 : W_glyph_Word, ((0 : Int) ≤ n1 ∧ l1[(Int.toNat n1)]? = some w2.t) ∧
      (∃ w3 : W_glyph_Word, ((0 : Int) ≤ n1 ∧ l[(Int.toNat n1)]? = some w3.t) ∧
       (cond (!(decide (w2.fText = w3.fText)))
        (R = ((tb false), [.dead, .dead, .dead]))
        (L4_1 l l1 n (IntKind.wrap .i64 (n1 + 1)) R)))))))
  (R = ((tb true), [.dead, .dead, .dead]))) : L4_1 l l1 n n1 R := by
  unfold L4_1
  refine cutL_rule (ann := A4) (mv := MV) mixed (by kernel_rfl) ?_
  all_goals revert h
  all_goals refine via ?_
  all_goals kernel_rfl
set_option maxRecDepth 100000 in
theorem f4 (s : ByteArray) (remark : ByteArray) (behind : ByteArray) (R : T × List T) (h : ∃ b : Bool, (Rn 11 [] ((tb b), [])) ∧
  (cond (!b)
   (∃ b1 : Bool, (Rn 11 [] ((tb b1), [])) ∧
    (R = ((tb b1), [.dead, .dead, .dead])))
   (cond (decide ((3000 : Int) < (((ByteArray.size s) : Nat) : Int)))
    (∃ b2 : Bool, (Rn 11 [] ((tb b2), [])) ∧
     (R = ((tb b2), [.dead, .dead, .dead])))
    (cond (decide ((3000 : Int) < (((ByteArray.size behind) : Nat) : Int)))
     (∃ b3 : Bool, (Rn 11 [] ((tb b3), [])) ∧
      (R = ((tb b3), [.dead, .dead, .dead])))
     (cond (decide ((3000 : Int) < (((ByteArray.size remark) : Nat) : Int)))
      (∃ b4 : Bool, (Rn 11 [] ((tb b4), [])) ∧
       (R = ((tb b4), [.dead, .dead, .dead])))
      (L4_0 s remark behind 0 R)))))) : Rn 4 [(st s), (st remark), (st behind)] R := by
  refine fn_rule (ann := A4) (mv := MV) (fz := true) mixed Tryd.func4 (c := B4) (by kernel_rfl) (by decide) ?_
  all_goals revert h
  all_goals refine via ?_
  all_goals kernel_rfl
/- tumbrel/tumbrellaw03.GlyphNames -/
noncomputable def A5 : Ann := mkAnn [(17384, (fun a => [.ex (Bool) fun b => .done ((tb b), [])])), (17576, (fun a => [.ex (Bool) fun b => .done ((tb b), [.dead])])), (17704, (fun a => [.ex (Bool) fun b => .done ((tb b), [.dead])])), (18024, (fun a => [.ex (Bool) fun b => .done ((tb b), [.dead])])), (18152, (fun a => [.ex (Bool) fun b => .done ((tb b), [.dead])]))] [] [] []
noncomputable abbrev B5 : Code := Tryd.f5.body.getD .skip
set_option maxRecDepth 100000 in
theorem f5 (s : ByteArray) (n : Int) (R : T × List T) (h : ∃ b : Bool, (Rn 11 [] ((tb b), [])) ∧
  (cond b
   (∃ b1 : Bool, (Rn 13 [(st s)] ((tb b1), [.dead])) ∧
    (∃ b2 : Bool, (Rn 14 [(st s)] ((tb b2), [.dead])) ∧
     (cond (b1 == b2)
      (∃ b3 : Bool, (Rn 15 [(i32 n)] ((tb b3), [.dead])) ∧
       (∃ b4 : Bool, (Rn 16 [(i32 n)] ((tb b4), [.dead])) ∧
        (R = ((tb (b3 == b4)), [.dead, .dead]))))
      (R = ((tb false), [.dead, .dead])))))
   (R = ((tb false), [.dead, .dead])))) : Rn 5 [(st s), (i32 n)] R := by
  refine fn_rule (ann := A5) (mv := MV) (fz := true) mixed Tryd.func5 (c := B5) (by kernel_rfl) (by decide) ?_
  all_goals revert h
  all_goals refine via ?_
  all_goals kernel_rfl
/- tumbrel/tumbrellaw03.GlyphWords -/
noncomputable def A7 : Ann := mkAnn [(17384, (fun a => [.ex (Bool) fun b => .done ((tb b), [])])), (50216, (fun a => [.ex (List T) fun l => .ex (W_api_Pos) fun w => .ex (Int) fun n => .done ((.tup [(.sl 4 l), w.t, (i64 n)]), [.dead])])), (66600, (fun a => [.ex (List T) fun l => .ex (W_api_Pos) fun w => .ex (Int) fun n => .done ((.tup [(.sl 4 l), w.t, (i64 n)]), [.dead])])), (83048, (fun a => [.ex (Bool) fun b => .done ((tb b), [.dead, .dead])])), (83880, (fun a => [.ex (W_api_Pos) fun w => .done (w.t, [.dead])])), (84008, (fun a => [.ex (W_api_Pos) fun w => .done (w.t, [.dead])]))] [] [] []
noncomputable abbrev B7 : Code := Tryd.f7.body.getD .skip
set_option maxRecDepth 100000 in
theorem f7 (s : ByteArray) (R : T × List T) (h : ∃ b : Bool, (Rn 11 [] ((tb b), [])) ∧
  (cond (!b)
   (R = ((tb false), [.dead]))
   (∃ l : List T, ∃ w : W_api_Pos, ∃ n : Int, (Rn 12 [(st s)] ((.tup [(.sl 4 l), w.t, (i64 n)]), [.dead])) ∧
    (∃ l1 : List T, ∃ w1 : W_api_Pos, ∃ n1 : Int, (Rn 25 [(st s)] ((.tup [(.sl 4 l1), w1.t, (i64 n1)]), [.dead])) ∧
     (∃ b1 : Bool, (Rn 26 [(.sl 4 l), (.sl 4 l1)] ((tb b1), [.dead, .dead])) ∧
      (cond b1
       (cond (decide ((n : Int) = n1))
        (cond (((w.fLine : Int) == w1.fLine) && (((w.fCol : Int) == w1.fCol) && true))
         (∃ w2 : W_api_Pos, (Rn 27 [(st s)] (w2.t, [.dead])) ∧
          (∃ w3 : W_api_Pos, (Rn 28 [(st s)] (w3.t, [.dead])) ∧
           (R = ((tb (((w2.fLine : Int) == w3.fLine) && (((w2.fCol : Int) == w3.fCol) && true))), [.dead]))))
         (R = ((tb false), [.dead])))
        (R = ((tb false), [.dead])))
       (R = ((tb false), [.dead])))))))) : Rn 7 [(st s)] R := by
  refine fn_rule (ann := A7) (mv := MV) (fz := true) mixed Tryd.func7 (c := B7) (by kernel_rfl) (by decide) ?_
  all_goals revert h
  all_goals refine via ?_
  all_goals kernel_rfl
/- tumbrel/tumbrellaw03.GlyphLines -/
noncomputable def A8 : Ann := mkAnn [(17384, (fun a => [.ex (Bool) fun b => .done ((tb b), [])])), (33768, (fun a => [.ex (Bool) fun b => .done ((tb b), [])])), (50216, (fun a => [.ex (List T) fun l => .ex (W_api_Pos) fun w => .ex (Int) fun n => .done ((.tup [(.sl 4 l), w.t, (i64 n)]), [.dead])])), (66664, (fun a => [.ex (List T) fun l => .ex (W_api_Pos) fun w => .ex (Int) fun n => .done ((.tup [(.sl 4 l), w.t, (i64 n)]), [.dead])])), (214056, (fun a => [.ex (W_api_Pos) fun w => .done (w.t, [.dead])])), (214248, (fun a => [.ex (W_api_Pos) fun w => .done (w.t, [.dead])]))] [(164968, [.ex W_glyph_Word fun w => .done w.t]), (165288, [.ex W_glyph_Word fun w => .done w.t]), (165736, [.ex W_glyph_Word fun w => .done w.t]), (166056, [.ex W_glyph_Word fun w => .done w.t]), (166568, [.ex W_glyph_Word fun w => .done w.t]), (166952, [.ex W_glyph_Word fun w => .done w.t]), (167592, [.ex W_glyph_Word fun w => .done w.t]), (167976, [.ex W_glyph_Word fun w => .done w.t])] [] [(1012, [0, 3, 6, 63, 64])]
noncomputable abbrev B8 : Code := Tryd.f8.body.getD .skip
def L8_0 (s : ByteArray) (l : List T) (l1 : List T) (n : Int) (n1 : Int) (R : T × List T) : Prop := CutL Tryd.prog Tryd.f8 B8 true [1, 1, 1, 1, 1, 0, 1, 0, 0] (mkSt 141 [(0, (st s)), (3, (.sl 4 l)), (6, (.sl 4 l1)), (63, (i64 n)), (64, (i64 n1))] []) [.dead] R
set_option maxRecDepth 100000 in
theorem l8_0 (s : ByteArray) (l : List T) (l1 : List T) (n : Int) (n1 : Int) (R : T × List T) (h : cond (decide ((n1 : Int) < n))
  (∃ w : W_glyph_Word, ((0 : Int) ≤ n1 ∧ l1[(Int.toNat n1)]? = some w.t) ∧
   (∃ w1 : W_glyph_Word, ((0 : Int) ≤ n1 ∧ l[(Int.toNat n1)]? = some w1.t) ∧
    (cond (!(decide ((w.fKind : Int) = w1.fKind)))
     (R = ((tb false), [.dead]))
     (∃ w2 : W_glyph_Word, ((0 : Int) ≤ n1 ∧ l1[(Int.toNat n1)]? = some w2.t) ∧
      (∃ w3 : W_glyph_Word, ((0 : Int) ≤ n1 ∧ l[(Int.toNat n1)]? = some w3.t) ∧
       (cond (!(decide (w2.fText = w3.fText)))
        (R = ((tb false), [.dead]))
        (∃ w4 : W_glyph_Word, ((0 : Int) ≤ n1 ∧ l1[(Int.toNat n1)]? = some w4.t) ∧
         (∃ w5 : W_glyph_Word, ((0 : Int) ≤ n1 ∧ l[(Int.toNat n1)]? = some w5.t) ∧
          (cond (!(decide ((w4.fAt_Line : Int) = (IntKind.wrap .i64 (w5.fAt_Line + 1)))))
           (R = ((tb false), [.dead]))
           (∃ w6 : W_glyph_Word, ((0 : Int) ≤ n1 ∧ l1[(Int.toNat n1)]? = some w6.t) ∧
            (∃ w7 : W_glyph_Word, ((0 : Int) ≤ n1 ∧ l[(Int.toNat n1)]? = some w7.t) ∧
             (cond (!(decide ((w6.fAt_Col : Int) = w7.fAt_Col)))
              (R = ((tb false), [.dead]))
              (L8_0 s l l1 n (IntKind.wrap .i64 (n1 + 1)) R)))))))))))))
  (∃ w8 : W_api_Pos, (Rn 27 [(st s)] (w8.t, [.dead])) ∧
   ((((ByteArray.size (bs [10]) + ByteArray.size s : Nat) : Int) ≤ 9223372036854775807) ∧
    (∃ w9 : W_api_Pos, (Rn 27 [(st ((bs [10]) ++ s))] (w9.t, [.dead])) ∧
     (cond (decide ((w9.fLine : Int) = (IntKind.wrap .i64 (w8.fLine + 1))))
      (R = ((tb (decide ((w9.fCol : Int) = w8.fCol))), [.dead]))
      (R = ((tb false), [.dead]))))))) : L8_0 s l l1 n n1 R := by
  unfold L8_0
  refine cutL_rule (ann := A8) (mv := MV) mixed (by kernel_rfl) ?_
  all_goals revert h
  all_goals refine via ?_
  all_goals kernel_rfl
set_option maxRecDepth 100000 in
theorem f8 (s : ByteArray) (R : T × List T) (h : ∃ b : Bool, (Rn 11 [] ((tb b), [])) ∧
  (cond (!b)
   (∃ b1 : Bool, (Rn 11 [] ((tb b1), [])) ∧
    (R = ((tb b1), [.dead])))
   (cond (decide ((8000 : Int) < (((ByteArray.size s) : Nat) : Int)))
    (∃ b2 : Bool, (Rn 11 [] ((tb b2), [])) ∧
     (R = ((tb b2), [.dead])))
    (∃ l : List T, ∃ w : W_api_Pos, ∃ n : Int, (Rn 12 [(st s)] ((.tup [(.sl 4 l), w.t, (i64 n)]), [.dead])) ∧
     ((((ByteArray.size (bs [10]) + ByteArray.size s : Nat) : Int) ≤ 9223372036854775807) ∧
      (∃ l1 : List T, ∃ w1 : W_api_Pos, ∃ n1 : Int, (Rn 12 [(st ((bs [10]) ++ s))] ((.tup [(.sl 4 l1), w1.t, (i64 n1)]), [.dead])) ∧
       (cond (!(decide ((n : Int) = n1)))
        (R = ((tb false), [.dead]))
        (cond (!(decide (((((List.length l) : Nat) : Int) : Int) = (((List.length l1) : Nat) : Int))))
         (R = ((tb false), [.dead]))
         (cond (!(decide ((n : Int) = 0)))
          (cond (!(decide ((w1.fLine : Int) = (IntKind.wrap .i64 (w.fLine + 1)))))
           (R = ((tb false), [.dead]))
           (cond (!(decide ((w1.fCol : Int) = w.fCol)))
            (R = ((tb false), [.dead]))
            (L8_0 s l l1 (((List.length l) : Nat) : Int) 0 R)))
          (L8_0 s l l1 (((List.length l) : Nat) : Int) 0 R)))))))))) : Rn 8 [(st s)] R := by
  refine fn_rule (ann := A8) (mv := MV) (fz := true) mixed Tryd.func8 (c := B8) (by kernel_rfl) (by decide) ?_
  all_goals revert h
  all_goals refine via ?_
  all_goals kernel_rfl
/- tumbrel/tumbrellaw05.GuardParses -/
noncomputable def A9 : Ann := mkAnn [(17384, (fun a => [.ex (Bool) fun b => .done ((tb b), [])])), (50216, (fun a => [.ex (IfV) fun e => .ex (Int) fun n => .done ((.tup [e.v, (i64 n)]), [.dead])])), (66600, (fun a => [.ex (W_tumbrelref04_Node) fun w => .ex (Int) fun n => .done ((.tup [w.t, (i64 n)]), [.dead])])), (82984, (fun a => [.ex (W_tumbrelref04_Node) fun w => .done (w.t, [.dead])])), (83112, (fun a => [.ex (Bool) fun b => .done ((tb b), [.dead, .dead])]))] [] [] []
noncomputable abbrev B9 : Code := Tryd.f9.body.getD .skip
set_option maxRecDepth 100000 in
theorem f9 (s : ByteArray) (R : T × List T) (h : ∃ b : Bool, (Rn 29 [] ((tb b), [])) ∧
  (cond (!b)
   (R = ((tb false), [.dead]))
   (∃ e : IfV, ∃ n : Int, (Rn 30 [(st s)] ((.tup [e.v, (i64 n)]), [.dead])) ∧
    (∃ w : W_tumbrelref04_Node, ∃ n1 : Int, (Rn 31 [(st s)] ((.tup [w.t, (i64 n1)]), [.dead])) ∧
     (∃ w1 : W_tumbrelref04_Node, (Rn 33 [e.v] (w1.t, [.dead])) ∧
      (∃ b1 : Bool, (Rn 32 [w1.t, w.t] ((tb b1), [.dead, .dead])) ∧
       (cond b1
        (R = ((tb (decide ((n : Int) = n1))), [.dead]))
        (R = ((tb false), [.dead]))))))))) : Rn 9 [(st s)] R := by
  refine fn_rule (ann := A9) (mv := MV) (fz := true) mixed Tryd.func9 (c := B9) (by kernel_rfl) (by decide) ?_
  all_goals revert h
  all_goals refine via ?_
  all_goals kernel_rfl
/- tumbrel/tumbrellaw05.GuardTakes -/
noncomputable def A10 : Ann := mkAnn [(17384, (fun a => [.ex (Bool) fun b => .done ((tb b), [])])), (17640, (fun a => [.ex (Bool) fun b => .done ((tb b), [.dead])])), (33768, (fun a => [.ex (Bool) fun b => .done ((tb b), [])])), (50216, (fun a => [.ex (List T) fun l => .ex (W_api_Pos) fun w => .ex (Int) fun n => .done ((.tup [(.sl 4 l), w.t, (i64 n)]), [.dead])])), (197672, (fun a => [.ex (IfV) fun e => .ex (Int) fun n => .ex (Int) fun n1 => .done ((.tup [e.v, (i64 n), (i64 n1)]), [.dead])])), (214056, (fun a => [.ex (W_tumbrelref04_Node) fun w => .ex (Int) fun n => .ex (Int) fun n1 => .done ((.tup [w.t, (i64 n), (i64 n1)]), [.dead])])), (230440, (fun a => [.ex (W_tumbrelref04_Node) fun w => .done (w.t, [.dead])])), (230568, (fun a => [.ex (Bool) fun b => .done ((tb b), [.dead, .dead])]))] [(165032, [.ex W_tumbrelref03_Word fun w => .done w.t])] [] [(1012, [3, 6, 31, 32])]
noncomputable abbrev B10 : Code := Tryd.f10.body.getD .skip
def L10_0 (l : List T) (l1 : List T) (n : Int) (n1 : Int) (R : T × List T) : Prop := CutL Tryd.prog Tryd.f10 B10 true [1, 1, 1, 1, 1, 0, 1, 0, 0] (mkSt 69 [(3, (.sl 4 l)), (6, (mnT (1000000007, 0) l1)), (31, (i64 n)), (32, (i64 n1))] (mnH (1000000007, 0) 30 4 l1)) [.dead] R
set_option maxRecDepth 100000 in
theorem l10_0 (l : List T) (l1 : List T) (n : Int) (n1 : Int) (R : T × List T) (h : cond (decide ((n1 : Int) < n))
  (∃ w : W_tumbrelref03_Word, ((0 : Int) ≤ n1 ∧ l[(Int.toNat n1)]? = some w.t) ∧
   (chk (Nat.ble (((List.length l1) + 1) * 40) 140737488355328)
    (L10_0 l (l1 ++ [w.t]) n (IntKind.wrap .i64 (n1 + 1)) R)))
  (∃ e : IfV, ∃ n2 : Int, ∃ n3 : Int, (Rn 35 [(.sl 4 l1)] ((.tup [e.v, (i64 n2), (i64 n3)]), [.dead])) ∧
   (∃ w1 : W_tumbrelref04_Node, ∃ n4 : Int, ∃ n5 : Int, (Rn 36 [(.sl 4 l)] ((.tup [w1.t, (i64 n4), (i64 n5)]), [.dead])) ∧
    (∃ w2 : W_tumbrelref04_Node, (Rn 33 [e.v] (w2.t, [.dead])) ∧
     (∃ b : Bool, (Rn 32 [w2.t, w1.t] ((tb b), [.dead, .dead])) ∧
      (cond b
       (cond (decide ((n2 : Int) = n4))
        (R = ((tb (decide ((n3 : Int) = n5))), [.dead]))
        (R = ((tb false), [.dead])))
       (R = ((tb false), [.dead])))))))) : L10_0 l l1 n n1 R := by
  unfold L10_0
  refine cutL_rule (ann := A10) (mv := MV) mixed (by kernel_rfl) ?_
  all_goals rcases l1 with _ | ⟨_, _⟩
  all_goals revert h
  all_goals refine via ?_
  all_goals kernel_rfl
set_option maxRecDepth 100000 in
theorem f10 (s : ByteArray) (R : T × List T) (h : ∃ b : Bool, (Rn 29 [] ((tb b), [])) ∧
  (cond (!b)
   (∃ b1 : Bool, (Rn 29 [] ((tb b1), [])) ∧
    (R = ((tb b1), [.dead])))
   (∃ b2 : Bool, (Rn 34 [(st s)] ((tb b2), [.dead])) ∧
    (cond (!b2)
     (∃ b3 : Bool, (Rn 29 [] ((tb b3), [])) ∧
      (R = ((tb b3), [.dead])))
     (∃ l : List T, ∃ w : W_api_Pos, ∃ n : Int, (Rn 25 [(st s)] ((.tup [(.sl 4 l), w.t, (i64 n)]), [.dead])) ∧
      (cond (!(decide ((n : Int) = 0)))
       (R = ((tb true), [.dead]))
       (L10_0 l ([] : List T) (((List.length l) : Nat) : Int) 0 R))))))) : Rn 10 [(st s)] R := by
  refine fn_rule (ann := A10) (mv := MV) (fz := true) mixed Tryd.func10 (c := B10) (by kernel_rfl) (by decide) ?_
  all_goals revert h
  all_goals refine via ?_
  all_goals kernel_rfl
/- tumbrel/tumbrellaw03.awake -/
noncomputable def A11 : Ann := mkAnn [(17384, (fun a => [.ex (List T) fun l => .ex (W_api_Pos) fun w => .ex (Int) fun n => .done ((.tup [(.sl 4 l), w.t, (i64 n)]), [.dead])])), (34728, (fun a => [.ex (Bool) fun b => .done ((tb b), [.dead])]))] [(34344, [.ex W_glyph_Word fun w => .done w.t])] [] []
noncomputable abbrev B11 : Code := Tryd.f11.body.getD .skip
set_option maxRecDepth 100000 in
theorem f11 (R : T × List T) (h : ∃ l : List T, ∃ w : W_api_Pos, ∃ n : Int, (Rn 12 [(st (bs [97, 60, 61, 49, 35, 120]))] ((.tup [(.sl 4 l), w.t, (i64 n)]), [.dead])) ∧
  (cond (decide ((n : Int) = 0))
   (cond (decide (((((List.length l) : Nat) : Int) : Int) = 3))
    (∃ w1 : W_glyph_Word, ((0 : Int) ≤ 1 ∧ l[1]? = some w1.t) ∧
     (cond (decide (w1.fText = (bs [60, 61])))
      (∃ b : Bool, (Rn 13 [(st (bs [209, 143, 49]))] ((tb b), [.dead])) ∧
       (R = ((tb b), [])))
      (R = ((tb false), []))))
    (R = ((tb false), [])))
   (R = ((tb false), [])))) : Rn 11 [] R := by
  refine fn_rule (ann := A11) (mv := MV) (fz := true) mixed Tryd.func11 (c := B11) (by kernel_rfl) (by decide) ?_
  all_goals revert h
  all_goals refine via ?_
  all_goals kernel_rfl
/- tumbrel/glyph.Words -/
noncomputable def A12 : Ann := mkAnn [(165032, (fun a => [.ex (Int) fun n => .ex (ByteArray) fun s => .ex (Int) fun n1 => .ex (Bool) fun b => .ex (Int) fun n2 => .ex (Int) fun n3 => .done ((i64 n), [(.cbox 73 [(st s), nilS, (i64 n1), (tb b), (i64 n2), (i64 n3)]), .dead, .dead]), .ex (Int) fun n => .ex (ByteArray) fun s => .ex (T) fun y => .ex (List T) fun l => .ex (Int) fun n1 => .ex (Bool) fun b => .ex (Int) fun n2 => .ex (Int) fun n3 => .done ((i64 n), [(.cbox 73 [(st s), (.cown 30 4 (y :: l)), (i64 n1), (tb b), (i64 n2), (i64 n3)]), .dead, .dead])])), (214376, (fun a => [.ex (W_api_Pos) fun w => .done (w.t, [.dead, .dead])]))] [] [] [(244, [3, 5, 21])]
noncomputable abbrev B12 : Code := Tryd.f12.body.getD .skip
def L12_0 (w : W_api_Pos) (s : ByteArray) (l : List T) (n : Int) (b : Bool) (n1 : Int) (n2 : Int) (s1 : ByteArray) (pos : Nat) (R : T × List T) : Prop := CutL Tryd.prog Tryd.f12 B12 true [1, 1, 1, 0, 1, 0, 0] (mkSt 61 [(3, (.ptr (1000000004, 0) 0)), (5, (.ptr (1000000006, 0) 0)), (21, (.it (1000000022, 0)))] (([((1000000004, 0), .box 25 [(i64 w.fLine), (i64 w.fCol)]), ((1000000006, 0), .box 73 [(st s), (mnT (1000000770, 0) l), (i64 n), (tb b), (i64 n1), (i64 n2)]), ((1000000022, 0), .iter s1 pos)] ++ mnH (1000000770, 0) 30 4 l))) [.dead] R
set_option maxRecDepth 100000 in
theorem l12_0 (w : W_api_Pos) (s : ByteArray) (l : List T) (n : Int) (b : Bool) (n1 : Int) (n2 : Int) (s1 : ByteArray) (pos : Nat) (R : T × List T) (h : cond (Nat.ble (pos + 1) (ByteArray.size s1))
  (cond (decide (((Utf8.decode s1 pos).1 : Int) = 10))
   ((∃ n3 : Int, ∃ s2 : ByteArray, ∃ n4 : Int, ∃ b1 : Bool, ∃ n5 : Int, ∃ n6 : Int, (Rn 37 [(.cbox 73 [(st s), (mnC 30 4 l), (i64 n), (tb false), (i64 n1), (i64 n2)]), (i64 ((pos : Nat) : Int)), (i32 (Utf8.decode s1 pos).1)] ((i64 n3), [(.cbox 73 [(st s2), nilS, (i64 n4), (tb b1), (i64 n5), (i64 n6)]), .dead, .dead])) ∧
     (cond (!(decide ((n3 : Int) = 0)))
      (R = ((.tup [(.sl 4 []), (.agg [(i64 n5), (i64 n6)]), (i64 n3)]), [.dead]))
      (∃ w1 : W_api_Pos, (Rn 38 [(.agg [(i64 n5), (i64 n6)]), (i32 (Utf8.decode s1 pos).1)] (w1.t, [.dead, .dead])) ∧
       (L12_0 w s2 ([] : List T) n4 b1 w1.fLine w1.fCol s1 (pos + (Utf8.decode s1 pos).2) R)))) ∨
    (∃ n7 : Int, ∃ s3 : ByteArray, ∃ y : T, ∃ l1 : List T, ∃ n8 : Int, ∃ b2 : Bool, ∃ n9 : Int, ∃ n10 : Int, (Rn 37 [(.cbox 73 [(st s), (mnC 30 4 l), (i64 n), (tb false), (i64 n1), (i64 n2)]), (i64 ((pos : Nat) : Int)), (i32 (Utf8.decode s1 pos).1)] ((i64 n7), [(.cbox 73 [(st s3), (.cown 30 4 (y :: l1)), (i64 n8), (tb b2), (i64 n9), (i64 n10)]), .dead, .dead])) ∧
     (cond (!(decide ((n7 : Int) = 0)))
      (R = ((.tup [(.sl 4 []), (.agg [(i64 n9), (i64 n10)]), (i64 n7)]), [.dead]))
      (∃ w2 : W_api_Pos, (Rn 38 [(.agg [(i64 n9), (i64 n10)]), (i32 (Utf8.decode s1 pos).1)] (w2.t, [.dead, .dead])) ∧
       (L12_0 w s3 (y :: l1) n8 b2 w2.fLine w2.fCol s1 (pos + (Utf8.decode s1 pos).2) R)))))
   (cond (!b)
    ((∃ n11 : Int, ∃ s4 : ByteArray, ∃ n12 : Int, ∃ b3 : Bool, ∃ n13 : Int, ∃ n14 : Int, (Rn 37 [(.cbox 73 [(st s), (mnC 30 4 l), (i64 n), (tb b), (i64 n1), (i64 n2)]), (i64 ((pos : Nat) : Int)), (i32 (Utf8.decode s1 pos).1)] ((i64 n11), [(.cbox 73 [(st s4), nilS, (i64 n12), (tb b3), (i64 n13), (i64 n14)]), .dead, .dead])) ∧
      (cond (!(decide ((n11 : Int) = 0)))
       (R = ((.tup [(.sl 4 []), (.agg [(i64 n13), (i64 n14)]), (i64 n11)]), [.dead]))
       (∃ w3 : W_api_Pos, (Rn 38 [(.agg [(i64 n13), (i64 n14)]), (i32 (Utf8.decode s1 pos).1)] (w3.t, [.dead, .dead])) ∧
        (L12_0 w s4 ([] : List T) n12 b3 w3.fLine w3.fCol s1 (pos + (Utf8.decode s1 pos).2) R)))) ∨
     (∃ n15 : Int, ∃ s5 : ByteArray, ∃ y1 : T, ∃ l2 : List T, ∃ n16 : Int, ∃ b4 : Bool, ∃ n17 : Int, ∃ n18 : Int, (Rn 37 [(.cbox 73 [(st s), (mnC 30 4 l), (i64 n), (tb b), (i64 n1), (i64 n2)]), (i64 ((pos : Nat) : Int)), (i32 (Utf8.decode s1 pos).1)] ((i64 n15), [(.cbox 73 [(st s5), (.cown 30 4 (y1 :: l2)), (i64 n16), (tb b4), (i64 n17), (i64 n18)]), .dead, .dead])) ∧
      (cond (!(decide ((n15 : Int) = 0)))
       (R = ((.tup [(.sl 4 []), (.agg [(i64 n17), (i64 n18)]), (i64 n15)]), [.dead]))
       (∃ w4 : W_api_Pos, (Rn 38 [(.agg [(i64 n17), (i64 n18)]), (i32 (Utf8.decode s1 pos).1)] (w4.t, [.dead, .dead])) ∧
        (L12_0 w s5 (y1 :: l2) n16 b4 w4.fLine w4.fCol s1 (pos + (Utf8.decode s1 pos).2) R)))))
    (∃ w5 : W_api_Pos, (Rn 38 [(.agg [(i64 n1), (i64 n2)]), (i32 (Utf8.decode s1 pos).1)] (w5.t, [.dead, .dead])) ∧
     (L12_0 w s l n b w5.fLine w5.fCol s1 (pos + (Utf8.decode s1 pos).2) R))))
  (R = ((.tup [(.sl 4 l), (.agg [(i64 0), (i64 0)]), (i64 0)]), [.dead]))) : L12_0 w s l n b n1 n2 s1 pos R := by
  unfold L12_0
  refine cutL_rule (ann := A12) (mv := MV) mixed (by kernel_rfl) ?_
  all_goals rcases l with _ | ⟨_, _⟩
  all_goals revert h
  all_goals refine via ?_
  all_goals kernel_rfl
set_option maxRecDepth 100000 in
theorem f12 (s : ByteArray) (R : T × List T) (h : cond (decide ((12000 : Int) < (((ByteArray.size s) : Nat) : Int)))
  (R = ((.tup [(.sl 4 []), (.agg [(i64 1), (i64 1)]), (i64 4)]), [.dead]))
  (L12_0 ⟨0, 0⟩ s ([] : List T) 0 false 1 1 s 0 R)) : Rn 12 [(st s)] R := by
  refine fn_rule (ann := A12) (mv := MV) (fz := true) mixed Tryd.func12 (c := B12) (by kernel_rfl) (by decide) ?_
  all_goals revert h
  all_goals refine via ?_
  all_goals kernel_rfl
/- tumbrel/glyph.Name -/
noncomputable def A13 : Ann := mkAnn [(82984, (fun a => [.ex (Bool) fun b => .done ((tb b), [.dead])])), (83432, (fun a => [.ex (Bool) fun b => .done ((tb b), [.dead])]))] [] [] [(116, [3, 7])]
noncomputable abbrev B13 : Code := Tryd.f13.body.getD .skip
def L13_0 (n : Int) (s : ByteArray) (pos : Nat) (R : T × List T) : Prop := CutL Tryd.prog Tryd.f13 B13 true [1, 1, 0, 1, 0, 0] (mkSt 32 [(3, (i64 n)), (7, (.it (1000000008, 0)))] [((1000000008, 0), .iter s pos)]) [.dead] R
set_option maxRecDepth 100000 in
theorem l13_0 (n : Int) (s : ByteArray) (pos : Nat) (R : T × List T) (h : cond (Nat.ble (pos + 1) (ByteArray.size s))
  (∃ b : Bool, (Rn 39 [(i32 (Utf8.decode s pos).1)] ((tb b), [.dead])) ∧
   (cond (!b)
    (R = ((tb false), [.dead]))
    (cond (decide ((((pos : Nat) : Int) : Int) = 0))
     (∃ b1 : Bool, (Rn 15 [(i32 (Utf8.decode s pos).1)] ((tb b1), [.dead])) ∧
      (cond (!b1)
       (R = ((tb false), [.dead]))
       (L13_0 (IntKind.wrap .i64 (n + 1)) s (pos + (Utf8.decode s pos).2) R)))
     (L13_0 (IntKind.wrap .i64 (n + 1)) s (pos + (Utf8.decode s pos).2) R))))
  (cond (decide ((0 : Int) < n))
   (R = ((tb (decide ((n : Int) ≤ 24))), [.dead]))
   (R = ((tb false), [.dead])))) : L13_0 n s pos R := by
  unfold L13_0
  refine cutL_rule (ann := A13) (mv := MV) mixed (by kernel_rfl) ?_
  all_goals revert h
  all_goals refine via ?_
  all_goals kernel_rfl
set_option maxRecDepth 100000 in
theorem f13 (s : ByteArray) (R : T × List T) (h : L13_0 0 s 0 R) : Rn 13 [(st s)] R := by
  refine fn_rule (ann := A13) (mv := MV) (fz := true) mixed Tryd.func13 (c := B13) (by kernel_rfl) (by decide) ?_
  all_goals revert h
  all_goals refine via ?_
  all_goals kernel_rfl
/- tumbrel/tumbrelref03.Name -/
noncomputable def A14 : Ann := mkAnn [(17448, (fun a => [.ex (Int) fun n => .ex (Int) fun n1 => .done ((.tup [(i32 n), (i64 n1)]), [.dead])])), (33832, (fun a => [.ex (Int) fun n => .ex (Int) fun n1 => .done ((.tup [(i64 n), (i64 n1)]), [.dead])])), (50216, (fun a => [.ex (Bool) fun b => .done ((tb b), [.dead])]))] [] [] []
noncomputable abbrev B14 : Code := Tryd.f14.body.getD .skip
set_option maxRecDepth 100000 in
theorem f14 (s : ByteArray) (R : T × List T) (h : ∃ n : Int, ∃ n1 : Int, (Rn 40 [(st s)] ((.tup [(i32 n), (i64 n1)]), [.dead])) ∧
  (∃ n2 : Int, ∃ n3 : Int, (Rn 41 [(st s)] ((.tup [(i64 n2), (i64 n3)]), [.dead])) ∧
   (∃ b : Bool, (Rn 16 [(i32 n)] ((tb b), [.dead])) ∧
    (cond b
     (cond (decide ((n2 : Int) = (((ByteArray.size s) : Nat) : Int)))
      (R = ((tb (decide ((n3 : Int) ≤ 24))), [.dead]))
      (R = ((tb false), [.dead])))
     (R = ((tb false), [.dead])))))) : Rn 14 [(st s)] R := by
  refine fn_rule (ann := A14) (mv := MV) (fz := true) mixed Tryd.func14 (c := B14) (by kernel_rfl) (by decide) ?_
  all_goals revert h
  all_goals refine via ?_
  all_goals kernel_rfl
/- tumbrel/glyph.Letter -/
noncomputable def A15 : Ann := mkAnn [] [] [] []
noncomputable abbrev B15 : Code := Tryd.f15.body.getD .skip
set_option maxRecDepth 100000 in
theorem f15 (n : Int) (R : T × List T) (h : cond (decide ((97 : Int) ≤ n))
  (cond (decide ((n : Int) ≤ 122))
   (R = ((tb true), [.dead]))
   (cond (decide ((65 : Int) ≤ n))
    (cond (decide ((n : Int) ≤ 90))
     (R = ((tb true), [.dead]))
     (cond (decide ((1072 : Int) ≤ n))
      (R = ((tb (decide ((n : Int) ≤ 1103))), [.dead]))
      (R = ((tb false), [.dead]))))
    (cond (decide ((1072 : Int) ≤ n))
     (R = ((tb (decide ((n : Int) ≤ 1103))), [.dead]))
     (R = ((tb false), [.dead])))))
  (cond (decide ((65 : Int) ≤ n))
   (cond (decide ((n : Int) ≤ 90))
    (R = ((tb true), [.dead]))
    (cond (decide ((1072 : Int) ≤ n))
     (R = ((tb (decide ((n : Int) ≤ 1103))), [.dead]))
     (R = ((tb false), [.dead]))))
   (cond (decide ((1072 : Int) ≤ n))
    (R = ((tb (decide ((n : Int) ≤ 1103))), [.dead]))
    (R = ((tb false), [.dead]))))) : Rn 15 [(i32 n)] R := by
  refine fn_rule (ann := A15) (mv := MV) (fz := true) mixed Tryd.func15 (c := B15) (by kernel_rfl) (by decide) ?_
  all_goals revert h
  all_goals refine via ?_
  all_goals kernel_rfl
/- tumbrel/tumbrelref03.Letter -/
noncomputable def A16 : Ann := mkAnn [] [] [] []
noncomputable abbrev B16 : Code := Tryd.f16.body.getD .skip
set_option maxRecDepth 100000 in
theorem f16 (n : Int) (R : T × List T) (h : cond (decide ((97 : Int) ≤ n))
  (cond (decide ((n : Int) ≤ 122))
   (R = ((tb true), [.dead]))
   (cond (decide ((65 : Int) ≤ n))
    (cond (decide ((n : Int) ≤ 90))
     (R = ((tb true), [.dead]))
     (cond (decide ((1072 : Int) ≤ n))
      (R = ((tb (decide ((n : Int) ≤ 1103))), [.dead]))
      (R = ((tb false), [.dead]))))
    (cond (decide ((1072 : Int) ≤ n))
     (R = ((tb (decide ((n : Int) ≤ 1103))), [.dead]))
     (R = ((tb false), [.dead])))))
  (cond (decide ((65 : Int) ≤ n))
   (cond (decide ((n : Int) ≤ 90))
    (R = ((tb true), [.dead]))
    (cond (decide ((1072 : Int) ≤ n))
     (R = ((tb (decide ((n : Int) ≤ 1103))), [.dead]))
     (R = ((tb false), [.dead]))))
   (cond (decide ((1072 : Int) ≤ n))
    (R = ((tb (decide ((n : Int) ≤ 1103))), [.dead]))
    (R = ((tb false), [.dead]))))) : Rn 16 [(i32 n)] R := by
  refine fn_rule (ann := A16) (mv := MV) (fz := true) mixed Tryd.func16 (c := B16) (by kernel_rfl) (by decide) ?_
  all_goals revert h
  all_goals refine via ?_
  all_goals kernel_rfl
/- tumbrel/tumbrelref03.Words -/
noncomputable def A25 : Ann := mkAnn [(263208, (fun a => [.ex (Int) fun n => .ex (Int) fun n1 => .done ((.tup [(i32 n), (i64 n1)]), [.dead])])), (312360, (fun a => [.ex (Int) fun n => .ex (Int) fun n1 => .ex (Int) fun n2 => .done ((.tup [(i64 n), (i64 n1), (i64 n2)]), [.dead])]))] [] [] [(248, [0, 3, 5, 6]), (4072944, [0, 3, 5, 6])]
noncomputable abbrev B25 : Code := Tryd.f25.body.getD .skip
def L25_0 (s : ByteArray) (l : List T) (w : W_api_Pos) (w1 : W_api_Pos) (R : T × List T) : Prop := CutL Tryd.prog Tryd.f25 B25 true [1, 1, 1, 1, 0, 0, 0] (mkSt 93 [(0, (st s)), (3, (.ptr (1000000004, 0) 0)), (5, (mnT (1000000006, 0) l)), (6, (.ptr (1000000007, 0) 0))] (([((1000000004, 0), .box 25 [(i64 w.fLine), (i64 w.fCol)])] ++ mnH (1000000006, 0) 66 4 l ++ [((1000000007, 0), .box 25 [(i64 w1.fLine), (i64 w1.fCol)])]))) [.dead] R
def L25_1 (s : ByteArray) (l : List T) (w : W_api_Pos) (w1 : W_api_Pos) (R : T × List T) : Prop := CutL Tryd.prog Tryd.f25 B25 true [1, 1, 1, 1, 0, 0, 0, 1, 0, 0, 1, 0, 1, 1, 1, 1, 1, 0, 0, 0, 0] (mkSt 93 [(0, (st s)), (3, (.ptr (1000000004, 0) 0)), (5, (mnT (1000000006, 0) l)), (6, (.ptr (1000000007, 0) 0))] (([((1000000004, 0), .box 25 [(i64 w.fLine), (i64 w.fCol)])] ++ mnH (1000000006, 0) 66 4 l ++ [((1000000007, 0), .box 25 [(i64 w1.fLine), (i64 w1.fCol)])]))) [.dead] R
set_option maxRecDepth 100000 in
theorem l25_0 (s : ByteArray) (l : List T) (w : W_api_Pos) (w1 : W_api_Pos) (R : T × List T) (h : cond (decide ((0 : Int) < (((ByteArray.size s) : Nat) : Int)))
  (((0 : Int) ≤ 0 ∧ 0 < (((ByteArray.size s) : Nat) : Int)) ∧
   (cond (decide (((byteAt s 0) : Int) = 10))
    (((0 : Int) ≤ 1 ∧ 1 ≤ (((ByteArray.size s) : Nat) : Int)) ∧
     (L25_0 (ByteArray.extract s 1 (ByteArray.size s)) l w ⟨(IntKind.wrap .i64 (w1.fLine + 1)), 1⟩ R))
    (cond (decide (((byteAt s 0) : Int) = 32))
     (((0 : Int) ≤ 1 ∧ 1 ≤ (((ByteArray.size s) : Nat) : Int)) ∧
      (L25_0 (ByteArray.extract s 1 (ByteArray.size s)) l w ⟨w1.fLine, (IntKind.wrap .i64 (w1.fCol + 1))⟩ R))
     (cond (decide (((byteAt s 0) : Int) = 9))
      (((0 : Int) ≤ 1 ∧ 1 ≤ (((ByteArray.size s) : Nat) : Int)) ∧
       (L25_0 (ByteArray.extract s 1 (ByteArray.size s)) l w ⟨w1.fLine, (IntKind.wrap .i64 (w1.fCol + 1))⟩ R))
      (cond (decide (((byteAt s 0) : Int) = 35))
       (L25_1 s l w w1 R)
       (∃ n : Int, ∃ n1 : Int, ∃ n2 : Int, (Rn 54 [(st s)] ((.tup [(i64 n), (i64 n1), (i64 n2)]), [.dead])) ∧
        (cond (decide ((n : Int) = 0))
         (R = ((.tup [(.sl 4 []), w1.t, (i64 11)]), [.dead]))
         (cond (decide (((((List.length l) : Nat) : Int) : Int) = 3000))
          (R = ((.tup [(.sl 4 []), w1.t, (i64 4)]), [.dead]))
          (((0 : Int) ≤ n1 ∧ n1 ≤ (((ByteArray.size s) : Nat) : Int)) ∧
           (chk (Nat.ble (((List.length l) + 1) * 40) 140737488355328)
            (((0 : Int) ≤ n1 ∧ n1 ≤ (((ByteArray.size s) : Nat) : Int)) ∧
             (L25_0 ((ByteArray.extract s (Int.toNat n1) (ByteArray.size s))) (l ++ [(.agg [(i64 n), (st (ByteArray.extract s 0 (Int.toNat n1))), (i64 w1.fLine), (i64 w1.fCol)])]) w ⟨w1.fLine, (IntKind.wrap .i64 (w1.fCol + n2))⟩ R))))))))))))
  (R = ((.tup [(.sl 4 l), (.agg [(i64 0), (i64 0)]), (i64 0)]), [.dead]))) : L25_0 s l w w1 R := by
  unfold L25_0
  refine cutL_rule (ann := A25) (mv := MV) mixed (by kernel_rfl) ?_
  all_goals rcases l with _ | ⟨_, _⟩
  all_goals revert h
  all_goals refine via ?_
  all_goals kernel_rfl
set_option maxRecDepth 100000 in
theorem l25_1 (s : ByteArray) (l : List T) (w : W_api_Pos) (w1 : W_api_Pos) (R : T × List T) (h : cond (decide ((0 : Int) < (((ByteArray.size s) : Nat) : Int)))
  (((0 : Int) ≤ 0 ∧ 0 < (((ByteArray.size s) : Nat) : Int)) ∧
   (cond (!(decide (((byteAt s 0) : Int) = 10)))
    (∃ n : Int, ∃ n1 : Int, (Rn 40 [(st s)] ((.tup [(i32 n), (i64 n1)]), [.dead])) ∧
     (((0 : Int) ≤ n1 ∧ n1 ≤ (((ByteArray.size s) : Nat) : Int)) ∧
      (L25_1 ((ByteArray.extract s (Int.toNat n1) (ByteArray.size s))) l w ⟨w1.fLine, (IntKind.wrap .i64 (w1.fCol + 1))⟩ R)))
    (L25_0 s l w w1 R)))
  (L25_0 s l w w1 R)) : L25_1 s l w w1 R := by
  unfold L25_1
  refine cutL_rule (ann := A25) (mv := MV) mixed (by kernel_rfl) ?_
  all_goals rcases l with _ | ⟨_, _⟩
  all_goals revert h
  all_goals refine via ?_
  all_goals kernel_rfl
set_option maxRecDepth 100000 in
theorem f25 (s : ByteArray) (R : T × List T) (h : cond (decide ((12000 : Int) < (((ByteArray.size s) : Nat) : Int)))
  (R = ((.tup [(.sl 4 []), (.agg [(i64 1), (i64 1)]), (i64 4)]), [.dead]))
  (L25_0 s ([] : List T) ⟨0, 0⟩ ⟨1, 1⟩ R)) : Rn 25 [(st s)] R := by
  refine fn_rule (ann := A25) (mv := MV) (fz := true) mixed Tryd.func25 (c := B25) (by kernel_rfl) (by decide) ?_
  all_goals revert h
  all_goals refine via ?_
  all_goals kernel_rfl
/- tumbrel/tumbrellaw03.same -/
noncomputable def A26 : Ann := mkAnn [] [(99432, [.ex W_glyph_Word fun w => .done w.t]), (99688, [.ex W_tumbrelref03_Word fun w => .done w.t])] [] [(116, [0, 1, 12, 13])]
noncomputable abbrev B26 : Code := Tryd.f26.body.getD .skip
def L26_0 (l : List T) (b : List T) (n : Int) (n1 : Int) (R : T × List T) : Prop := CutL Tryd.prog Tryd.f26 B26 true [1, 1, 0, 1, 0, 0] (mkSt 26 [(0, (.sl 4 l)), (1, (.sl 4 b)), (12, (i64 n)), (13, (i64 n1))] []) [.dead, .dead] R
set_option maxRecDepth 100000 in
theorem l26_0 (l : List T) (b : List T) (n : Int) (n1 : Int) (R : T × List T) (h : cond (decide ((n1 : Int) < n))
  (∃ w : W_glyph_Word, ((0 : Int) ≤ n1 ∧ l[(Int.toNat n1)]? = some w.t) ∧
   (∃ w1 : W_tumbrelref03_Word, ((0 : Int) ≤ n1 ∧ b[(Int.toNat n1)]? = some w1.t) ∧
    (cond (!(((w.fKind : Int) == w1.fKind) && ((decide (w.fText = w1.fText)) && ((((w.fAt_Line : Int) == w1.fAt_Line) && (((w.fAt_Col : Int) == w1.fAt_Col) && true)) && true))))
     (R = ((tb false), [.dead, .dead]))
     (L26_0 l b n (IntKind.wrap .i64 (n1 + 1)) R))))
  (R = ((tb true), [.dead, .dead]))) : L26_0 l b n n1 R := by
  unfold L26_0
  refine cutL_rule (ann := A26) (mv := MV) mixed (by kernel_rfl) ?_
  all_goals revert h
  all_goals refine via ?_
  all_goals kernel_rfl
set_option maxRecDepth 100000 in
theorem f26 (l : List T) (b : List T) (R : T × List T) (h : cond (!(decide (((((List.length l) : Nat) : Int) : Int) = (((List.length b) : Nat) : Int))))
  (R = ((tb false), [.dead, .dead]))
  (L26_0 l b (((List.length l) : Nat) : Int) 0 R)) : Rn 26 [(.sl 4 l), (.sl 4 b)] R := by
  refine fn_rule (ann := A26) (mv := MV) (fz := true) mixed Tryd.func26 (c := B26) (by kernel_rfl) (by decide) ?_
  all_goals revert h
  all_goals refine via ?_
  all_goals kernel_rfl
/- tumbrel/glyph.End -/
noncomputable def A27 : Ann := mkAnn [(50216, (fun a => [.ex (Int) fun n => .ex (Int) fun n1 => .done ((.tup [(i32 n), (i64 n1)]), [.dead])])), (66664, (fun a => [.ex (W_api_Pos) fun w => .done (w.t, [.dead, .dead])]))] [] [] [(56, [0, 2, 3])]
noncomputable abbrev B27 : Code := Tryd.f27.body.getD .skip
def L27_0 (s : ByteArray) (w : W_api_Pos) (w1 : W_api_Pos) (R : T × List T) : Prop := CutL Tryd.prog Tryd.f27 B27 true [1, 1, 0, 0, 0] (mkSt 22 [(0, (st s)), (2, (.ptr (1000000003, 0) 0)), (3, (.ptr (1000000004, 0) 0))] [((1000000003, 0), .box 25 [(i64 w.fLine), (i64 w.fCol)]), ((1000000004, 0), .box 25 [(i64 w1.fLine), (i64 w1.fCol)])]) [.dead] R
set_option maxRecDepth 100000 in
theorem l27_0 (s : ByteArray) (w : W_api_Pos) (w1 : W_api_Pos) (R : T × List T) (h : cond (decide ((0 : Int) < (((ByteArray.size s) : Nat) : Int)))
  (∃ n : Int, ∃ n1 : Int, (Rn 55 [(st s)] ((.tup [(i32 n), (i64 n1)]), [.dead])) ∧
   (∃ w2 : W_api_Pos, (Rn 38 [w1.t, (i32 n)] (w2.t, [.dead, .dead])) ∧
    (((0 : Int) ≤ n1 ∧ n1 ≤ (((ByteArray.size s) : Nat) : Int)) ∧
     (L27_0 ((ByteArray.extract s (Int.toNat n1) (ByteArray.size s))) w w2 R))))
  (R = (w1.t, [.dead]))) : L27_0 s w w1 R := by
  unfold L27_0
  refine cutL_rule (ann := A27) (mv := MV) mixed (by kernel_rfl) ?_
  all_goals revert h
  all_goals refine via ?_
  all_goals kernel_rfl
set_option maxRecDepth 100000 in
theorem f27 (s : ByteArray) (R : T × List T) (h : L27_0 s ⟨0, 0⟩ ⟨1, 1⟩ R) : Rn 27 [(st s)] R := by
  refine fn_rule (ann := A27) (mv := MV) (fz := true) mixed Tryd.func27 (c := B27) (by kernel_rfl) (by decide) ?_
  all_goals revert h
  all_goals refine via ?_
  all_goals kernel_rfl
/- tumbrel/tumbrelref03.End -/
noncomputable def A28 : Ann := mkAnn [(50216, (fun a => [.ex (Int) fun n => .ex (Int) fun n1 => .done ((.tup [(i32 n), (i64 n1)]), [.dead])]))] [] [] [(56, [0, 2, 3])]
noncomputable abbrev B28 : Code := Tryd.f28.body.getD .skip
def L28_0 (s : ByteArray) (w : W_api_Pos) (w1 : W_api_Pos) (R : T × List T) : Prop := CutL Tryd.prog Tryd.f28 B28 true [1, 1, 0, 0, 0] (mkSt 29 [(0, (st s)), (2, (.ptr (1000000003, 0) 0)), (3, (.ptr (1000000004, 0) 0))] [((1000000003, 0), .box 25 [(i64 w.fLine), (i64 w.fCol)]), ((1000000004, 0), .box 25 [(i64 w1.fLine), (i64 w1.fCol)])]) [.dead] R
set_option maxRecDepth 100000 in
theorem l28_0 (s : ByteArray) (w : W_api_Pos) (w1 : W_api_Pos) (R : T × List T) (h : cond (decide ((0 : Int) < (((ByteArray.size s) : Nat) : Int)))
  (∃ n : Int, ∃ n1 : Int, (Rn 40 [(st s)] ((.tup [(i32 n), (i64 n1)]), [.dead])) ∧
   (cond (decide ((n : Int) = 10))
    (((0 : Int) ≤ n1 ∧ n1 ≤ (((ByteArray.size s) : Nat) : Int)) ∧
     (L28_0 ((ByteArray.extract s (Int.toNat n1) (ByteArray.size s))) w ⟨(IntKind.wrap .i64 (w1.fLine + 1)), 1⟩ R))
    (((0 : Int) ≤ n1 ∧ n1 ≤ (((ByteArray.size s) : Nat) : Int)) ∧
     (L28_0 ((ByteArray.extract s (Int.toNat n1) (ByteArray.size s))) w ⟨w1.fLine, (IntKind.wrap .i64 (w1.fCol + 1))⟩ R))))
  (R = (w1.t, [.dead]))) : L28_0 s w w1 R := by
  unfold L28_0
  refine cutL_rule (ann := A28) (mv := MV) mixed (by kernel_rfl) ?_
  all_goals revert h
  all_goals refine via ?_
  all_goals kernel_rfl
set_option maxRecDepth 100000 in
theorem f28 (s : ByteArray) (R : T × List T) (h : L28_0 s ⟨0, 0⟩ ⟨1, 1⟩ R) : Rn 28 [(st s)] R := by
  refine fn_rule (ann := A28) (mv := MV) (fz := true) mixed Tryd.func28 (c := B28) (by kernel_rfl) (by decide) ?_
  all_goals revert h
  all_goals refine via ?_
  all_goals kernel_rfl
/- tumbrel/tumbrellaw05.awake -/
noncomputable def A29 : Ann := mkAnn [(17384, (fun a => [.ex (IfV) fun e => .ex (Int) fun n => .done ((.tup [e.v, (i64 n)]), [.dead])])), (34408, (fun a => [.ex (Bool) fun b => .done ((tb b), [.dead, .dead])]))] [] [] []
noncomputable abbrev B29 : Code := Tryd.f29.body.getD .skip
set_option maxRecDepth 100000 in
theorem f29 (R : T × List T) (h : ∃ e : IfV, ∃ n : Int, (Rn 30 [(st (bs [49, 32, 43, 32, 50]))] ((.tup [e.v, (i64 n)]), [.dead])) ∧
  (cond (decide ((n : Int) = 0))
   (∃ b : Bool, (Rn 56 [e.v, (.ifc 101 (.agg [(st (bs [43])), (.ifc 81 (.agg [(i64 1)])), (.ifc 81 (.agg [(i64 2)]))]))] ((tb b), [.dead, .dead])) ∧
    (R = ((tb b), [])))
   (R = ((tb false), [])))) : Rn 29 [] R := by
  refine fn_rule (ann := A29) (mv := MV) (fz := true) mixed Tryd.func29 (c := B29) (by kernel_rfl) (by decide) ?_
  all_goals revert h
  all_goals refine via ?_
  all_goals kernel_rfl
/- tumbrel/guard.Parse -/
noncomputable def A30 : Ann := mkAnn [(17448, (fun a => [.ex (List T) fun l => .ex (W_api_Pos) fun w => .ex (Int) fun n => .done ((.tup [(.sl 4 l), w.t, (i64 n)]), [.dead])])), (66600, (fun a => [.ex (IfV) fun e => .ex (Int) fun n => .ex (Int) fun n1 => .done ((.tup [e.v, (i64 n), (i64 n1)]), [.dead])]))] [] [] []
noncomputable abbrev B30 : Code := Tryd.f30.body.getD .skip
set_option maxRecDepth 100000 in
theorem f30 (s : ByteArray) (R : T × List T) (h : ∃ l : List T, ∃ w : W_api_Pos, ∃ n : Int, (Rn 12 [(st s)] ((.tup [(.sl 4 l), w.t, (i64 n)]), [.dead])) ∧
  (cond (!(decide ((n : Int) = 0)))
   (R = ((.tup [(.ifc 0 .dead), (i64 n)]), [.dead]))
   (∃ e : IfV, ∃ n1 : Int, ∃ n2 : Int, (Rn 35 [(.sl 4 l)] ((.tup [e.v, (i64 n1), (i64 n2)]), [.dead])) ∧
    (cond (decide ((n2 : Int) = 0))
     (cond (decide ((n1 : Int) < (((List.length l) : Nat) : Int)))
      (R = ((.tup [(.ifc 0 .dead), (i64 12)]), [.dead]))
      (R = ((.tup [e.v, (i64 n2)]), [.dead])))
     (R = ((.tup [e.v, (i64 n2)]), [.dead])))))) : Rn 30 [(st s)] R := by
  refine fn_rule (ann := A30) (mv := MV) (fz := true) mixed Tryd.func30 (c := B30) (by kernel_rfl) (by decide) ?_
  all_goals revert h
  all_goals refine via ?_
  all_goals kernel_rfl
/- tumbrel/tumbrelref04.Parse -/
noncomputable def A31 : Ann := mkAnn [(17448, (fun a => [.ex (List T) fun l => .ex (W_api_Pos) fun w => .ex (Int) fun n => .done ((.tup [(.sl 4 l), w.t, (i64 n)]), [.dead])])), (66600, (fun a => [.ex (W_tumbrelref04_Node) fun w => .ex (Int) fun n => .ex (Int) fun n1 => .done ((.tup [w.t, (i64 n), (i64 n1)]), [.dead])]))] [] [] []
noncomputable abbrev B31 : Code := Tryd.f31.body.getD .skip
set_option maxRecDepth 100000 in
theorem f31 (s : ByteArray) (R : T × List T) (h : ∃ l : List T, ∃ w : W_api_Pos, ∃ n : Int, (Rn 25 [(st s)] ((.tup [(.sl 4 l), w.t, (i64 n)]), [.dead])) ∧
  (cond (!(decide ((n : Int) = 0)))
   (R = ((.tup [(.agg [(i64 0), (i64 0), (st (bs [])), (.sl 4 [])]), (i64 n)]), [.dead]))
   (∃ w1 : W_tumbrelref04_Node, ∃ n1 : Int, ∃ n2 : Int, (Rn 36 [(.sl 4 l)] ((.tup [w1.t, (i64 n1), (i64 n2)]), [.dead])) ∧
    (cond (!(decide ((n2 : Int) = 0)))
     (R = ((.tup [(.agg [(i64 0), (i64 0), (st (bs [])), (.sl 4 [])]), (i64 n2)]), [.dead]))
     (cond (decide ((n1 : Int) < (((List.length l) : Nat) : Int)))
      (R = ((.tup [(.agg [(i64 0), (i64 0), (st (bs [])), (.sl 4 [])]), (i64 12)]), [.dead]))
      (R = ((.tup [w1.t, (i64 0)]), [.dead]))))))) : Rn 31 [(st s)] R := by
  refine fn_rule (ann := A31) (mv := MV) (fz := true) mixed Tryd.func31 (c := B31) (by kernel_rfl) (by decide) ?_
  all_goals revert h
  all_goals refine via ?_
  all_goals kernel_rfl
/- tumbrel/tumbrellaw04.Ours -/
noncomputable def A33 : Ann := mkAnn [(164968, (fun a => [.ex (W_tumbrelref04_Node) fun w => .done (w.t, [.dead])])), (214120, (fun a => [.ex (W_tumbrelref04_Node) fun w => .done (w.t, [.dead])])), (263400, (fun a => [.ex (W_tumbrelref04_Node) fun w => .done (w.t, [.dead])])), (263592, (fun a => [.ex (W_tumbrelref04_Node) fun w => .done (w.t, [.dead])]))] [(33768, [.ex W_expr_Lit fun w => .done w.t]), (82920, [.ex W_expr_Ref fun w => .done w.t]), (132072, [.ex W_expr_Not fun w => .done w.t]), (181224, [.ex W_expr_Neg fun w => .done w.t]), (230376, [.ex W_expr_Bin fun w => .done w.t])] [] []
noncomputable abbrev B33 : Code := Tryd.f33.body.getD .skip
set_option maxRecDepth 100000 in
theorem f33 (e : IfV) (R : T × List T) (h : cond (Nat.beq e.t 81)
  (∃ w : W_expr_Lit, (e.x = w.t) ∧
   (R = ((.agg [(i64 1), (i64 w.fN), (st (bs [])), (.sl 4 [])]), [.dead])))
  (cond (Nat.beq e.t 96)
   (∃ w1 : W_expr_Ref, (e.x = w1.t) ∧
    (R = ((.agg [(i64 2), (i64 0), (st w1.fName), (.sl 4 [])]), [.dead])))
   (cond (Nat.beq e.t 98)
    (∃ w2 : W_expr_Not, (e.x = w2.t) ∧
     (∃ w3 : W_tumbrelref04_Node, (Rn 33 [w2.fX.v] (w3.t, [.dead])) ∧
      (R = ((.agg [(i64 3), (i64 0), (st (bs [])), (.sl 4 [w3.t])]), [.dead]))))
    (cond (Nat.beq e.t 99)
     (∃ w4 : W_expr_Neg, (e.x = w4.t) ∧
      (∃ w5 : W_tumbrelref04_Node, (Rn 33 [w4.fX.v] (w5.t, [.dead])) ∧
       (R = ((.agg [(i64 4), (i64 0), (st (bs [])), (.sl 4 [w5.t])]), [.dead]))))
     (cond (Nat.beq e.t 101)
      (∃ w6 : W_expr_Bin, (e.x = w6.t) ∧
       (∃ w7 : W_tumbrelref04_Node, (Rn 33 [w6.fL.v] (w7.t, [.dead])) ∧
        (∃ w8 : W_tumbrelref04_Node, (Rn 33 [w6.fR.v] (w8.t, [.dead])) ∧
         (R = ((.agg [(i64 5), (i64 0), (st w6.fOp), (.sl 4 [w7.t, w8.t])]), [.dead])))))
      (R = ((.agg [(i64 0), (i64 0), (st (bs [])), (.sl 4 [])]), [.dead]))))))) : Rn 33 [e.v] R := by
  refine fn_rule (ann := A33) (mv := MV) (fz := true) mixed Tryd.func33 (c := B33) (by kernel_rfl) (by decide) ?_
  all_goals revert h
  all_goals refine via ?_
  all_goals kernel_rfl
/- tumbrel/tumbrelref04.Same -/
noncomputable def A32 : Ann := mkAnn [(99944, (fun a => [.ex (Bool) fun b => .done ((tb b), [.dead, .dead])]))] [(99496, [.ex W_tumbrelref04_Node fun w => .done w.t]), (99816, [.ex W_tumbrelref04_Node fun w => .done w.t])] [] [(116, [2, 3, 36, 37])]
noncomputable abbrev B32 : Code := Tryd.f32.body.getD .skip
def L32_0 (n : Int) (n1 : Int) (w : W_tumbrelref04_Node) (w1 : W_tumbrelref04_Node) (R : T × List T) : Prop := CutL Tryd.prog Tryd.f32 B32 true [1, 1, 0, 1, 0, 0] (mkSt 53 [(2, (.ptr (1000000003, 0) 0)), (3, (.ptr (1000000004, 0) 0)), (36, (i64 n)), (37, (i64 n1))] [((1000000003, 0), .box 37 [(i64 w.fKind), (i64 w.fN), (st w.fS), (.sl 4 w.fParts)]), ((1000000004, 0), .box 37 [(i64 w1.fKind), (i64 w1.fN), (st w1.fS), (.sl 4 w1.fParts)])]) [.dead, .dead] R
set_option maxRecDepth 100000 in
theorem l32_0 (n : Int) (n1 : Int) (w : W_tumbrelref04_Node) (w1 : W_tumbrelref04_Node) (R : T × List T) (h : cond (decide ((n1 : Int) < n))
  (∃ w2 : W_tumbrelref04_Node, ((0 : Int) ≤ n1 ∧ w.fParts[(Int.toNat n1)]? = some w2.t) ∧
   (∃ w3 : W_tumbrelref04_Node, ((0 : Int) ≤ n1 ∧ w1.fParts[(Int.toNat n1)]? = some w3.t) ∧
    (∃ b : Bool, (Rn 32 [w2.t, w3.t] ((tb b), [.dead, .dead])) ∧
     (cond (!b)
      (R = ((tb false), [.dead, .dead]))
      (L32_0 n (IntKind.wrap .i64 (n1 + 1)) w w1 R)))))
  (R = ((tb true), [.dead, .dead]))) : L32_0 n n1 w w1 R := by
  unfold L32_0
  refine cutL_rule (ann := A32) (mv := MV) mixed (by kernel_rfl) ?_
  all_goals revert h
  all_goals refine via ?_
  all_goals kernel_rfl
set_option maxRecDepth 100000 in
theorem f32 (w : W_tumbrelref04_Node) (w1 : W_tumbrelref04_Node) (R : T × List T) (h : cond (!(decide ((w.fKind : Int) = w1.fKind)))
  (R = ((tb false), [.dead, .dead]))
  (cond (!(decide ((w.fN : Int) = w1.fN)))
   (R = ((tb false), [.dead, .dead]))
   (cond (!(decide (w.fS = w1.fS)))
    (R = ((tb false), [.dead, .dead]))
    (cond (!(decide (((((List.length w.fParts) : Nat) : Int) : Int) = (((List.length w1.fParts) : Nat) : Int))))
     (R = ((tb false), [.dead, .dead]))
     (L32_0 (((List.length w.fParts) : Nat) : Int) 0 w w1 R))))) : Rn 32 [w.t, w1.t] R := by
  refine fn_rule (ann := A32) (mv := MV) (fz := true) mixed Tryd.func32 (c := B32) (by kernel_rfl) (by decide) ?_
  all_goals revert h
  all_goals refine via ?_
  all_goals kernel_rfl
/- tumbrel/tumbrellaw05.few -/
noncomputable def A34 : Ann := mkAnn [] [] [] []
noncomputable abbrev B34 : Code := Tryd.f34.body.getD .skip
set_option maxRecDepth 100000 in
theorem f34 (s : ByteArray) (R : T × List T) (h : R = ((tb (decide (((((ByteArray.size s) : Nat) : Int) : Int) ≤ 12000))), [.dead])) : Rn 34 [(st s)] R := by
  refine fn_rule (ann := A34) (mv := MV) (fz := true) mixed Tryd.func34 (c := B34) (by kernel_rfl) (by decide) ?_
  all_goals revert h
  all_goals refine via ?_
  all_goals kernel_rfl
/- tumbrel/guard.Take -/
noncomputable def A35 : Ann := mkAnn [(33832, (fun a => [.ex (IfV) fun e => .ex (List T) fun l => .ex (Int) fun n => .ex (Bool) fun b => .done (e.v, [(.cbox 111 [(.sl 4 l), (i64 n), (tb b)]), .dead])])), (82984, (fun a => [.ex (Bool) fun b => .done ((tb b), [.dead])]))] [] [] []
noncomputable abbrev B35 : Code := Tryd.f35.body.getD .skip
set_option maxRecDepth 100000 in
theorem f35 (words : List T) (R : T × List T) (h : ∃ e : IfV, ∃ l : List T, ∃ n : Int, ∃ b : Bool, (Rn 57 [(.cbox 111 [(.sl 4 words), (i64 0), (tb false)]), (i64 1)] (e.v, [(.cbox 111 [(.sl 4 l), (i64 n), (tb b)]), .dead])) ∧
  (cond b
   (R = ((.tup [(.ifc 0 .dead), (i64 n), (i64 12)]), [.dead]))
   (∃ b1 : Bool, (Rn 43 [e.v] ((tb b1), [.dead])) ∧
    (cond (!b1)
     (R = ((.tup [(.ifc 0 .dead), (i64 0), (i64 13)]), [.dead]))
     (R = ((.tup [e.v, (i64 n), (i64 0)]), [.dead])))))) : Rn 35 [(.sl 4 words)] R := by
  refine fn_rule (ann := A35) (mv := MV) (fz := true) mixed Tryd.func35 (c := B35) (by kernel_rfl) (by decide) ?_
  all_goals revert h
  all_goals refine via ?_
  all_goals kernel_rfl
/- tumbrel/tumbrelref04.Take -/
noncomputable def A36 : Ann := mkAnn [(33832, (fun a => [.ex (W_tumbrelref04_Node) fun w => .ex (List T) fun l => .ex (Int) fun n => .ex (Int) fun n1 => .done (w.t, [(.cbox 114 [(.sl 4 l), (i64 n), (i64 n1)]), .dead])])), (82984, (fun a => [.ex (Bool) fun b => .done ((tb b), [.dead])]))] [] [] []
noncomputable abbrev B36 : Code := Tryd.f36.body.getD .skip
set_option maxRecDepth 100000 in
theorem f36 (words : List T) (R : T × List T) (h : ∃ w : W_tumbrelref04_Node, ∃ l : List T, ∃ n : Int, ∃ n1 : Int, (Rn 58 [(.cbox 114 [(.sl 4 words), (i64 0), (i64 (-1))]), (i64 1)] (w.t, [(.cbox 114 [(.sl 4 l), (i64 n), (i64 n1)]), .dead])) ∧
  (cond (decide ((0 : Int) ≤ n1))
   (R = ((.tup [(.agg [(i64 0), (i64 0), (st (bs [])), (.sl 4 [])]), (i64 n1), (i64 12)]), [.dead]))
   (∃ b : Bool, (Rn 50 [w.t] ((tb b), [.dead])) ∧
    (cond (!b)
     (R = ((.tup [(.agg [(i64 0), (i64 0), (st (bs [])), (.sl 4 [])]), (i64 0), (i64 13)]), [.dead]))
     (R = ((.tup [w.t, (i64 n), (i64 0)]), [.dead])))))) : Rn 36 [(.sl 4 words)] R := by
  refine fn_rule (ann := A36) (mv := MV) (fz := true) mixed Tryd.func36 (c := B36) (by kernel_rfl) (by decide) ?_
  all_goals revert h
  all_goals refine via ?_
  all_goals kernel_rfl
/- (*tumbrel/glyph.lexer).rune -/
noncomputable def A37 : Ann := mkAnn [(99496, (fun a => [.ex (W_glyph_Word) fun w => .ex (Bool) fun b => .done ((.tup [w.t, (tb b)]), [(a.getD 0 .dead), .dead, .dead])]))] [] [] []
noncomputable abbrev B37 : Code := Tryd.f37.body.getD .skip
set_option maxRecDepth 100000 in
theorem f37 (s : ByteArray) (l : List T) (n : Int) (b : Bool) (n1 : Int) (n2 : Int) (i : Int) (n3 : Int) (R : T × List T) (h : cond (decide ((i : Int) < n))
  (R = ((i64 0), [(.cbox 73 [(st s), (mnC 30 4 l), (i64 n), (tb b), (i64 n1), (i64 n2)]), .dead, .dead]))
  (cond (decide ((n3 : Int) = 32))
   (R = ((i64 0), [(.cbox 73 [(st s), (mnC 30 4 l), (i64 n), (tb b), (i64 n1), (i64 n2)]), .dead, .dead]))
   (cond (decide ((n3 : Int) = 9))
    (R = ((i64 0), [(.cbox 73 [(st s), (mnC 30 4 l), (i64 n), (tb b), (i64 n1), (i64 n2)]), .dead, .dead]))
    (cond (decide ((n3 : Int) = 10))
     (R = ((i64 0), [(.cbox 73 [(st s), (mnC 30 4 l), (i64 n), (tb b), (i64 n1), (i64 n2)]), .dead, .dead]))
     (cond (decide ((n3 : Int) = 35))
      (R = ((i64 0), [(.cbox 73 [(st s), (mnC 30 4 l), (i64 n), (tb true), (i64 n1), (i64 n2)]), .dead, .dead]))
      (∃ w : W_glyph_Word, ∃ b1 : Bool, (Rn 59 [(.cbox 73 [(st s), (mnC 30 4 l), (i64 n), (tb b), (i64 n1), (i64 n2)]), (i64 i), (i32 n3)] ((.tup [w.t, (tb b1)]), [(.cbox 73 [(st s), (mnC 30 4 l), (i64 n), (tb b), (i64 n1), (i64 n2)]), .dead, .dead])) ∧
       (cond (!b1)
        (R = ((i64 11), [(.cbox 73 [(st s), (mnC 30 4 l), (i64 n), (tb b), (i64 n1), (i64 n2)]), .dead, .dead]))
        (cond (decide (((((List.length l) : Nat) : Int) : Int) = 3000))
         (R = ((i64 4), [(.cbox 73 [(st s), (mnC 30 4 l), (i64 n), (tb b), (i64 n1), (i64 n2)]), .dead, .dead]))
         (chk (Nat.ble (((List.length l) + 1) * 40) 140737488355328)
          (R = ((i64 0), [(.cbox 73 [(st s), (.cown 30 4 (l ++ [w.t])), (i64 (IntKind.wrap .i64 (i + (((ByteArray.size w.fText) : Nat) : Int)))), (tb b), (i64 n1), (i64 n2)]), .dead, .dead]))))))))))) : Rn 37 [(.cbox 73 [(st s), (mnC 30 4 l), (i64 n), (tb b), (i64 n1), (i64 n2)]), (i64 i), (i32 n3)] R := by
  refine fn_rule (ann := A37) (mv := MV) (fz := true) mixed Tryd.func37 (c := B37) (by kernel_rfl) (by decide) ?_
  all_goals rcases l with _ | ⟨_, _⟩
  all_goals revert h
  all_goals refine via ?_
  all_goals kernel_rfl
/- tumbrel/glyph.behind -/
noncomputable def A38 : Ann := mkAnn [] [] [] []
noncomputable abbrev B38 : Code := Tryd.f38.body.getD .skip
set_option maxRecDepth 100000 in
theorem f38 (at_ : W_api_Pos) (n : Int) (R : T × List T) (h : cond (decide ((n : Int) = 10))
  (R = ((.agg [(i64 (IntKind.wrap .i64 (at_.fLine + 1))), (i64 1)]), [.dead, .dead]))
  (R = ((.agg [(i64 at_.fLine), (i64 (IntKind.wrap .i64 (at_.fCol + 1)))]), [.dead, .dead]))) : Rn 38 [at_.t, (i32 n)] R := by
  refine fn_rule (ann := A38) (mv := MV) (fz := true) mixed Tryd.func38 (c := B38) (by kernel_rfl) (by decide) ?_
  all_goals revert h
  all_goals refine via ?_
  all_goals kernel_rfl
/- tumbrel/glyph.inside -/
noncomputable def A39 : Ann := mkAnn [(17448, (fun a => [.ex (Bool) fun b => .done ((tb b), [.dead])])), (17640, (fun a => [.ex (Bool) fun b => .done ((tb b), [.dead])]))] [] [] []
noncomputable abbrev B39 : Code := Tryd.f39.body.getD .skip
set_option maxRecDepth 100000 in
theorem f39 (n : Int) (R : T × List T) (h : ∃ b : Bool, (Rn 15 [(i32 n)] ((tb b), [.dead])) ∧
  (cond b
   (R = ((tb true), [.dead]))
   (∃ b1 : Bool, (Rn 60 [(i32 n)] ((tb b1), [.dead])) ∧
    (cond b1
     (R = ((tb true), [.dead]))
     (R = ((tb (decide ((n : Int) = 95))), [.dead])))))) : Rn 39 [(i32 n)] R := by
  refine fn_rule (ann := A39) (mv := MV) (fz := true) mixed Tryd.func39 (c := B39) (by kernel_rfl) (by decide) ?_
  all_goals revert h
  all_goals refine via ?_
  all_goals kernel_rfl
/- tumbrel/tumbrelref03.next -/
noncomputable def A40 : Ann := mkAnn [(17448, (fun a => [.ex (Int) fun n => .ex (Int) fun n1 => .done ((.tup [(i32 n), (i64 n1)]), [.dead])]))] [] [] []
noncomputable abbrev B40 : Code := Tryd.f40.body.getD .skip
set_option maxRecDepth 100000 in
theorem f40 (s : ByteArray) (R : T × List T) (h : ∃ n : Int, ∃ n1 : Int, (Rn 55 [(st s)] ((.tup [(i32 n), (i64 n1)]), [.dead])) ∧
  (cond (decide ((n : Int) = 65533))
   (cond (decide ((n1 : Int) ≤ 1))
    (R = ((.tup [(i32 (-1)), (i64 n1)]), [.dead]))
    (R = ((.tup [(i32 n), (i64 n1)]), [.dead])))
   (R = ((.tup [(i32 n), (i64 n1)]), [.dead])))) : Rn 40 [(st s)] R := by
  refine fn_rule (ann := A40) (mv := MV) (fz := true) mixed Tryd.func40 (c := B40) (by kernel_rfl) (by decide) ?_
  all_goals revert h
  all_goals refine via ?_
  all_goals kernel_rfl
end Go.Proofs.YthcaodlfnlhfbaaDoorT
