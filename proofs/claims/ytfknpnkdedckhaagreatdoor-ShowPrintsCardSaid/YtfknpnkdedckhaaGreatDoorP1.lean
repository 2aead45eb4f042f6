/- What is to be shown of functions of the program, by their texts (printed by a program of this work; the kernel holds each against the text). -/
import Derived.Test.YtfknpnkdedckhaaGreatDoorP0
namespace Go.Proofs.YtfknpnkdedckhaaGreatDoorT
open Go Go.Proofs
set_option linter.unusedVariables false
/- tumbrel/tumbrellaw07.ShowPrints -/
noncomputable def A7 : Ann := mkAnn [(17384, (fun a => [.ex (Bool) fun b => .done ((tb b), [])])), (17640, (fun a => [.ex (Bool) fun b => .done ((tb b), [.dead])])), (33768, (fun a => [.ex (Bool) fun b => .done ((tb b), [])])), (50216, (fun a => [.ex (W_chart_Chart) fun w => .done (w.t, [.dead])])), (50280, (fun a => [.ex (ByteArray) fun s => .ex (Int) fun n => .done ((.tup [(st s), (i64 n)]), [.dead])])), (66600, (fun a => [.ex (W_tumbrelref06_Chart) fun w => .done (w.t, [.dead])])), (66664, (fun a => [.ex (ByteArray) fun s => .ex (Int) fun n => .done ((.tup [(st s), (i64 n)]), [.dead])])), (83560, (fun a => [.ex (W_chart_Chart) fun w => .done (w.t, [.dead])])), (83624, (fun a => [.ex (Bool) fun b => .done ((tb b), [.dead])])), (83752, (fun a => [.ex (W_tumbrelref06_Chart) fun w => .done (w.t, [.dead])])), (83816, (fun a => [.ex (Bool) fun b => .done ((tb b), [.dead])]))] [] [] []
noncomputable abbrev B7 : Code := Tryz.f7.body.getD .skip
set_option maxRecDepth 100000 in
theorem f7 (w : W_tumbrelref06_Chart) (R : T × List T) (h : ∃ b : Bool, (Rn 34 [] ((tb b), [])) ∧
  (cond (!b)
   (∃ b1 : Bool, (Rn 34 [] ((tb b1), [])) ∧
    (R = ((tb b1), [.dead])))
   (∃ b2 : Bool, (Rn 25 [w.t] ((tb b2), [.dead])) ∧
    (cond (!b2)
     (∃ b3 : Bool, (Rn 34 [] ((tb b3), [])) ∧
      (R = ((tb b3), [.dead])))
     (∃ w1 : W_chart_Chart, (Rn 16 [w.t] (w1.t, [.dead])) ∧
      (∃ s : ByteArray, ∃ n : Int, (Rn 35 [w1.t] ((.tup [(st s), (i64 n)]), [.dead])) ∧
       (∃ w2 : W_tumbrelref06_Chart, (Rn 18 [w.t] (w2.t, [.dead])) ∧
        (∃ s1 : ByteArray, ∃ n1 : Int, (Rn 36 [w2.t] ((.tup [(st s1), (i64 n1)]), [.dead])) ∧
         (cond (decide (s = s1))
          (cond (decide ((n : Int) = n1))
           (∃ w3 : W_chart_Chart, (Rn 16 [w.t] (w3.t, [.dead])) ∧
            (∃ b4 : Bool, (Rn 37 [w3.t] ((tb b4), [.dead])) ∧
             (∃ w4 : W_tumbrelref06_Chart, (Rn 18 [w.t] (w4.t, [.dead])) ∧
              (∃ b5 : Bool, (Rn 38 [w4.t] ((tb b5), [.dead])) ∧
               (R = ((tb (b4 == b5)), [.dead]))))))
           (R = ((tb false), [.dead])))
          (R = ((tb false), [.dead]))))))))))) : Rn 7 [w.t] R := by
  refine fn_rule (ann := A7) (mv := MV) (fz := true) mixed Tryz.func7 (c := B7) (by kernel_rfl) (by decide) ?_
  all_goals revert h
  all_goals refine via ?_
  all_goals kernel_rfl
/- tumbrel/glyph.Words -/
noncomputable def A101 : Ann := mkAnn [(165032, (fun a => [.ex (Int) fun n => .ex (ByteArray) fun s => .ex (Int) fun n1 => .ex (Bool) fun b => .ex (Int) fun n2 => .ex (Int) fun n3 => .done ((i64 n), [(.cbox 323 [(st s), nilS, (i64 n1), (tb b), (i64 n2), (i64 n3)]), .dead, .dead]), .ex (Int) fun n => .ex (ByteArray) fun s => .ex (T) fun y => .ex (List T) fun l => .ex (Int) fun n1 => .ex (Bool) fun b => .ex (Int) fun n2 => .ex (Int) fun n3 => .done ((i64 n), [(.cbox 323 [(st s), (.cown 414 4 (y :: l)), (i64 n1), (tb b), (i64 n2), (i64 n3)]), .dead, .dead])])), (214376, (fun a => [.ex (W_api_Pos) fun w => .done (w.t, [.dead, .dead])]))] [] [] [(244, [3, 5, 21])]
noncomputable abbrev B101 : Code := Tryz.f101.body.getD .skip
def L101_0 (w : W_api_Pos) (s : ByteArray) (l : List T) (n : Int) (b : Bool) (n1 : Int) (n2 : Int) (s1 : ByteArray) (pos : Nat) (R : T × List T) : Prop := CutL Tryz.prog Tryz.f101 B101 true [1, 1, 1, 0, 1, 0, 0] (mkSt 61 [(3, (.ptr (1000000004, 0) 0)), (5, (.ptr (1000000006, 0) 0)), (21, (.it (1000000022, 0)))] (([((1000000004, 0), .box 23 [(i64 w.fLine), (i64 w.fCol)]), ((1000000006, 0), .box 323 [(st s), (mnT (1000000770, 0) l), (i64 n), (tb b), (i64 n1), (i64 n2)]), ((1000000022, 0), .iter s1 pos)] ++ mnH (1000000770, 0) 414 4 l))) [.dead] R
set_option maxRecDepth 100000 in
theorem l101_0 (w : W_api_Pos) (s : ByteArray) (l : List T) (n : Int) (b : Bool) (n1 : Int) (n2 : Int) (s1 : ByteArray) (pos : Nat) (R : T × List T) (h : cond (Nat.ble (pos + 1) (ByteArray.size s1))
  (cond (decide (((Utf8.decode s1 pos).1 : Int) = 10))
   ((∃ n3 : Int, ∃ s2 : ByteArray, ∃ n4 : Int, ∃ b1 : Bool, ∃ n5 : Int, ∃ n6 : Int, (Rn 188 [(.cbox 323 [(st s), (mnC 414 4 l), (i64 n), (tb false), (i64 n1), (i64 n2)]), (i64 ((pos : Nat) : Int)), (i32 (Utf8.decode s1 pos).1)] ((i64 n3), [(.cbox 323 [(st s2), nilS, (i64 n4), (tb b1), (i64 n5), (i64 n6)]), .dead, .dead])) ∧
     (cond (!(decide ((n3 : Int) = 0)))
      (R = ((.tup [(.sl 4 []), (.agg [(i64 n5), (i64 n6)]), (i64 n3)]), [.dead]))
      (∃ w1 : W_api_Pos, (Rn 189 [(.agg [(i64 n5), (i64 n6)]), (i32 (Utf8.decode s1 pos).1)] (w1.t, [.dead, .dead])) ∧
       (L101_0 w s2 ([] : List T) n4 b1 w1.fLine w1.fCol s1 (pos + (Utf8.decode s1 pos).2) R)))) ∨
    (∃ n7 : Int, ∃ s3 : ByteArray, ∃ y : T, ∃ l1 : List T, ∃ n8 : Int, ∃ b2 : Bool, ∃ n9 : Int, ∃ n10 : Int, (Rn 188 [(.cbox 323 [(st s), (mnC 414 4 l), (i64 n), (tb false), (i64 n1), (i64 n2)]), (i64 ((pos : Nat) : Int)), (i32 (Utf8.decode s1 pos).1)] ((i64 n7), [(.cbox 323 [(st s3), (.cown 414 4 (y :: l1)), (i64 n8), (tb b2), (i64 n9), (i64 n10)]), .dead, .dead])) ∧
     (cond (!(decide ((n7 : Int) = 0)))
      (R = ((.tup [(.sl 4 []), (.agg [(i64 n9), (i64 n10)]), (i64 n7)]), [.dead]))
      (∃ w2 : W_api_Pos, (Rn 189 [(.agg [(i64 n9), (i64 n10)]), (i32 (Utf8.decode s1 pos).1)] (w2.t, [.dead, .dead])) ∧
       (L101_0 w s3 (y :: l1) n8 b2 w2.fLine w2.fCol s1 (pos + (Utf8.decode s1 pos).2) R)))))
   (cond (!b)
    ((∃ n11 : Int, ∃ s4 : ByteArray, ∃ n12 : Int, ∃ b3 : Bool, ∃ n13 : Int, ∃ n14 : Int, (Rn 188 [(.cbox 323 [(st s), (mnC 414 4 l), (i64 n), (tb b), (i64 n1), (i64 n2)]), (i64 ((pos : Nat) : Int)), (i32 (Utf8.decode s1 pos).1)] ((i64 n11), [(.cbox 323 [(st s4), nilS, (i64 n12), (tb b3), (i64 n13), (i64 n14)]), .dead, .dead])) ∧
      (cond (!(decide ((n11 : Int) = 0)))
       (R = ((.tup [(.sl 4 []), (.agg [(i64 n13), (i64 n14)]), (i64 n11)]), [.dead]))
       (∃ w3 : W_api_Pos, (Rn 189 [(.agg [(i64 n13), (i64 n14)]), (i32 (Utf8.decode s1 pos).1)] (w3.t, [.dead, .dead])) ∧
        (L101_0 w s4 ([] : List T) n12 b3 w3.fLine w3.fCol s1 (pos + (Utf8.decode s1 pos).2) R)))) ∨
     (∃ n15 : Int, ∃ s5 : ByteArray, ∃ y1 : T, ∃ l2 : List T, ∃ n16 : Int, ∃ b4 : Bool, ∃ n17 : Int, ∃ n18 : Int, (Rn 188 [(.cbox 323 [(st s), (mnC 414 4 l), (i64 n), (tb b), (i64 n1), (i64 n2)]), (i64 ((pos : Nat) : Int)), (i32 (Utf8.decode s1 pos).1)] ((i64 n15), [(.cbox 323 [(st s5), (.cown 414 4 (y1 :: l2)), (i64 n16), (tb b4), (i64 n17), (i64 n18)]), .dead, .dead])) ∧
      (cond (!(decide ((n15 : Int) = 0)))
       (R = ((.tup [(.sl 4 []), (.agg [(i64 n17), (i64 n18)]), (i64 n15)]), [.dead]))
       (∃ w4 : W_api_Pos, (Rn 189 [(.agg [(i64 n17), (i64 n18)]), (i32 (Utf8.decode s1 pos).1)] (w4.t, [.dead, .dead])) ∧
        (L101_0 w s5 (y1 :: l2) n16 b4 w4.fLine w4.fCol s1 (pos + (Utf8.decode s1 pos).2) R)))))
    (∃ w5 : W_api_Pos, (Rn 189 [(.agg [(i64 n1), (i64 n2)]), (i32 (Utf8.decode s1 pos).1)] (w5.t, [.dead, .dead])) ∧
     (L101_0 w s l n b w5.fLine w5.fCol s1 (pos + (Utf8.decode s1 pos).2) R))))
  (R = ((.tup [(.sl 4 l), (.agg [(i64 0), (i64 0)]), (i64 0)]), [.dead]))) : L101_0 w s l n b n1 n2 s1 pos R := by
  unfold L101_0
  refine cutL_rule (ann := A101) (mv := MV) mixed (by kernel_rfl) ?_
  all_goals rcases l with _ | ⟨_, _⟩
  all_goals revert h
  all_goals refine via ?_
  all_goals kernel_rfl
set_option maxRecDepth 100000 in
theorem f101 (s : ByteArray) (R : T × List T) (h : cond (decide ((12000 : Int) < (((ByteArray.size s) : Nat) : Int)))
  (R = ((.tup [(.sl 4 []), (.agg [(i64 1), (i64 1)]), (i64 4)]), [.dead]))
  (L101_0 ⟨0, 0⟩ s ([] : List T) 0 false 1 1 s 0 R)) : Rn 101 [(st s)] R := by
  refine fn_rule (ann := A101) (mv := MV) (fz := true) mixed Tryz.func101 (c := B101) (by kernel_rfl) (by decide) ?_
  all_goals revert h
  all_goals refine via ?_
  all_goals kernel_rfl
/- tumbrel/tumbrellaw07.awake -/
noncomputable def A34 : Ann := mkAnn [(17576, (fun a => [.ex (ByteArray) fun s => .ex (Int) fun n => .done ((.tup [(st s), (i64 n)]), [.dead])]))] [] [] []
noncomputable abbrev B34 : Code := Tryz.f34.body.getD .skip
set_option maxRecDepth 100000 in
theorem f34 (R : T × List T) (h : ∃ s : ByteArray, ∃ n : Int, (Rn 35 [(.agg [(st (bs [97])), (i64 1), (i64 0), (i64 0), (.sl 4 []), (.sl 11 [(.agg [(st (bs [98])), (i64 0), (i64 0), (tb false), (tb true), (st (bs [])), (st (bs [])), (i64 0), (i64 0), (.sl 6 []), (.sl 11 [])])])])] ((.tup [(st s), (i64 n)]), [.dead])) ∧
  (cond (decide ((n : Int) = 0))
   (R = ((tb (decide (s = (bs [99, 104, 97, 114, 116, 32, 97, 32, 49, 32, 123, 10, 9, 115, 116, 97, 116, 101, 32, 98, 32, 123, 10, 9, 9, 101, 110, 100, 10, 9, 125, 10, 125, 10])))), []))
   (R = ((tb false), [])))) : Rn 34 [] R := by
  refine fn_rule (ann := A34) (mv := MV) (fz := true) mixed Tryz.func34 (c := B34) (by kernel_rfl) (by decide) ?_
  all_goals revert h
  all_goals refine via ?_
  all_goals kernel_rfl
/- tumbrel/tumbrelref06.Small -/
noncomputable def A25 : Ann := mkAnn [(18216, (fun a => [.ex (Int) fun n => .done ((i64 n), [.dead, .dead, .dead])]))] [] [] []
noncomputable abbrev B25 : Code := Tryz.f25.body.getD .skip
set_option maxRecDepth 100000 in
theorem f25 (w : W_tumbrelref06_Chart) (R : T × List T) (h : cond (decide (((((List.length w.fVars) : Nat) : Int) : Int) ≤ 200))
  (cond (decide (((((ByteArray.size w.fName) : Nat) : Int) : Int) ≤ 1000))
   (∃ n : Int, (Rn 74 [(.sl 11 w.fStates), (i64 0), (i64 400)] ((i64 n), [.dead, .dead, .dead])) ∧
    (R = ((tb (decide ((0 : Int) ≤ n))), [.dead])))
   (R = ((tb false), [.dead])))
  (R = ((tb false), [.dead]))) : Rn 25 [w.t] R := by
  refine fn_rule (ann := A25) (mv := MV) (fz := true) mixed Tryz.func25 (c := B25) (by kernel_rfl) (by decide) ?_
  all_goals revert h
  all_goals refine via ?_
  all_goals kernel_rfl
/- tumbrel/tumbrellaw06.Theirs -/
noncomputable def A16 : Ann := mkAnn [(17896, (fun a => [.ex (List T) fun l => .done ((.sl 11 l), [.dead])]))] [(83240, [.ex W_tumbrelref06_Var fun w => .done w.t])] [] [(116, [1, 2, 3, 17, 18])]
noncomputable abbrev B16 : Code := Tryz.f16.body.getD .skip
def L16_0 (n : Int) (n1 : Int) (w : W_tumbrelref06_Chart) (s : ByteArray) (n2 : Int) (n3 : Int) (n4 : Int) (s1 : ByteArray) (n5 : Int) (n6 : Int) (n7 : Int) (l : List T) (l1 : List T) (R : T × List T) : Prop := CutL Tryz.prog Tryz.f16 B16 true [1, 1, 0, 1, 0, 0] (mkSt 33 [(1, (.ptr (1000000002, 0) 0)), (2, (.ptr (1000000003, 0) 0)), (3, (.ptr (1000000004, 0) 0)), (17, (i64 n)), (18, (i64 n1))] (([((1000000002, 0), .box 27 [(st w.fName), (i64 w.fVersion), (i64 w.fAt_Line), (i64 w.fAt_Col), (.sl 4 w.fVars), (.sl 11 w.fStates)]), ((1000000003, 0), .box 41 [(st s), (i64 n2), (i64 n3), (i64 n4), nilS, nilS]), ((1000000004, 0), .box 41 [(st s1), (i64 n5), (i64 n6), (i64 n7), (mnT (1000000517, 0) l), (.sl 11 l1)])] ++ mnH (1000000517, 0) 147 4 l))) [.dead] R
set_option maxRecDepth 100000 in
theorem l16_0 (n : Int) (n1 : Int) (w : W_tumbrelref06_Chart) (s : ByteArray) (n2 : Int) (n3 : Int) (n4 : Int) (s1 : ByteArray) (n5 : Int) (n6 : Int) (n7 : Int) (l : List T) (l1 : List T) (R : T × List T) (h : cond (decide ((n1 : Int) < n))
  (∃ w1 : W_tumbrelref06_Var, ((0 : Int) ≤ n1 ∧ w.fVars[(Int.toNat n1)]? = some w1.t) ∧
   (chk (Nat.ble (((List.length l) + 1) * 40) 140737488355328)
    (L16_0 n (IntKind.wrap .i64 (n1 + 1)) w s n2 n3 n4 s1 n5 n6 n7 (l ++ [w1.t]) l1 R)))
  (R = ((.agg [(st s1), (i64 n5), (i64 n6), (i64 n7), (.sl 4 l), (.sl 11 l1)]), [.dead]))) : L16_0 n n1 w s n2 n3 n4 s1 n5 n6 n7 l l1 R := by
  unfold L16_0
  refine cutL_rule (ann := A16) (mv := MV) mixed (by kernel_rfl) ?_
  all_goals rcases l with _ | ⟨_, _⟩
  all_goals revert h
  all_goals refine via ?_
  all_goals kernel_rfl
set_option maxRecDepth 100000 in
theorem f16 (w : W_tumbrelref06_Chart) (R : T × List T) (h : ∃ l : List T, (Rn 59 [(.sl 11 w.fStates)] ((.sl 11 l), [.dead])) ∧
  (L16_0 (((List.length w.fVars) : Nat) : Int) 0 w (bs []) 0 0 0 w.fName w.fVersion w.fAt_Line w.fAt_Col ([] : List T) l R)) : Rn 16 [w.t] R := by
  refine fn_rule (ann := A16) (mv := MV) (fz := true) mixed Tryz.func16 (c := B16) (by kernel_rfl) (by decide) ?_
  all_goals revert h
  all_goals refine via ?_
  all_goals kernel_rfl
/- tumbrel/tumbrelref06.Clean -/
noncomputable def A18 : Ann := mkAnn [(17512, (fun a => [.ex (List T) fun l => .done ((.sl 11 l), [.dead])]))] [] [] []
noncomputable abbrev B18 : Code := Tryz.f18.body.getD .skip
set_option maxRecDepth 100000 in
theorem f18 (w : W_tumbrelref06_Chart) (R : T × List T) (h : ∃ l : List T, (Rn 63 [(.sl 11 w.fStates)] ((.sl 11 l), [.dead])) ∧
  (R = ((.agg [(st w.fName), (i64 w.fVersion), (i64 w.fAt_Line), (i64 w.fAt_Col), (.sl 4 w.fVars), (.sl 11 l)]), [.dead]))) : Rn 18 [w.t] R := by
  refine fn_rule (ann := A18) (mv := MV) (fz := true) mixed Tryz.func18 (c := B18) (by kernel_rfl) (by decide) ?_
  all_goals revert h
  all_goals refine via ?_
  all_goals kernel_rfl
/- tumbrel/tumbrelref06.Print -/
noncomputable def A36 : Ann := mkAnn [(17448, (fun a => [.ex (Bool) fun b => .done ((tb b), [.dead])])), (50536, (fun a => [.ex (ByteArray) fun s => .done ((st s), [.dead])])), (116712, (fun a => [.ex (ByteArray) fun s => .done ((st s), [.dead, .dead])])), (197992, (fun a => [.ex (ByteArray) fun s => .done ((st s), [.dead, .dead])])), (246824, (fun a => [.ex (List T) fun l => .ex (W_api_Pos) fun w => .ex (Int) fun n => .done ((.tup [(.sl 4 l), w.t, (i64 n)]), [.dead])]))] [(116008, [.ex W_tumbrelref06_Var fun w => .done w.t]), (116520, [.ex W_tumbrelref06_Var fun w => .done w.t]), (197864, [.ex W_tumbrelref06_State fun w => .done w.t])] [] [(244, [1, 4, 24, 25]), (500, [1, 4, 50, 51])]
noncomputable abbrev B36 : Code := Tryz.f36.body.getD .skip
def L36_0 (s : ByteArray) (n : Int) (n1 : Int) (w : W_tumbrelref06_Chart) (R : T × List T) : Prop := CutL Tryz.prog Tryz.f36 B36 true [1, 1, 1, 0, 1, 0, 0] (mkSt 74 [(1, (.ptr (1000000002, 0) 0)), (4, (st s)), (24, (i64 n)), (25, (i64 n1))] [((1000000002, 0), .box 27 [(st w.fName), (i64 w.fVersion), (i64 w.fAt_Line), (i64 w.fAt_Col), (.sl 4 w.fVars), (.sl 11 w.fStates)])]) [.dead] R
def L36_1 (s : ByteArray) (n : Int) (n1 : Int) (w : W_tumbrelref06_Chart) (R : T × List T) : Prop := CutL Tryz.prog Tryz.f36 B36 true [1, 1, 1, 1, 0, 1, 0, 0] (mkSt 74 [(1, (.ptr (1000000002, 0) 0)), (4, (st s)), (50, (i64 n)), (51, (i64 n1))] [((1000000002, 0), .box 27 [(st w.fName), (i64 w.fVersion), (i64 w.fAt_Line), (i64 w.fAt_Col), (.sl 4 w.fVars), (.sl 11 w.fStates)])]) [.dead] R
set_option maxRecDepth 100000 in
theorem l36_0 (s : ByteArray) (n : Int) (n1 : Int) (w : W_tumbrelref06_Chart) (R : T × List T) (h : cond (decide ((n1 : Int) < n))
  ((((ByteArray.size s + ByteArray.size (bs [9, 118, 97, 114, 32]) : Nat) : Int) ≤ 9223372036854775807) ∧
   (∃ w1 : W_tumbrelref06_Var, ((0 : Int) ≤ n1 ∧ w.fVars[(Int.toNat n1)]? = some w1.t) ∧
    ((((ByteArray.size (s ++ (bs [9, 118, 97, 114, 32])) + ByteArray.size w1.fName : Nat) : Int) ≤ 9223372036854775807) ∧
     ((((ByteArray.size ((s ++ (bs [9, 118, 97, 114, 32])) ++ w1.fName) + ByteArray.size (bs [32, 61, 32]) : Nat) : Int) ≤ 9223372036854775807) ∧
      (∃ w2 : W_tumbrelref06_Var, ((0 : Int) ≤ n1 ∧ w.fVars[(Int.toNat n1)]? = some w2.t) ∧
       (∃ s1 : ByteArray, (Rn 98 [(i64 w2.fN), (i64 10)] ((st s1), [.dead, .dead])) ∧
        ((((ByteArray.size (((s ++ (bs [9, 118, 97, 114, 32])) ++ w1.fName) ++ (bs [32, 61, 32])) + ByteArray.size s1 : Nat) : Int) ≤ 9223372036854775807) ∧
         ((((ByteArray.size ((((s ++ (bs [9, 118, 97, 114, 32])) ++ w1.fName) ++ (bs [32, 61, 32])) ++ s1) + ByteArray.size (bs [10]) : Nat) : Int) ≤ 9223372036854775807) ∧
          (L36_0 ((((((s ++ (bs [9, 118, 97, 114, 32])) ++ w1.fName) ++ (bs [32, 61, 32])) ++ s1) ++ (bs [10]))) n (IntKind.wrap .i64 (n1 + 1)) w R)))))))))
  (L36_1 s (((List.length w.fStates) : Nat) : Int) 0 w R)) : L36_0 s n n1 w R := by
  unfold L36_0
  refine cutL_rule (ann := A36) (mv := MV) mixed (by kernel_rfl) ?_
  all_goals revert h
  all_goals refine via ?_
  all_goals kernel_rfl
set_option maxRecDepth 100000 in
theorem l36_1 (s : ByteArray) (n : Int) (n1 : Int) (w : W_tumbrelref06_Chart) (R : T × List T) (h : cond (decide ((n1 : Int) < n))
  (∃ w1 : W_tumbrelref06_State, ((0 : Int) ≤ n1 ∧ w.fStates[(Int.toNat n1)]? = some w1.t) ∧
   (∃ s1 : ByteArray, (Rn 102 [w1.t, (st (bs [9]))] ((st s1), [.dead, .dead])) ∧
    ((((ByteArray.size s + ByteArray.size s1 : Nat) : Int) ≤ 9223372036854775807) ∧
     (L36_1 (s ++ s1) n (IntKind.wrap .i64 (n1 + 1)) w R))))
  ((((ByteArray.size s + ByteArray.size (bs [125, 10]) : Nat) : Int) ≤ 9223372036854775807) ∧
   (∃ l : List T, ∃ w2 : W_api_Pos, ∃ n2 : Int, (Rn 103 [(st (s ++ (bs [125, 10])))] ((.tup [(.sl 4 l), w2.t, (i64 n2)]), [.dead])) ∧
    (cond (!(decide ((n2 : Int) = 0)))
     (R = ((.tup [(st (bs [])), (i64 4)]), [.dead]))
     (R = ((.tup [(st (s ++ (bs [125, 10]))), (i64 0)]), [.dead])))))) : L36_1 s n n1 w R := by
  unfold L36_1
  refine cutL_rule (ann := A36) (mv := MV) mixed (by kernel_rfl) ?_
  all_goals revert h
  all_goals refine via ?_
  all_goals kernel_rfl
set_option maxRecDepth 100000 in
theorem f36 (w : W_tumbrelref06_Chart) (R : T × List T) (h : ∃ b : Bool, (Rn 38 [w.t] ((tb b), [.dead])) ∧
  (cond (!b)
   (R = ((.tup [(st (bs [])), (i64 1)]), [.dead]))
   ((((ByteArray.size (bs [99, 104, 97, 114, 116, 32]) + ByteArray.size w.fName : Nat) : Int) ≤ 9223372036854775807) ∧
    ((((ByteArray.size ((bs [99, 104, 97, 114, 116, 32]) ++ w.fName) + ByteArray.size (bs [32]) : Nat) : Int) ≤ 9223372036854775807) ∧
     (∃ s : ByteArray, (Rn 97 [(i64 w.fVersion)] ((st s), [.dead])) ∧
      ((((ByteArray.size (((bs [99, 104, 97, 114, 116, 32]) ++ w.fName) ++ (bs [32])) + ByteArray.size s : Nat) : Int) ≤ 9223372036854775807) ∧
       ((((ByteArray.size ((((bs [99, 104, 97, 114, 116, 32]) ++ w.fName) ++ (bs [32])) ++ s) + ByteArray.size (bs [32, 123, 10]) : Nat) : Int) ≤ 9223372036854775807) ∧
        (L36_0 ((((((bs [99, 104, 97, 114, 116, 32]) ++ w.fName) ++ (bs [32])) ++ s) ++ (bs [32, 123, 10]))) (((List.length w.fVars) : Nat) : Int) 0 w R)))))))) : Rn 36 [w.t] R := by
  refine fn_rule (ann := A36) (mv := MV) (fz := true) mixed Tryz.func36 (c := B36) (by kernel_rfl) (by decide) ?_
  all_goals revert h
  all_goals refine via ?_
  all_goals kernel_rfl
/- tumbrel/show.Formed -/
noncomputable def A37 : Ann := mkAnn [(17576, (fun a => [.ex (Bool) fun b => .done ((tb b), [.dead])])), (17832, (fun a => [.ex (Bool) fun b => .done ((tb b), [.dead])])), (18152, (fun a => [.ex (Bool) fun b => .done ((tb b), [.dead, .dead])])), (18536, (fun a => [.ex (Bool) fun b => .done ((tb b), [.dead, .dead])]))] [] [] []
noncomputable abbrev B37 : Code := Tryz.f37.body.getD .skip
set_option maxRecDepth 100000 in
theorem f37 (w : W_chart_Chart) (R : T × List T) (h : ∃ b : Bool, (Rn 104 [(.sl 1 [(st w.fName)])] ((tb b), [.dead])) ∧
  (cond b
   (∃ b1 : Bool, (Rn 105 [(i64 w.fVersion)] ((tb b1), [.dead])) ∧
    (cond b1
     (∃ b2 : Bool, (Rn 106 [(.sl 4 w.fVars), (.s (.func (.func 107) #[] #[]))] ((tb b2), [.dead, .dead])) ∧
      (cond (!b2)
       (∃ b3 : Bool, (Rn 108 [(.sl 11 w.fStates), (.s (.func (.func 109) #[] #[]))] ((tb b3), [.dead, .dead])) ∧
        (R = ((tb (!b3)), [.dead])))
       (R = ((tb false), [.dead]))))
     (R = ((tb false), [.dead]))))
   (R = ((tb false), [.dead])))) : Rn 37 [w.t] R := by
  refine fn_rule (ann := A37) (mv := MV) (fz := true) mixed Tryz.func37 (c := B37) (by kernel_rfl) (by decide) ?_
  all_goals revert h
  all_goals refine via ?_
  all_goals kernel_rfl
/- tumbrel/tumbrelref06.Formed -/
noncomputable def A38 : Ann := mkAnn [(17512, (fun a => [.ex (Bool) fun b => .done ((tb b), [.dead])])), (17832, (fun a => [.ex (Bool) fun b => .done ((tb b), [.dead])])), (99688, (fun a => [.ex (Bool) fun b => .done ((tb b), [.dead])])), (197928, (fun a => [.ex (Bool) fun b => .done ((tb b), [.dead, .dead])]))] [(99496, [.ex W_tumbrelref06_Var fun w => .done w.t]), (100072, [.ex W_tumbrelref06_Var fun w => .done w.t]), (100648, [.ex W_tumbrelref06_Var fun w => .done w.t]), (197800, [.ex W_tumbrelref06_State fun w => .done w.t])] [] [(116, [1, 17, 18]), (244, [1, 50, 51])]
noncomputable abbrev B38 : Code := Tryz.f38.body.getD .skip
def L38_0 (n : Int) (n1 : Int) (w : W_tumbrelref06_Chart) (R : T × List T) : Prop := CutL Tryz.prog Tryz.f38 B38 true [1, 1, 0, 1, 0, 0] (mkSt 62 [(1, (.ptr (1000000002, 0) 0)), (17, (i64 n)), (18, (i64 n1))] [((1000000002, 0), .box 27 [(st w.fName), (i64 w.fVersion), (i64 w.fAt_Line), (i64 w.fAt_Col), (.sl 4 w.fVars), (.sl 11 w.fStates)])]) [.dead] R
def L38_1 (n : Int) (n1 : Int) (w : W_tumbrelref06_Chart) (R : T × List T) : Prop := CutL Tryz.prog Tryz.f38 B38 true [1, 1, 1, 0, 1, 0, 0] (mkSt 62 [(1, (.ptr (1000000002, 0) 0)), (50, (i64 n)), (51, (i64 n1))] [((1000000002, 0), .box 27 [(st w.fName), (i64 w.fVersion), (i64 w.fAt_Line), (i64 w.fAt_Col), (.sl 4 w.fVars), (.sl 11 w.fStates)])]) [.dead] R
set_option maxRecDepth 100000 in
theorem l38_0 (n : Int) (n1 : Int) (w : W_tumbrelref06_Chart) (R : T × List T) (h : cond (decide ((n1 : Int) < n))
  (∃ w1 : W_tumbrelref06_Var, ((0 : Int) ≤ n1 ∧ w.fVars[(Int.toNat n1)]? = some w1.t) ∧
   (∃ b : Bool, (Rn 111 [(st w1.fName)] ((tb b), [.dead])) ∧
    (cond (!b)
     (R = ((tb false), [.dead]))
     (∃ w2 : W_tumbrelref06_Var, ((0 : Int) ≤ n1 ∧ w.fVars[(Int.toNat n1)]? = some w2.t) ∧
      (cond (decide ((w2.fN : Int) < (-1000000000)))
       (R = ((tb false), [.dead]))
       (∃ w3 : W_tumbrelref06_Var, ((0 : Int) ≤ n1 ∧ w.fVars[(Int.toNat n1)]? = some w3.t) ∧
        (cond (decide ((1000000000 : Int) < w3.fN))
         (R = ((tb false), [.dead]))
         (L38_0 n (IntKind.wrap .i64 (n1 + 1)) w R))))))))
  (L38_1 (((List.length w.fStates) : Nat) : Int) 0 w R)) : L38_0 n n1 w R := by
  unfold L38_0
  refine cutL_rule (ann := A38) (mv := MV) mixed (by kernel_rfl) ?_
  all_goals revert h
  all_goals refine via ?_
  all_goals kernel_rfl
set_option maxRecDepth 100000 in
theorem l38_1 (n : Int) (n1 : Int) (w : W_tumbrelref06_Chart) (R : T × List T) (h : cond (decide ((n1 : Int) < n))
  (∃ w1 : W_tumbrelref06_State, ((0 : Int) ≤ n1 ∧ w.fStates[(Int.toNat n1)]? = some w1.t) ∧
   (∃ b : Bool, (Rn 113 [w1.t, (i64 1)] ((tb b), [.dead, .dead])) ∧
    (cond (!b)
     (R = ((tb false), [.dead]))
     (L38_1 n (IntKind.wrap .i64 (n1 + 1)) w R))))
  (R = ((tb true), [.dead]))) : L38_1 n n1 w R := by
  unfold L38_1
  refine cutL_rule (ann := A38) (mv := MV) mixed (by kernel_rfl) ?_
  all_goals revert h
  all_goals refine via ?_
  all_goals kernel_rfl
set_option maxRecDepth 100000 in
theorem f38 (w : W_tumbrelref06_Chart) (R : T × List T) (h : ∃ b : Bool, (Rn 111 [(st w.fName)] ((tb b), [.dead])) ∧
  (cond (!b)
   (R = ((tb false), [.dead]))
   (∃ b1 : Bool, (Rn 112 [(i64 w.fVersion)] ((tb b1), [.dead])) ∧
    (cond (!b1)
     (R = ((tb false), [.dead]))
     (L38_0 (((List.length w.fVars) : Nat) : Int) 0 w R))))) : Rn 38 [w.t] R := by
  refine fn_rule (ann := A38) (mv := MV) (fz := true) mixed Tryz.func38 (c := B38) (by kernel_rfl) (by decide) ?_
  all_goals revert h
  all_goals refine via ?_
  all_goals kernel_rfl
/- (*tumbrel/glyph.lexer).rune -/
noncomputable def A188 : Ann := mkAnn [(99496, (fun a => [.ex (W_glyph_Word) fun w => .ex (Bool) fun b => .done ((.tup [w.t, (tb b)]), [(a.getD 0 .dead), .dead, .dead])]))] [] [] []
noncomputable abbrev B188 : Code := Tryz.f188.body.getD .skip
set_option maxRecDepth 100000 in
theorem f188 (s : ByteArray) (l : List T) (n : Int) (b : Bool) (n1 : Int) (n2 : Int) (i : Int) (n3 : Int) (R : T × List T) (h : cond (decide ((i : Int) < n))
  (R = ((i64 0), [(.cbox 323 [(st s), (mnC 414 4 l), (i64 n), (tb b), (i64 n1), (i64 n2)]), .dead, .dead]))
  (cond (decide ((n3 : Int) = 32))
   (R = ((i64 0), [(.cbox 323 [(st s), (mnC 414 4 l), (i64 n), (tb b), (i64 n1), (i64 n2)]), .dead, .dead]))
   (cond (decide ((n3 : Int) = 9))
    (R = ((i64 0), [(.cbox 323 [(st s), (mnC 414 4 l), (i64 n), (tb b), (i64 n1), (i64 n2)]), .dead, .dead]))
    (cond (decide ((n3 : Int) = 10))
     (R = ((i64 0), [(.cbox 323 [(st s), (mnC 414 4 l), (i64 n), (tb b), (i64 n1), (i64 n2)]), .dead, .dead]))
     (cond (decide ((n3 : Int) = 35))
      (R = ((i64 0), [(.cbox 323 [(st s), (mnC 414 4 l), (i64 n), (tb true), (i64 n1), (i64 n2)]), .dead, .dead]))
      (∃ w : W_glyph_Word, ∃ b1 : Bool, (Rn 270 [(.cbox 323 [(st s), (mnC 414 4 l), (i64 n), (tb b), (i64 n1), (i64 n2)]), (i64 i), (i32 n3)] ((.tup [w.t, (tb b1)]), [(.cbox 323 [(st s), (mnC 414 4 l), (i64 n), (tb b), (i64 n1), (i64 n2)]), .dead, .dead])) ∧
       (cond (!b1)
        (R = ((i64 11), [(.cbox 323 [(st s), (mnC 414 4 l), (i64 n), (tb b), (i64 n1), (i64 n2)]), .dead, .dead]))
        (cond (decide (((((List.length l) : Nat) : Int) : Int) = 3000))
         (R = ((i64 4), [(.cbox 323 [(st s), (mnC 414 4 l), (i64 n), (tb b), (i64 n1), (i64 n2)]), .dead, .dead]))
         (chk (Nat.ble (((List.length l) + 1) * 40) 140737488355328)
          (R = ((i64 0), [(.cbox 323 [(st s), (.cown 414 4 (l ++ [w.t])), (i64 (IntKind.wrap .i64 (i + (((ByteArray.size w.fText) : Nat) : Int)))), (tb b), (i64 n1), (i64 n2)]), .dead, .dead]))))))))))) : Rn 188 [(.cbox 323 [(st s), (mnC 414 4 l), (i64 n), (tb b), (i64 n1), (i64 n2)]), (i64 i), (i32 n3)] R := by
  refine fn_rule (ann := A188) (mv := MV) (fz := true) mixed Tryz.func188 (c := B188) (by kernel_rfl) (by decide) ?_
  all_goals rcases l with _ | ⟨_, _⟩
  all_goals revert h
  all_goals refine via ?_
  all_goals kernel_rfl
/- tumbrel/glyph.behind -/
noncomputable def A189 : Ann := mkAnn [] [] [] []
noncomputable abbrev B189 : Code := Tryz.f189.body.getD .skip
set_option maxRecDepth 100000 in
theorem f189 (at_ : W_api_Pos) (n : Int) (R : T × List T) (h : cond (decide ((n : Int) = 10))
  (R = ((.agg [(i64 (IntKind.wrap .i64 (at_.fLine + 1))), (i64 1)]), [.dead, .dead]))
  (R = ((.agg [(i64 at_.fLine), (i64 (IntKind.wrap .i64 (at_.fCol + 1)))]), [.dead, .dead]))) : Rn 189 [at_.t, (i32 n)] R := by
  refine fn_rule (ann := A189) (mv := MV) (fz := true) mixed Tryz.func189 (c := B189) (by kernel_rfl) (by decide) ?_
  all_goals revert h
  all_goals refine via ?_
  all_goals kernel_rfl
/- tumbrel/tumbrelref06.small -/
noncomputable def A74 : Ann := mkAnn [(230696, (fun a => [.ex (Bool) fun b => .done ((tb b), [.dead])])), (312680, (fun a => [.ex (Bool) fun b => .done ((tb b), [.dead])])), (378344, (fun a => [.ex (Int) fun n => .done ((i64 n), [.dead, .dead, .dead])]))] [(99560, [.ex W_tumbrelref06_State fun w => .done w.t]), (100008, [.ex W_tumbrelref06_State fun w => .done w.t]), (100520, [.ex W_tumbrelref06_State fun w => .done w.t]), (101032, [.ex W_tumbrelref06_State fun w => .done w.t]), (148584, [.ex W_tumbrelref06_State fun w => .done w.t]), (197736, [.ex W_tumbrelref06_State fun w => .done w.t]), (197992, [.ex W_tumbrelref06_On fun w => .done w.t]), (312488, [.ex W_tumbrelref06_Set fun w => .done w.t]), (313064, [.ex W_tumbrelref06_Set fun w => .done w.t]), (377960, [.ex W_tumbrelref06_State fun w => .done w.t])] [] [(116, [0, 1, 2, 14, 15]), (239220, [0, 1, 2, 7, 14, 15, 58, 59]), (489924220, [0, 1, 2, 7, 9, 14, 15, 58, 59, 88, 89, 90, 91, 95, 96])]
noncomputable abbrev B74 : Code := Tryz.f74.body.getD .skip
def L74_0 (l : List T) (depth : Int) (left : Int) (n : Int) (n1 : Int) (R : T × List T) : Prop := CutL Tryz.prog Tryz.f74 B74 true [1, 1, 0, 1, 0, 0] (mkSt 132 [(0, (.sl 11 l)), (1, (i64 depth)), (2, (i64 left)), (14, (i64 n)), (15, (i64 n1))] []) [.dead, .dead, .dead] R
def L74_1 (l : List T) (depth : Int) (left : Int) (i : Int) (n : Int) (n1 : Int) (n2 : Int) (n3 : Int) (R : T × List T) : Prop := CutL Tryz.prog Tryz.f74 B74 true [1, 1, 0, 1, 0, 0, 1, 1, 0, 0, 1, 1, 1, 0, 1, 0, 0] (mkSt 132 [(0, (.sl 11 l)), (1, (i64 depth)), (2, (i64 left)), (7, (i64 i)), (14, (i64 n)), (15, (i64 n1)), (58, (i64 n2)), (59, (i64 n3))] []) [.dead, .dead, .dead] R
def L74_2 (l : List T) (depth : Int) (left : Int) (i : Int) (n : Int) (n1 : Int) (n2 : Int) (n3 : Int) (n4 : Int) (n5 : Int) (s : ByteArray) (l1 : List T) (b : Bool) (b1 : Bool) (n6 : Int) (n7 : Int) (w : W_tumbrelref06_On) (R : T × List T) : Prop := CutL Tryz.prog Tryz.f74 B74 true [1, 1, 0, 1, 0, 0, 1, 1, 0, 0, 1, 1, 1, 0, 1, 0, 0, 1, 1, 0, 0, 1, 1, 1, 1, 1, 0, 0] (mkSt 132 [(0, (.sl 11 l)), (1, (i64 depth)), (2, (i64 left)), (7, (i64 i)), (9, (.ptr (1000000010, 0) 0)), (14, (i64 n)), (15, (i64 n1)), (58, (i64 n2)), (59, (i64 n3)), (88, (.ptr (1000000010, 0) 2)), (89, (.agg [(i64 n4), (i64 n5), (st s), (.sl 4 l1)])), (90, (tb b)), (91, (tb b1)), (95, (i64 n6)), (96, (i64 n7))] [((1000000010, 0), .box 75 [(st w.fEvent), (tb w.fHas), (i64 w.fGuard_Kind), (i64 w.fGuard_N), (st w.fGuard_S), (.sl 4 w.fGuard_Parts), (st w.fTarget), (.sl 5 w.fSets), (i64 w.fAt_Line), (i64 w.fAt_Col)])]) [.dead, .dead, .dead] R
set_option maxRecDepth 100000 in
theorem l74_0 (l : List T) (depth : Int) (left : Int) (n : Int) (n1 : Int) (R : T × List T) (h : cond (decide ((n1 : Int) < n))
  (∃ w : W_tumbrelref06_State, ((0 : Int) ≤ n1 ∧ l[(Int.toNat n1)]? = some w.t) ∧
   (∃ w1 : W_tumbrelref06_State, ((0 : Int) ≤ n1 ∧ l[(Int.toNat n1)]? = some w1.t) ∧
    (∃ w2 : W_tumbrelref06_State, ((0 : Int) ≤ n1 ∧ l[(Int.toNat n1)]? = some w2.t) ∧
     (∃ w3 : W_tumbrelref06_State, ((0 : Int) ≤ n1 ∧ l[(Int.toNat n1)]? = some w3.t) ∧
      (cond (decide (((IntKind.wrap .i64 ((IntKind.wrap .i64 ((IntKind.wrap .i64 ((IntKind.wrap .i64 ((IntKind.wrap .i64 (left - 1)) - (((List.length w.fOns) : Nat) : Int))) - (IntKind.wrap .i64 (Int.tdiv (((ByteArray.size w1.fName) : Nat) : Int) 50)))) - (IntKind.wrap .i64 (Int.tdiv (((ByteArray.size w2.fDo) : Nat) : Int) 50)))) - (IntKind.wrap .i64 (Int.tdiv (((ByteArray.size w3.fUndo) : Nat) : Int) 50)))) : Int) < 0))
       (R = ((i64 (-1)), [.dead, .dead, .dead]))
       (∃ w4 : W_tumbrelref06_State, ((0 : Int) ≤ n1 ∧ l[(Int.toNat n1)]? = some w4.t) ∧
        (L74_1 l depth ((IntKind.wrap .i64 ((IntKind.wrap .i64 ((IntKind.wrap .i64 ((IntKind.wrap .i64 ((IntKind.wrap .i64 (left - 1)) - (((List.length w.fOns) : Nat) : Int))) - (IntKind.wrap .i64 (Int.tdiv (((ByteArray.size w1.fName) : Nat) : Int) 50)))) - (IntKind.wrap .i64 (Int.tdiv (((ByteArray.size w2.fDo) : Nat) : Int) 50)))) - (IntKind.wrap .i64 (Int.tdiv (((ByteArray.size w3.fUndo) : Nat) : Int) 50))))) n1 n n1 (((List.length w4.fOns) : Nat) : Int) 0 R)))))))
  (R = ((i64 left), [.dead, .dead, .dead]))) : L74_0 l depth left n n1 R := by
  unfold L74_0
  refine cutL_rule (ann := A74) (mv := MV) mixed (by kernel_rfl) ?_
  all_goals revert h
  all_goals refine via ?_
  all_goals kernel_rfl
set_option maxRecDepth 100000 in
theorem l74_1 (l : List T) (depth : Int) (left : Int) (i : Int) (n : Int) (n1 : Int) (n2 : Int) (n3 : Int) (R : T × List T) (h : cond (decide ((n3 : Int) < n2))
  (∃ w : W_tumbrelref06_State, ((0 : Int) ≤ i ∧ l[(Int.toNat i)]? = some w.t) ∧
   (∃ w1 : W_tumbrelref06_On, ((0 : Int) ≤ n3 ∧ w.fOns[(Int.toNat n3)]? = some w1.t) ∧
    (cond (decide (((IntKind.wrap .i64 ((IntKind.wrap .i64 ((IntKind.wrap .i64 (left - (((List.length w1.fSets) : Nat) : Int))) - (IntKind.wrap .i64 (Int.tdiv (((ByteArray.size w1.fEvent) : Nat) : Int) 50)))) - (IntKind.wrap .i64 (Int.tdiv (((ByteArray.size w1.fTarget) : Nat) : Int) 50)))) : Int) < 0))
     (R = ((i64 (-1)), [.dead, .dead, .dead]))
     (∃ b : Bool, (Rn 171 [(.agg [(i64 w1.fGuard_Kind), (i64 w1.fGuard_N), (st w1.fGuard_S), (.sl 4 w1.fGuard_Parts)])] ((tb b), [.dead])) ∧
      (cond (!b)
       (R = ((i64 (-1)), [.dead, .dead, .dead]))
       (L74_2 l depth ((IntKind.wrap .i64 ((IntKind.wrap .i64 ((IntKind.wrap .i64 (left - (((List.length w1.fSets) : Nat) : Int))) - (IntKind.wrap .i64 (Int.tdiv (((ByteArray.size w1.fEvent) : Nat) : Int) 50)))) - (IntKind.wrap .i64 (Int.tdiv (((ByteArray.size w1.fTarget) : Nat) : Int) 50))))) i n n1 n2 n3 w1.fGuard_Kind w1.fGuard_N w1.fGuard_S w1.fGuard_Parts b (!b) (((List.length w1.fSets) : Nat) : Int) 0 w1 R))))))
  (∃ w2 : W_tumbrelref06_State, ((0 : Int) ≤ i ∧ l[(Int.toNat i)]? = some w2.t) ∧
   (∃ n4 : Int, (Rn 74 [(.sl 11 w2.fInner), (i64 (IntKind.wrap .i64 (depth + 1))), (i64 left)] ((i64 n4), [.dead, .dead, .dead])) ∧
    (cond (decide ((n4 : Int) < 0))
     (R = ((i64 (-1)), [.dead, .dead, .dead]))
     (L74_0 l depth n4 n (IntKind.wrap .i64 (n1 + 1)) R))))) : L74_1 l depth left i n n1 n2 n3 R := by
  unfold L74_1
  refine cutL_rule (ann := A74) (mv := MV) mixed (by kernel_rfl) ?_
  all_goals revert h
  all_goals refine via ?_
  all_goals kernel_rfl
set_option maxRecDepth 100000 in
theorem l74_2 (l : List T) (depth : Int) (left : Int) (i : Int) (n : Int) (n1 : Int) (n2 : Int) (n3 : Int) (n4 : Int) (n5 : Int) (s : ByteArray) (l1 : List T) (b : Bool) (b1 : Bool) (n6 : Int) (n7 : Int) (w : W_tumbrelref06_On) (R : T × List T) (h : cond (decide ((n7 : Int) < n6))
  (∃ w1 : W_tumbrelref06_Set, ((0 : Int) ≤ n7 ∧ w.fSets[(Int.toNat n7)]? = some w1.t) ∧
   (∃ b2 : Bool, (Rn 171 [(.agg [(i64 w1.fTo_Kind), (i64 w1.fTo_N), (st w1.fTo_S), (.sl 4 w1.fTo_Parts)])] ((tb b2), [.dead])) ∧
    (cond (!b2)
     (R = ((i64 (-1)), [.dead, .dead, .dead]))
     (∃ w2 : W_tumbrelref06_Set, ((0 : Int) ≤ n7 ∧ w.fSets[(Int.toNat n7)]? = some w2.t) ∧
      (cond (decide ((1000 : Int) < (((ByteArray.size w2.fName) : Nat) : Int)))
       (R = ((i64 (-1)), [.dead, .dead, .dead]))
       (L74_2 l depth left i n n1 n2 n3 n4 n5 s l1 b b1 n6 (IntKind.wrap .i64 (n7 + 1)) w R))))))
  (L74_1 l depth left i n n1 n2 (IntKind.wrap .i64 (n3 + 1)) R)) : L74_2 l depth left i n n1 n2 n3 n4 n5 s l1 b b1 n6 n7 w R := by
  unfold L74_2
  refine cutL_rule (ann := A74) (mv := MV) mixed (by kernel_rfl) ?_
  all_goals revert h
  all_goals refine via ?_
  all_goals kernel_rfl
set_option maxRecDepth 100000 in
theorem f74 (l : List T) (depth : Int) (left : Int) (R : T × List T) (h : cond (decide ((15 : Int) < depth))
  (R = ((i64 (-1)), [.dead, .dead, .dead]))
  (L74_0 l depth left (((List.length l) : Nat) : Int) 0 R)) : Rn 74 [(.sl 11 l), (i64 depth), (i64 left)] R := by
  refine fn_rule (ann := A74) (mv := MV) (fz := true) mixed Tryz.func74 (c := B74) (by kernel_rfl) (by decide) ?_
  all_goals revert h
  all_goals refine via ?_
  all_goals kernel_rfl
/- tumbrel/tumbrellaw06.theirStates -/
noncomputable def A59 : Ann := mkAnn [(100456, (fun a => [.ex (List T) fun l => .done ((.sl 11 l), [.dead])])), (197992, (fun a => [.ex (IfV) fun e => .done (e.v, [.dead])])), (264552, (fun a => [.ex (IfV) fun e => .done (e.v, [.dead])]))] [(83048, [.ex W_tumbrelref06_State fun w => .done w.t]), (165032, [.ex W_tumbrelref06_On fun w => .done w.t]), (165416, [.ex W_tumbrelref06_On fun w => .done w.t]), (165800, [.ex W_tumbrelref06_On fun w => .done w.t]), (181416, [.ex W_tumbrelref06_On fun w => .done w.t]), (197800, [.ex W_tumbrelref06_On fun w => .done w.t]), (214184, [.ex W_tumbrelref06_On fun w => .done w.t]), (263464, [.ex W_tumbrelref06_On fun w => .done w.t]), (263720, [.ex W_tumbrelref06_Set fun w => .done w.t]), (264104, [.ex W_tumbrelref06_On fun w => .done w.t]), (264360, [.ex W_tumbrelref06_Set fun w => .done w.t])] [] [(116, [0, 3, 11, 12]), (239220, [0, 3, 5, 6, 11, 12, 41, 42]), (489924212, [0, 3, 5, 6, 7, 8, 11, 12, 41, 42, 84, 85])]
noncomputable abbrev B59 : Code := Tryz.f59.body.getD .skip
def L59_0 (l : List T) (l1 : List T) (n : Int) (n1 : Int) (R : T × List T) : Prop := CutL Tryz.prog Tryz.f59 B59 true [1, 1, 0, 1, 0, 0] (mkSt 129 [(0, (.sl 11 l)), (3, (mnT (1000000004, 0) l1)), (11, (i64 n)), (12, (i64 n1))] (mnH (1000000004, 0) 139 11 l1)) [.dead] R
def L59_1 (l : List T) (l1 : List T) (n : Int) (n1 : Int) (n2 : Int) (n3 : Int) (w : W_tumbrelref06_State) (s : ByteArray) (n4 : Int) (n5 : Int) (b : Bool) (b1 : Bool) (s1 : ByteArray) (s2 : ByteArray) (n6 : Int) (n7 : Int) (l2 : List T) (l3 : List T) (R : T × List T) : Prop := CutL Tryz.prog Tryz.f59 B59 true [1, 1, 0, 1, 0, 0, 1, 1, 0, 0, 1, 1, 1, 0, 1, 0, 0] (mkSt 129 [(0, (.sl 11 l)), (3, (mnT (1000000004, 0) l1)), (5, (.ptr (1000000006, 0) 0)), (6, (.ptr (1000000007, 0) 0)), (11, (i64 n)), (12, (i64 n1)), (41, (i64 n2)), (42, (i64 n3))] ((mnH (1000000004, 0) 139 11 l1 ++ [((1000000006, 0), .box 63 [(st w.fName), (i64 w.fAt_Line), (i64 w.fAt_Col), (tb w.fAll), (tb w.fEnd), (st w.fDo), (st w.fUndo), (i64 w.fWhere), (i64 w.fRetries), (.sl 10 w.fOns), (.sl 11 w.fInner)]), ((1000000007, 0), .box 139 [(st s), (i64 n4), (i64 n5), (tb b), (tb b1), (st s1), (st s2), (i64 n6), (i64 n7), (mnT (1000000906, 0) l2), (.sl 11 l3)])] ++ mnH (1000000906, 0) 175 6 l2))) [.dead] R
def L59_2 (l : List T) (l1 : List T) (n : Int) (n1 : Int) (n2 : Int) (n3 : Int) (n4 : Int) (n5 : Int) (n6 : Int) (w : W_tumbrelref06_State) (s : ByteArray) (n7 : Int) (n8 : Int) (b : Bool) (b1 : Bool) (s1 : ByteArray) (s2 : ByteArray) (n9 : Int) (n10 : Int) (l2 : List T) (l3 : List T) (s3 : ByteArray) (e : IfV) (s4 : ByteArray) (l4 : List T) (n11 : Int) (n12 : Int) (R : T × List T) : Prop := CutL Tryz.prog Tryz.f59 B59 true [1, 1, 0, 1, 0, 0, 1, 1, 0, 0, 1, 1, 1, 0, 1, 0, 0, 1, 1, 0, 0, 1, 1, 1, 0, 1, 0, 0] (mkSt 129 [(0, (.sl 11 l)), (3, (mnT (1000000004, 0) l1)), (5, (.ptr (1000000006, 0) 0)), (6, (.ptr (1000000007, 0) 0)), (7, (i64 n)), (8, (.ptr (1000000009, 0) 0)), (11, (i64 n1)), (12, (i64 n2)), (41, (i64 n3)), (42, (i64 n4)), (84, (i64 n5)), (85, (i64 n6))] ((mnH (1000000004, 0) 139 11 l1 ++ [((1000000006, 0), .box 63 [(st w.fName), (i64 w.fAt_Line), (i64 w.fAt_Col), (tb w.fAll), (tb w.fEnd), (st w.fDo), (st w.fUndo), (i64 w.fWhere), (i64 w.fRetries), (.sl 10 w.fOns), (.sl 11 w.fInner)]), ((1000000007, 0), .box 139 [(st s), (i64 n7), (i64 n8), (tb b), (tb b1), (st s1), (st s2), (i64 n9), (i64 n10), (mnT (1000000906, 0) l2), (.sl 11 l3)]), ((1000000009, 0), .box 175 [(st s3), e.v, (st s4), (mnT (1000001156, 0) l4), (i64 n11), (i64 n12)])] ++ mnH (1000000906, 0) 175 6 l2 ++ mnH (1000001156, 0) 285 2 l4))) [.dead] R
set_option maxRecDepth 100000 in
theorem l59_0 (l : List T) (l1 : List T) (n : Int) (n1 : Int) (R : T × List T) (h : cond (decide ((n1 : Int) < n))
  (∃ w : W_tumbrelref06_State, ((0 : Int) ≤ n1 ∧ l[(Int.toNat n1)]? = some w.t) ∧
   (∃ l2 : List T, (Rn 59 [(.sl 11 w.fInner)] ((.sl 11 l2), [.dead])) ∧
    (L59_1 l l1 n n1 (((List.length w.fOns) : Nat) : Int) 0 w w.fName w.fAt_Line w.fAt_Col w.fAll w.fEnd w.fDo w.fUndo w.fWhere w.fRetries ([] : List T) l2 R)))
  (R = ((.sl 11 l1), [.dead]))) : L59_0 l l1 n n1 R := by
  unfold L59_0
  refine cutL_rule (ann := A59) (mv := MV) mixed (by kernel_rfl) ?_
  all_goals rcases l1 with _ | ⟨_, _⟩
  all_goals revert h
  all_goals refine via ?_
  all_goals kernel_rfl
set_option maxRecDepth 100000 in
theorem l59_1 (l : List T) (l1 : List T) (n : Int) (n1 : Int) (n2 : Int) (n3 : Int) (w : W_tumbrelref06_State) (s : ByteArray) (n4 : Int) (n5 : Int) (b : Bool) (b1 : Bool) (s1 : ByteArray) (s2 : ByteArray) (n6 : Int) (n7 : Int) (l2 : List T) (l3 : List T) (R : T × List T) (h : cond (decide ((n3 : Int) < n2))
  (∃ w1 : W_tumbrelref06_On, ((0 : Int) ≤ n3 ∧ w.fOns[(Int.toNat n3)]? = some w1.t) ∧
   (∃ w2 : W_tumbrelref06_On, ((0 : Int) ≤ n3 ∧ w.fOns[(Int.toNat n3)]? = some w2.t) ∧
    (∃ w3 : W_tumbrelref06_On, ((0 : Int) ≤ n3 ∧ w.fOns[(Int.toNat n3)]? = some w3.t) ∧
     (∃ w4 : W_tumbrelref06_On, ((0 : Int) ≤ n3 ∧ w.fOns[(Int.toNat n3)]? = some w4.t) ∧
      (cond w4.fHas
       (∃ w5 : W_tumbrelref06_On, ((0 : Int) ≤ n3 ∧ w.fOns[(Int.toNat n3)]? = some w5.t) ∧
        (∃ e : IfV, (Rn 153 [(.agg [(i64 w5.fGuard_Kind), (i64 w5.fGuard_N), (st w5.fGuard_S), (.sl 4 w5.fGuard_Parts)])] (e.v, [.dead])) ∧
         (∃ w6 : W_tumbrelref06_On, ((0 : Int) ≤ n3 ∧ w.fOns[(Int.toNat n3)]? = some w6.t) ∧
          (L59_2 l l1 n3 n n1 n2 n3 (((List.length w6.fSets) : Nat) : Int) 0 w s n4 n5 b b1 s1 s2 n6 n7 l2 l3 w1.fEvent e w2.fTarget ([] : List T) w3.fAt_Line w3.fAt_Col R))))
       (∃ w7 : W_tumbrelref06_On, ((0 : Int) ≤ n3 ∧ w.fOns[(Int.toNat n3)]? = some w7.t) ∧
        (L59_2 l l1 n3 n n1 n2 n3 (((List.length w7.fSets) : Nat) : Int) 0 w s n4 n5 b b1 s1 s2 n6 n7 l2 l3 w1.fEvent ⟨0, .dead⟩ w2.fTarget ([] : List T) w3.fAt_Line w3.fAt_Col R)))))))
  (chk (Nat.ble (((List.length l1) + 1) * 136) 140737488355328)
   (L59_0 l (l1 ++ [(.agg [(st s), (i64 n4), (i64 n5), (tb b), (tb b1), (st s1), (st s2), (i64 n6), (i64 n7), (.sl 6 l2), (.sl 11 l3)])]) n (IntKind.wrap .i64 (n1 + 1)) R))) : L59_1 l l1 n n1 n2 n3 w s n4 n5 b b1 s1 s2 n6 n7 l2 l3 R := by
  unfold L59_1
  refine cutL_rule (ann := A59) (mv := MV) mixed (by kernel_rfl) ?_
  all_goals rcases l1 with _ | ⟨_, _⟩
  all_goals rcases l2 with _ | ⟨_, _⟩
  all_goals revert h
  all_goals refine via ?_
  all_goals kernel_rfl
set_option maxRecDepth 100000 in
theorem l59_2 (l : List T) (l1 : List T) (n : Int) (n1 : Int) (n2 : Int) (n3 : Int) (n4 : Int) (n5 : Int) (n6 : Int) (w : W_tumbrelref06_State) (s : ByteArray) (n7 : Int) (n8 : Int) (b : Bool) (b1 : Bool) (s1 : ByteArray) (s2 : ByteArray) (n9 : Int) (n10 : Int) (l2 : List T) (l3 : List T) (s3 : ByteArray) (e : IfV) (s4 : ByteArray) (l4 : List T) (n11 : Int) (n12 : Int) (R : T × List T) (h : cond (decide ((n6 : Int) < n5))
  (∃ w1 : W_tumbrelref06_On, ((0 : Int) ≤ n ∧ w.fOns[(Int.toNat n)]? = some w1.t) ∧
   (∃ w2 : W_tumbrelref06_Set, ((0 : Int) ≤ n6 ∧ w1.fSets[(Int.toNat n6)]? = some w2.t) ∧
    (∃ w3 : W_tumbrelref06_On, ((0 : Int) ≤ n ∧ w.fOns[(Int.toNat n)]? = some w3.t) ∧
     (∃ w4 : W_tumbrelref06_Set, ((0 : Int) ≤ n6 ∧ w3.fSets[(Int.toNat n6)]? = some w4.t) ∧
      (∃ e1 : IfV, (Rn 153 [(.agg [(i64 w4.fTo_Kind), (i64 w4.fTo_N), (st w4.fTo_S), (.sl 4 w4.fTo_Parts)])] (e1.v, [.dead])) ∧
       (chk (Nat.ble (((List.length l4) + 1) * 32) 140737488355328)
        (L59_2 l l1 n n1 n2 n3 n4 n5 (IntKind.wrap .i64 (n6 + 1)) w s n7 n8 b b1 s1 s2 n9 n10 l2 l3 s3 e s4 (l4 ++ [(.agg [(st w2.fName), e1.v])]) n11 n12 R)))))))
  (chk (Nat.ble (((List.length l2) + 1) * 88) 140737488355328)
   (L59_1 l l1 n1 n2 n3 (IntKind.wrap .i64 (n4 + 1)) w s n7 n8 b b1 s1 s2 n9 n10 (l2 ++ [(.agg [(st s3), e.v, (st s4), (.sl 2 l4), (i64 n11), (i64 n12)])]) l3 R))) : L59_2 l l1 n n1 n2 n3 n4 n5 n6 w s n7 n8 b b1 s1 s2 n9 n10 l2 l3 s3 e s4 l4 n11 n12 R := by
  unfold L59_2
  refine cutL_rule (ann := A59) (mv := MV) mixed (by kernel_rfl) ?_
  all_goals rcases l1 with _ | ⟨_, _⟩
  all_goals rcases l2 with _ | ⟨_, _⟩
  all_goals rcases l4 with _ | ⟨_, _⟩
  all_goals revert h
  all_goals refine via ?_
  all_goals kernel_rfl
set_option maxRecDepth 100000 in
theorem f59 (l : List T) (R : T × List T) (h : L59_0 l ([] : List T) (((List.length l) : Nat) : Int) 0 R) : Rn 59 [(.sl 11 l)] R := by
  refine fn_rule (ann := A59) (mv := MV) (fz := true) mixed Tryz.func59 (c := B59) (by kernel_rfl) (by decide) ?_
  all_goals revert h
  all_goals refine via ?_
  all_goals kernel_rfl
/- tumbrel/tumbrelref06.clean -/
noncomputable def A63 : Ann := mkAnn [(99624, (fun a => [.ex (List T) fun l => .done ((.sl 11 l), [.dead])])), (197736, (fun a => [.ex (W_tumbrelref04_Node) fun w => .done (w.t, [.dead])])), (329064, (fun a => [.ex (W_tumbrelref04_Node) fun w => .done (w.t, [.dead])]))] [(83048, [.ex W_tumbrelref06_State fun w => .done w.t]), (99432, [.ex W_tumbrelref06_State fun w => .done w.t]), (115816, [.ex W_tumbrelref06_State fun w => .done w.t]), (164968, [.ex W_tumbrelref06_State fun w => .done w.t]), (165224, [.ex W_tumbrelref06_On fun w => .done w.t]), (263272, [.ex W_tumbrelref06_State fun w => .done w.t]), (263528, [.ex W_tumbrelref06_On fun w => .done w.t]), (312424, [.ex W_tumbrelref06_State fun w => .done w.t]), (312680, [.ex W_tumbrelref06_On fun w => .done w.t]), (312936, [.ex W_tumbrelref06_Set fun w => .done w.t])] [] [(116, [0, 3, 11, 12]), (239220, [0, 3, 4, 5, 11, 12, 32, 33]), (1959696884, [0, 3, 4, 5, 6, 7, 11, 12, 32, 33, 71, 72])]
noncomputable abbrev B63 : Code := Tryz.f63.body.getD .skip
def L63_0 (l : List T) (l1 : List T) (n : Int) (n1 : Int) (R : T × List T) : Prop := CutL Tryz.prog Tryz.f63 B63 true [1, 1, 0, 1, 0, 0] (mkSt 112 [(0, (.sl 11 l)), (3, (mnT (1000000004, 0) l1)), (11, (i64 n)), (12, (i64 n1))] (mnH (1000000004, 0) 63 11 l1)) [.dead] R
def L63_1 (l : List T) (l1 : List T) (i : Int) (n : Int) (n1 : Int) (n2 : Int) (n3 : Int) (s : ByteArray) (n4 : Int) (n5 : Int) (b : Bool) (b1 : Bool) (s1 : ByteArray) (s2 : ByteArray) (n6 : Int) (n7 : Int) (l2 : List T) (l3 : List T) (R : T × List T) : Prop := CutL Tryz.prog Tryz.f63 B63 true [1, 1, 0, 1, 0, 0, 1, 1, 0, 0, 1, 1, 1, 0, 1, 0, 0] (mkSt 112 [(0, (.sl 11 l)), (3, (mnT (1000000004, 0) l1)), (4, (i64 i)), (5, (.ptr (1000000006, 0) 0)), (11, (i64 n)), (12, (i64 n1)), (32, (i64 n2)), (33, (i64 n3))] ((mnH (1000000004, 0) 63 11 l1 ++ [((1000000006, 0), .box 63 [(st s), (i64 n4), (i64 n5), (tb b), (tb b1), (st s1), (st s2), (i64 n6), (i64 n7), (mnT (1000000778, 0) l2), (.sl 11 l3)])] ++ mnH (1000000778, 0) 75 10 l2))) [.dead] R
def L63_2a (l : List T) (l1 : List T) (i : Int) (n : Int) (n1 : Int) (n2 : Int) (n3 : Int) (n4 : Int) (n5 : Int) (n6 : Int) (s : ByteArray) (n7 : Int) (n8 : Int) (b : Bool) (b1 : Bool) (s1 : ByteArray) (s2 : ByteArray) (n9 : Int) (n10 : Int) (l2 : List T) (l3 : List T) (s3 : ByteArray) (b2 : Bool) (n11 : Int) (n12 : Int) (s4 : ByteArray) (l4 : List T) (s5 : ByteArray) (l5 : List T) (n13 : Int) (n14 : Int) (R : T × List T) : Prop := CutL Tryz.prog Tryz.f63 B63 true [1, 1, 0, 1, 0, 0, 1, 1, 0, 0, 1, 1, 1, 0, 1, 0, 0, 1, 1, 0, 0, 1, 1, 1, 1, 1, 0, 1, 0, 0] (mkSt 112 [(0, (.sl 11 l)), (3, (mnT (1000000004, 0) l1)), (4, (i64 i)), (5, (.ptr (1000000006, 0) 0)), (6, (i64 n)), (7, (.ptr (1000000008, 0) 0)), (11, (i64 n1)), (12, (i64 n2)), (32, (i64 n3)), (33, (i64 n4)), (71, (i64 n5)), (72, (i64 n6))] ((mnH (1000000004, 0) 63 11 l1 ++ [((1000000006, 0), .box 63 [(st s), (i64 n7), (i64 n8), (tb b), (tb b1), (st s1), (st s2), (i64 n9), (i64 n10), (mnT (1000000778, 0) l2), (.sl 11 l3)]), ((1000000008, 0), .box 75 [(st s3), (tb b2), (i64 n11), (i64 n12), (st s4), (.sl 4 l4), (st s5), (mnT (1000001032, 0) l5), (i64 n13), (i64 n14)])] ++ mnH (1000000778, 0) 75 10 l2 ++ mnH (1000001032, 0) 193 5 l5))) [.dead] R
def L63_2b (l : List T) (l1 : List T) (i : Int) (n : Int) (n1 : Int) (n2 : Int) (n3 : Int) (n4 : Int) (n5 : Int) (n6 : Int) (s : ByteArray) (n7 : Int) (n8 : Int) (b : Bool) (b1 : Bool) (s1 : ByteArray) (s2 : ByteArray) (n9 : Int) (n10 : Int) (l2 : List T) (l3 : List T) (s3 : ByteArray) (b2 : Bool) (n11 : Int) (n12 : Int) (s4 : ByteArray) (s5 : ByteArray) (l4 : List T) (n13 : Int) (n14 : Int) (R : T × List T) : Prop := CutL Tryz.prog Tryz.f63 B63 true [1, 1, 0, 1, 0, 0, 1, 1, 0, 0, 1, 1, 1, 0, 1, 0, 0, 1, 1, 0, 0, 1, 1, 1, 1, 1, 0, 1, 0, 0] (mkSt 112 [(0, (.sl 11 l)), (3, (mnT (1000000004, 0) l1)), (4, (i64 i)), (5, (.ptr (1000000006, 0) 0)), (6, (i64 n)), (7, (.ptr (1000000008, 0) 0)), (11, (i64 n1)), (12, (i64 n2)), (32, (i64 n3)), (33, (i64 n4)), (71, (i64 n5)), (72, (i64 n6))] ((mnH (1000000004, 0) 63 11 l1 ++ [((1000000006, 0), .box 63 [(st s), (i64 n7), (i64 n8), (tb b), (tb b1), (st s1), (st s2), (i64 n9), (i64 n10), (mnT (1000000778, 0) l2), (.sl 11 l3)]), ((1000000008, 0), .box 75 [(st s3), (tb b2), (i64 n11), (i64 n12), (st s4), nilS, (st s5), (mnT (1000001032, 0) l4), (i64 n13), (i64 n14)])] ++ mnH (1000000778, 0) 75 10 l2 ++ mnH (1000001032, 0) 193 5 l4))) [.dead] R
set_option maxRecDepth 100000 in
theorem l63_0 (l : List T) (l1 : List T) (n : Int) (n1 : Int) (R : T × List T) (h : cond (decide ((n1 : Int) < n))
  (∃ w : W_tumbrelref06_State, ((0 : Int) ≤ n1 ∧ l[(Int.toNat n1)]? = some w.t) ∧
   (∃ w1 : W_tumbrelref06_State, ((0 : Int) ≤ n1 ∧ l[(Int.toNat n1)]? = some w1.t) ∧
    (∃ l2 : List T, (Rn 63 [(.sl 11 w1.fInner)] ((.sl 11 l2), [.dead])) ∧
     (∃ w2 : W_tumbrelref06_State, ((0 : Int) ≤ n1 ∧ l[(Int.toNat n1)]? = some w2.t) ∧
      (L63_1 l l1 n1 n n1 (((List.length w2.fOns) : Nat) : Int) 0 w.fName w.fAt_Line w.fAt_Col w.fAll w.fEnd w.fDo w.fUndo w.fWhere w.fRetries ([] : List T) l2 R)))))
  (R = ((.sl 11 l1), [.dead]))) : L63_0 l l1 n n1 R := by
  unfold L63_0
  refine cutL_rule (ann := A63) (mv := MV) mixed (by kernel_rfl) ?_
  all_goals rcases l1 with _ | ⟨_, _⟩
  all_goals revert h
  all_goals refine via ?_
  all_goals kernel_rfl
set_option maxRecDepth 100000 in
theorem l63_1 (l : List T) (l1 : List T) (i : Int) (n : Int) (n1 : Int) (n2 : Int) (n3 : Int) (s : ByteArray) (n4 : Int) (n5 : Int) (b : Bool) (b1 : Bool) (s1 : ByteArray) (s2 : ByteArray) (n6 : Int) (n7 : Int) (l2 : List T) (l3 : List T) (R : T × List T) (h : cond (decide ((n3 : Int) < n2))
  (∃ w : W_tumbrelref06_State, ((0 : Int) ≤ i ∧ l[(Int.toNat i)]? = some w.t) ∧
   (∃ w1 : W_tumbrelref06_On, ((0 : Int) ≤ n3 ∧ w.fOns[(Int.toNat n3)]? = some w1.t) ∧
    (cond w1.fHas
     (∃ w2 : W_tumbrelref04_Node, (Rn 156 [(.agg [(i64 w1.fGuard_Kind), (i64 w1.fGuard_N), (st w1.fGuard_S), (.sl 4 w1.fGuard_Parts)])] (w2.t, [.dead])) ∧
      (cond w1.fHas
       (∃ w3 : W_tumbrelref06_State, ((0 : Int) ≤ i ∧ l[(Int.toNat i)]? = some w3.t) ∧
        (∃ w4 : W_tumbrelref06_On, ((0 : Int) ≤ n3 ∧ w3.fOns[(Int.toNat n3)]? = some w4.t) ∧
         (L63_2a l l1 i n3 n n1 n2 n3 (((List.length w4.fSets) : Nat) : Int) 0 s n4 n5 b b1 s1 s2 n6 n7 l2 l3 w1.fEvent (!(decide ((w2.fKind : Int) = 0))) w2.fKind w2.fN w2.fS w2.fParts w1.fTarget ([] : List T) w1.fAt_Line w1.fAt_Col R)))
       (∃ w5 : W_tumbrelref06_State, ((0 : Int) ≤ i ∧ l[(Int.toNat i)]? = some w5.t) ∧
        (∃ w6 : W_tumbrelref06_On, ((0 : Int) ≤ n3 ∧ w5.fOns[(Int.toNat n3)]? = some w6.t) ∧
         (L63_2a l l1 i n3 n n1 n2 n3 (((List.length w6.fSets) : Nat) : Int) 0 s n4 n5 b b1 s1 s2 n6 n7 l2 l3 w1.fEvent false w2.fKind w2.fN w2.fS w2.fParts w1.fTarget ([] : List T) w1.fAt_Line w1.fAt_Col R)))))
     (cond w1.fHas
      (∃ w7 : W_tumbrelref06_State, ((0 : Int) ≤ i ∧ l[(Int.toNat i)]? = some w7.t) ∧
       (∃ w8 : W_tumbrelref06_On, ((0 : Int) ≤ n3 ∧ w7.fOns[(Int.toNat n3)]? = some w8.t) ∧
        (L63_2b l l1 i n3 n n1 n2 n3 (((List.length w8.fSets) : Nat) : Int) 0 s n4 n5 b b1 s1 s2 n6 n7 l2 l3 w1.fEvent false 0 0 (bs []) w1.fTarget ([] : List T) w1.fAt_Line w1.fAt_Col R)))
      (∃ w9 : W_tumbrelref06_State, ((0 : Int) ≤ i ∧ l[(Int.toNat i)]? = some w9.t) ∧
       (∃ w10 : W_tumbrelref06_On, ((0 : Int) ≤ n3 ∧ w9.fOns[(Int.toNat n3)]? = some w10.t) ∧
        (L63_2b l l1 i n3 n n1 n2 n3 (((List.length w10.fSets) : Nat) : Int) 0 s n4 n5 b b1 s1 s2 n6 n7 l2 l3 w1.fEvent false 0 0 (bs []) w1.fTarget ([] : List T) w1.fAt_Line w1.fAt_Col R)))))))
  (chk (Nat.ble (((List.length l1) + 1) * 136) 140737488355328)
   (L63_0 l (l1 ++ [(.agg [(st s), (i64 n4), (i64 n5), (tb b), (tb b1), (st s1), (st s2), (i64 n6), (i64 n7), (.sl 10 l2), (.sl 11 l3)])]) n (IntKind.wrap .i64 (n1 + 1)) R))) : L63_1 l l1 i n n1 n2 n3 s n4 n5 b b1 s1 s2 n6 n7 l2 l3 R := by
  unfold L63_1
  refine cutL_rule (ann := A63) (mv := MV) mixed (by kernel_rfl) ?_
  all_goals rcases l1 with _ | ⟨_, _⟩
  all_goals rcases l2 with _ | ⟨_, _⟩
  all_goals revert h
  all_goals refine via ?_
  all_goals kernel_rfl
set_option maxRecDepth 100000 in
theorem l63_2a (l : List T) (l1 : List T) (i : Int) (n : Int) (n1 : Int) (n2 : Int) (n3 : Int) (n4 : Int) (n5 : Int) (n6 : Int) (s : ByteArray) (n7 : Int) (n8 : Int) (b : Bool) (b1 : Bool) (s1 : ByteArray) (s2 : ByteArray) (n9 : Int) (n10 : Int) (l2 : List T) (l3 : List T) (s3 : ByteArray) (b2 : Bool) (n11 : Int) (n12 : Int) (s4 : ByteArray) (l4 : List T) (s5 : ByteArray) (l5 : List T) (n13 : Int) (n14 : Int) (R : T × List T) (h : cond (decide ((n6 : Int) < n5))
  (∃ w : W_tumbrelref06_State, ((0 : Int) ≤ i ∧ l[(Int.toNat i)]? = some w.t) ∧
   (∃ w1 : W_tumbrelref06_On, ((0 : Int) ≤ n ∧ w.fOns[(Int.toNat n)]? = some w1.t) ∧
    (∃ w2 : W_tumbrelref06_Set, ((0 : Int) ≤ n6 ∧ w1.fSets[(Int.toNat n6)]? = some w2.t) ∧
     (∃ w3 : W_tumbrelref04_Node, (Rn 156 [(.agg [(i64 w2.fTo_Kind), (i64 w2.fTo_N), (st w2.fTo_S), (.sl 4 w2.fTo_Parts)])] (w3.t, [.dead])) ∧
      (chk (Nat.ble (((List.length l5) + 1) * 72) 140737488355328)
       (L63_2a l l1 i n n1 n2 n3 n4 n5 (IntKind.wrap .i64 (n6 + 1)) s n7 n8 b b1 s1 s2 n9 n10 l2 l3 s3 b2 n11 n12 s4 l4 s5 (l5 ++ [(.agg [(st w2.fName), (i64 w3.fKind), (i64 w3.fN), (st w3.fS), (.sl 4 w3.fParts)])]) n13 n14 R))))))
  (chk (Nat.ble (((List.length l2) + 1) * 136) 140737488355328)
   (L63_1 l l1 i n1 n2 n3 (IntKind.wrap .i64 (n4 + 1)) s n7 n8 b b1 s1 s2 n9 n10 (l2 ++ [(.agg [(st s3), (tb b2), (i64 n11), (i64 n12), (st s4), (.sl 4 l4), (st s5), (.sl 5 l5), (i64 n13), (i64 n14)])]) l3 R))) : L63_2a l l1 i n n1 n2 n3 n4 n5 n6 s n7 n8 b b1 s1 s2 n9 n10 l2 l3 s3 b2 n11 n12 s4 l4 s5 l5 n13 n14 R := by
  unfold L63_2a
  refine cutL_rule (ann := A63) (mv := MV) mixed (by kernel_rfl) ?_
  all_goals rcases l1 with _ | ⟨_, _⟩
  all_goals rcases l2 with _ | ⟨_, _⟩
  all_goals rcases l5 with _ | ⟨_, _⟩
  all_goals revert h
  all_goals refine via ?_
  all_goals kernel_rfl
set_option maxRecDepth 100000 in
theorem l63_2b (l : List T) (l1 : List T) (i : Int) (n : Int) (n1 : Int) (n2 : Int) (n3 : Int) (n4 : Int) (n5 : Int) (n6 : Int) (s : ByteArray) (n7 : Int) (n8 : Int) (b : Bool) (b1 : Bool) (s1 : ByteArray) (s2 : ByteArray) (n9 : Int) (n10 : Int) (l2 : List T) (l3 : List T) (s3 : ByteArray) (b2 : Bool) (n11 : Int) (n12 : Int) (s4 : ByteArray) (s5 : ByteArray) (l4 : List T) (n13 : Int) (n14 : Int) (R : T × List T) (h : cond (decide ((n6 : Int) < n5))
  (∃ w : W_tumbrelref06_State, ((0 : Int) ≤ i ∧ l[(Int.toNat i)]? = some w.t) ∧
   (∃ w1 : W_tumbrelref06_On, ((0 : Int) ≤ n ∧ w.fOns[(Int.toNat n)]? = some w1.t) ∧
    (∃ w2 : W_tumbrelref06_Set, ((0 : Int) ≤ n6 ∧ w1.fSets[(Int.toNat n6)]? = some w2.t) ∧
     (∃ w3 : W_tumbrelref04_Node, (Rn 156 [(.agg [(i64 w2.fTo_Kind), (i64 w2.fTo_N), (st w2.fTo_S), (.sl 4 w2.fTo_Parts)])] (w3.t, [.dead])) ∧
      (chk (Nat.ble (((List.length l4) + 1) * 72) 140737488355328)
       (L63_2b l l1 i n n1 n2 n3 n4 n5 (IntKind.wrap .i64 (n6 + 1)) s n7 n8 b b1 s1 s2 n9 n10 l2 l3 s3 b2 n11 n12 s4 s5 (l4 ++ [(.agg [(st w2.fName), (i64 w3.fKind), (i64 w3.fN), (st w3.fS), (.sl 4 w3.fParts)])]) n13 n14 R))))))
  (chk (Nat.ble (((List.length l2) + 1) * 136) 140737488355328)
   (L63_1 l l1 i n1 n2 n3 (IntKind.wrap .i64 (n4 + 1)) s n7 n8 b b1 s1 s2 n9 n10 (l2 ++ [(.agg [(st s3), (tb b2), (i64 n11), (i64 n12), (st s4), (.sl 4 []), (st s5), (.sl 5 l4), (i64 n13), (i64 n14)])]) l3 R))) : L63_2b l l1 i n n1 n2 n3 n4 n5 n6 s n7 n8 b b1 s1 s2 n9 n10 l2 l3 s3 b2 n11 n12 s4 s5 l4 n13 n14 R := by
  unfold L63_2b
  refine cutL_rule (ann := A63) (mv := MV) mixed (by kernel_rfl) ?_
  all_goals rcases l1 with _ | ⟨_, _⟩
  all_goals rcases l2 with _ | ⟨_, _⟩
  all_goals rcases l4 with _ | ⟨_, _⟩
  all_goals revert h
  all_goals refine via ?_
  all_goals kernel_rfl
set_option maxRecDepth 100000 in
theorem f63 (l : List T) (R : T × List T) (h : L63_0 l ([] : List T) (((List.length l) : Nat) : Int) 0 R) : Rn 63 [(.sl 11 l)] R := by
  refine fn_rule (ann := A63) (mv := MV) (fz := true) mixed Tryz.func63 (c := B63) (by kernel_rfl) (by decide) ?_
  all_goals revert h
  all_goals refine via ?_
  all_goals kernel_rfl
/- strconv.FormatInt -/
noncomputable def A98 : Ann := mkAnn [(17512, (fun a => [.ex (ByteArray) fun s => .done ((st s), [.dead, .dead])]))] [] [] []
noncomputable abbrev B98 : Code := Tryz.f98.body.getD .skip
set_option maxRecDepth 100000 in
theorem f98 (i : Int) (base : Int) (R : T × List T) (h : ∃ s : ByteArray, (Rn 186 [(i64 i), (i64 base)] ((st s), [.dead, .dead])) ∧
  (R = ((st s), [.dead, .dead]))) : Rn 98 [(i64 i), (i64 base)] R := by
  refine fn_rule (ann := A98) (mv := MV) (fz := true) mixed Tryz.func98 (c := B98) (by kernel_rfl) (by decide) ?_
  all_goals revert h
  all_goals refine via ?_
  all_goals kernel_rfl
end Go.Proofs.YtfknpnkdedckhaaGreatDoorT
