/- What is to be shown of functions of the program, by their texts (printed by a program of this work; the kernel holds each against the text). -/
import Derived.Test.YtgfaadooijngnaaDoorP0
namespace Go.Proofs.YtgfaadooijngnaaDoorT
open Go Go.Proofs
set_option linter.unusedVariables false
/- tumbrel/tumbrellaw23.AdminParses -/
noncomputable def A3 : Ann := mkAnn [(17384, (fun a => [.ex (Bool) fun b => .done ((tb b), [])])), (33768, (fun a => [.ex (Bool) fun b => .done ((tb b), [])])), (50216, (fun a => [.ex (List T) fun l => .ex (Int) fun n => .done ((.tup [(.sl 1 l), (i64 n)]), [.dead])])), (66600, (fun a => [.ex (List T) fun l => .ex (Int) fun n => .done ((.tup [(.sl 1 l), (i64 n)]), [.dead])])), (83048, (fun a => [.ex (Bool) fun b => .done ((tb b), [.dead, .dead])])), (83560, (fun a => [.ex (ByteArray) fun s => .done ((st s), [.dead])])), (83688, (fun a => [.ex (ByteArray) fun s => .done ((st s), [.dead])]))] [] [] []
noncomputable abbrev B3 : Code := Tryd.f3.body.getD .skip
set_option maxRecDepth 100000 in
theorem f3 (line : ByteArray) (e : Int) (R : T × List T) (h : ∃ b : Bool, (Rn 4 [] ((tb b), [])) ∧
  (cond (!b)
   (∃ b1 : Bool, (Rn 4 [] ((tb b1), [])) ∧
    (R = ((tb b1), [.dead, .dead])))
   (cond (decide ((20000 : Int) < (((ByteArray.size line) : Nat) : Int)))
    (∃ b2 : Bool, (Rn 4 [] ((tb b2), [])) ∧
     (R = ((tb b2), [.dead, .dead])))
    (∃ l : List T, ∃ n : Int, (Rn 5 [(st line)] ((.tup [(.sl 1 l), (i64 n)]), [.dead])) ∧
     (∃ l1 : List T, ∃ n1 : Int, (Rn 6 [(st line)] ((.tup [(.sl 1 l1), (i64 n1)]), [.dead])) ∧
      (∃ b3 : Bool, (Rn 7 [(.sl 1 l), (.sl 1 l1)] ((tb b3), [.dead, .dead])) ∧
       (cond b3
        (cond (decide ((n : Int) = n1))
         (∃ s : ByteArray, (Rn 8 [(i64 e)] ((st s), [.dead])) ∧
          (∃ s1 : ByteArray, (Rn 9 [(i64 e)] ((st s1), [.dead])) ∧
           (R = ((tb (decide (s = s1))), [.dead, .dead]))))
         (R = ((tb false), [.dead, .dead])))
        (R = ((tb false), [.dead, .dead]))))))))) : Rn 3 [(st line), (i64 e)] R := by
  refine fn_rule (ann := A3) (mv := MV) (fz := true) mixed Tryd.func3 (c := B3) (by kernel_rfl) (by decide) ?_
  all_goals revert h
  all_goals refine via ?_
  all_goals kernel_rfl
/- tumbrel/tumbrellaw23.awake -/
noncomputable def A4 : Ann := mkAnn [(17384, (fun a => [.ex (ByteArray) fun s => .done ((st s), [.dead])]))] [] [] []
noncomputable abbrev B4 : Code := Tryd.f4.body.getD .skip
set_option maxRecDepth 100000 in
theorem f4 (R : T × List T) (h : ∃ s : ByteArray, (Rn 8 [(i64 5)] ((st s), [.dead])) ∧
  (R = ((tb (decide (s = (bs [110, 111, 110, 101])))), []))) : Rn 4 [] R := by
  refine fn_rule (ann := A4) (mv := MV) (fz := true) mixed Tryd.func4 (c := B4) (by kernel_rfl) (by decide) ?_
  all_goals revert h
  all_goals refine via ?_
  all_goals kernel_rfl
/- tumbrel/admin.Parse -/
noncomputable def A5 : Ann := mkAnn [(50216, (fun a => [.ex (ByteArray) fun s => .ex (Bool) fun b => .done ((.tup [(st s), (tb b)]), [.dead, .dead])])), (99368, (fun a => [.ex (List T) fun l => .done ((.sl 1 l), [.dead, .dead])])), (115880, (fun a => [.ex (ByteArray) fun s => .ex (Bool) fun b => .done ((.tup [(st s), (tb b)]), [.dead])])), (230440, (fun a => [.ex (List T) fun l => .ex (Bool) fun b => .done ((.tup [(.sl 2 l), (tb b)]), [.dead])])), (263208, (fun a => [.ex (Int) fun n => .ex (Bool) fun b => .done ((.tup [(i64 n), (tb b)]), [.dead])])), (295976, (fun a => [.ex (Bool) fun b => .done ((tb b), [.dead])]))] [(115752, [.ex ByteArray fun w => .done (st w)]), (197672, [.ex ByteArray fun w => .done (st w)])] [] [(2036, [6, 7, 42, 43, 44])]
noncomputable abbrev B5 : Code := Tryd.f5.body.getD .skip
def L5_0 (words : List T) (kinds : ByteArray) (l : List T) (n : Int) (n1 : Int) (R : T × List T) : Prop := CutL Tryd.prog Tryd.f5 B5 true [1, 1, 1, 1, 1, 1, 0, 1, 0, 0] (mkSt 72 [(6, (.sl 1 words)), (7, (st kinds)), (42, (.sl 1 l)), (43, (i64 n)), (44, (i64 n1))] []) [.dead] R
set_option maxRecDepth 100000 in
theorem l5_0 (words : List T) (kinds : ByteArray) (l : List T) (n : Int) (n1 : Int) (R : T × List T) (h : cond (decide ((n1 : Int) < n))
  (∃ s : ByteArray, ((0 : Int) ≤ n1 ∧ l[(Int.toNat n1)]? = some (st s)) ∧
   (((0 : Int) ≤ n1 ∧ n1 < (((ByteArray.size kinds) : Nat) : Int)) ∧
    (cond (decide (((byteAt kinds (Int.toNat n1)) : Int) = 105))
     (∃ n2 : Int, ∃ b : Bool, (Rn 13 [(st s)] ((.tup [(i64 n2), (tb b)]), [.dead])) ∧
      (cond (!b)
       (R = ((.tup [(.sl 1 []), (i64 2)]), [.dead]))
       (L5_0 words kinds l n (IntKind.wrap .i64 (n1 + 1)) R)))
     (cond (decide (((byteAt kinds (Int.toNat n1)) : Int) = 110))
      (∃ b1 : Bool, (Rn 14 [(st s)] ((tb b1), [.dead])) ∧
       (cond (!b1)
        (R = ((.tup [(.sl 1 []), (i64 2)]), [.dead]))
        (L5_0 words kinds l n (IntKind.wrap .i64 (n1 + 1)) R)))
      (∃ l1 : List T, ∃ b2 : Bool, (Rn 15 [(st s)] ((.tup [(.sl 2 l1), (tb b2)]), [.dead])) ∧
       (cond (!b2)
        (R = ((.tup [(.sl 1 []), (i64 2)]), [.dead]))
        (L5_0 words kinds l n (IntKind.wrap .i64 (n1 + 1)) R)))))))
  (R = ((.tup [(.sl 1 words), (i64 0)]), [.dead]))) : L5_0 words kinds l n n1 R := by
  unfold L5_0
  refine cutL_rule (ann := A5) (mv := MV) mixed (by kernel_rfl) ?_
  all_goals revert h
  all_goals refine via ?_
  all_goals kernel_rfl
set_option maxRecDepth 100000 in
theorem f5 (line : ByteArray) (R : T × List T) (h : cond (decide ((13000 : Int) < (((ByteArray.size line) : Nat) : Int)))
  (R = ((.tup [(.sl 1 []), (i64 4)]), [.dead]))
  (∃ s : ByteArray, ∃ b : Bool, (Rn 10 [(st line), (st (bs [97, 100, 100, 32]))] ((.tup [(st s), (tb b)]), [.dead, .dead])) ∧
   (cond b
    (R = ((.tup [(.sl 1 [(st (bs [97, 100, 100])), (st s)]), (i64 0)]), [.dead]))
    (∃ l : List T, (Rn 11 [(st line), (st (bs [32]))] ((.sl 1 l), [.dead, .dead])) ∧
     (∃ s1 : ByteArray, ((0 : Int) ≤ 0 ∧ l[0]? = some (st s1)) ∧
      (∃ s2 : ByteArray, ∃ b1 : Bool, (Rn 12 [(st s1)] ((.tup [(st s2), (tb b1)]), [.dead])) ∧
       (cond (!b1)
        (R = ((.tup [(.sl 1 []), (i64 2)]), [.dead]))
        (cond (!(decide (((((List.length l) : Nat) : Int) : Int) = (IntKind.wrap .i64 ((((ByteArray.size s2) : Nat) : Int) + 1)))))
         (R = ((.tup [(.sl 1 []), (i64 2)]), [.dead]))
         (((0 : Int) ≤ 1 ∧ 1 ≤ (((List.length l) : Nat) : Int)) ∧
          (L5_0 l s2 (List.drop 1 (List.take (List.length l) l)) (((List.length (List.drop 1 (List.take (List.length l) l))) : Nat) : Int) 0 R)))))))))) : Rn 5 [(st line)] R := by
  refine fn_rule (ann := A5) (mv := MV) (fz := true) mixed Tryd.func5 (c := B5) (by kernel_rfl) (by decide) ?_
  all_goals revert h
  all_goals refine via ?_
  all_goals kernel_rfl
/- tumbrel/tumbrelref23.Parse -/
noncomputable def A6 : Ann := mkAnn [(82984, (fun a => [.ex (List T) fun l => .done ((.sl 1 l), [.dead, .dead])])), (99496, (fun a => [.ex (List T) fun l => .ex (Bool) fun b => .done ((.tup [(.sl 1 l), (tb b)]), [.dead])])), (230696, (fun a => [.ex (Int) fun n => .ex (Bool) fun b => .done ((.tup [(i64 n), (tb b)]), [.dead])])), (263464, (fun a => [.ex (Bool) fun b => .done ((tb b), [.dead])])), (296232, (fun a => [.ex (List T) fun l => .ex (Bool) fun b => .done ((.tup [(.sl 2 l), (tb b)]), [.dead])]))] [(99368, [.ex ByteArray fun w => .done (st w)]), (197736, [.ex Int fun w => .done (i64 w)]), (230568, [.ex ByteArray fun w => .done (st w)]), (263336, [.ex ByteArray fun w => .done (st w)]), (296104, [.ex ByteArray fun w => .done (st w)])] [] [(2036, [4, 5, 6, 42, 43])]
noncomputable abbrev B6 : Code := Tryd.f6.body.getD .skip
def L6_0 (l : List T) (l1 : List T) (ok : Bool) (n : Int) (n1 : Int) (R : T × List T) : Prop := CutL Tryd.prog Tryd.f6 B6 true [1, 1, 1, 1, 1, 1, 0, 1, 0, 0] (mkSt 84 [(4, (.sl 1 l)), (5, (.sl 1 l1)), (6, (tb ok)), (42, (i64 n)), (43, (i64 n1))] []) [.dead] R
set_option maxRecDepth 100000 in
theorem l6_0 (l : List T) (l1 : List T) (ok : Bool) (n : Int) (n1 : Int) (R : T × List T) (h : cond (decide ((n1 : Int) < n))
  (∃ n2 : Int, ((0 : Int) ≤ n1 ∧ l1[(Int.toNat n1)]? = some (i64 n2)) ∧
   (cond (decide ((n2 : Int) = 1))
    (∃ s : ByteArray, ((0 : Int) ≤ (IntKind.wrap .i64 (n1 + 1)) ∧ l[(Int.toNat (IntKind.wrap .i64 (n1 + 1)))]? = some (st s)) ∧
     (∃ n3 : Int, ∃ b : Bool, (Rn 18 [(st s)] ((.tup [(i64 n3), (tb b)]), [.dead])) ∧
      (cond (!b)
       (R = ((.tup [(.sl 1 []), (i64 2)]), [.dead]))
       (L6_0 l l1 b n (IntKind.wrap .i64 (n1 + 1)) R))))
    (cond (decide ((n2 : Int) = 2))
     (∃ s1 : ByteArray, ((0 : Int) ≤ (IntKind.wrap .i64 (n1 + 1)) ∧ l[(Int.toNat (IntKind.wrap .i64 (n1 + 1)))]? = some (st s1)) ∧
      (∃ b1 : Bool, (Rn 19 [(st s1)] ((tb b1), [.dead])) ∧
       (cond (!b1)
        (R = ((.tup [(.sl 1 []), (i64 2)]), [.dead]))
        (L6_0 l l1 b1 n (IntKind.wrap .i64 (n1 + 1)) R))))
     (cond (decide ((n2 : Int) = 3))
      (∃ s2 : ByteArray, ((0 : Int) ≤ (IntKind.wrap .i64 (n1 + 1)) ∧ l[(Int.toNat (IntKind.wrap .i64 (n1 + 1)))]? = some (st s2)) ∧
       (∃ l2 : List T, ∃ b2 : Bool, (Rn 20 [(st s2)] ((.tup [(.sl 2 l2), (tb b2)]), [.dead])) ∧
        (cond (!b2)
         (R = ((.tup [(.sl 1 []), (i64 2)]), [.dead]))
         (L6_0 l l1 b2 n (IntKind.wrap .i64 (n1 + 1)) R))))
      (cond (!ok)
       (R = ((.tup [(.sl 1 []), (i64 2)]), [.dead]))
       (L6_0 l l1 ok n (IntKind.wrap .i64 (n1 + 1)) R))))))
  (R = ((.tup [(.sl 1 l), (i64 0)]), [.dead]))) : L6_0 l l1 ok n n1 R := by
  unfold L6_0
  refine cutL_rule (ann := A6) (mv := MV) mixed (by kernel_rfl) ?_
  all_goals revert h
  all_goals refine via ?_
  all_goals kernel_rfl
set_option maxRecDepth 100000 in
theorem f6 (line : ByteArray) (R : T × List T) (h : cond (decide ((13000 : Int) < (((ByteArray.size line) : Nat) : Int)))
  (R = ((.tup [(.sl 1 []), (i64 4)]), [.dead]))
  (cond (decide ((4 : Int) ≤ (((ByteArray.size line) : Nat) : Int)))
   (((0 : Int) ≤ 4 ∧ 4 ≤ (((ByteArray.size line) : Nat) : Int)) ∧
    (cond (decide ((ByteArray.extract line 0 4) = (bs [97, 100, 100, 32])))
     (((0 : Int) ≤ 4 ∧ 4 ≤ (((ByteArray.size line) : Nat) : Int)) ∧
      (R = ((.tup [(.sl 1 [(st (bs [97, 100, 100])), (st (ByteArray.extract line 4 (ByteArray.size line)))]), (i64 0)]), [.dead])))
     (∃ l : List T, (Rn 16 [(st line), (u8 32)] ((.sl 1 l), [.dead, .dead])) ∧
      (∃ s : ByteArray, ((0 : Int) ≤ 0 ∧ l[0]? = some (st s)) ∧
       (∃ l1 : List T, ∃ b : Bool, (Rn 17 [(st s)] ((.tup [(.sl 1 l1), (tb b)]), [.dead])) ∧
        (cond (!b)
         (R = ((.tup [(.sl 1 []), (i64 2)]), [.dead]))
         (cond (!(decide (((((List.length l) : Nat) : Int) : Int) = (IntKind.wrap .i64 ((((List.length l1) : Nat) : Int) + 1)))))
          (R = ((.tup [(.sl 1 []), (i64 2)]), [.dead]))
          (L6_0 l l1 b (((List.length l1) : Nat) : Int) 0 R))))))))
   (∃ l2 : List T, (Rn 16 [(st line), (u8 32)] ((.sl 1 l2), [.dead, .dead])) ∧
    (∃ s1 : ByteArray, ((0 : Int) ≤ 0 ∧ l2[0]? = some (st s1)) ∧
     (∃ l3 : List T, ∃ b1 : Bool, (Rn 17 [(st s1)] ((.tup [(.sl 1 l3), (tb b1)]), [.dead])) ∧
      (cond (!b1)
       (R = ((.tup [(.sl 1 []), (i64 2)]), [.dead]))
       (cond (!(decide (((((List.length l2) : Nat) : Int) : Int) = (IntKind.wrap .i64 ((((List.length l3) : Nat) : Int) + 1)))))
        (R = ((.tup [(.sl 1 []), (i64 2)]), [.dead]))
        (L6_0 l2 l3 b1 (((List.length l3) : Nat) : Int) 0 R)))))))) : Rn 6 [(st line)] R := by
  refine fn_rule (ann := A6) (mv := MV) (fz := true) mixed Tryd.func6 (c := B6) (by kernel_rfl) (by decide) ?_
  all_goals revert h
  all_goals refine via ?_
  all_goals kernel_rfl
/- tumbrel/tumbrellaw23.same -/
noncomputable def A7 : Ann := mkAnn [] [(99432, [.ex ByteArray fun w => .done (st w)]), (99688, [.ex ByteArray fun w => .done (st w)])] [] [(116, [0, 1, 12, 13])]
noncomputable abbrev B7 : Code := Tryd.f7.body.getD .skip
def L7_0 (l : List T) (b : List T) (n : Int) (n1 : Int) (R : T × List T) : Prop := CutL Tryd.prog Tryd.f7 B7 true [1, 1, 0, 1, 0, 0] (mkSt 26 [(0, (.sl 1 l)), (1, (.sl 1 b)), (12, (i64 n)), (13, (i64 n1))] []) [.dead, .dead] R
set_option maxRecDepth 100000 in
theorem l7_0 (l : List T) (b : List T) (n : Int) (n1 : Int) (R : T × List T) (h : cond (decide ((n1 : Int) < n))
  (∃ s : ByteArray, ((0 : Int) ≤ n1 ∧ l[(Int.toNat n1)]? = some (st s)) ∧
   (∃ s1 : ByteArray, ((0 : Int) ≤ n1 ∧ b[(Int.toNat n1)]? = some (st s1)) ∧
    (cond (!(decide (s = s1)))
     (R = ((tb false), [.dead, .dead]))
     (L7_0 l b n (IntKind.wrap .i64 (n1 + 1)) R))))
  (R = ((tb true), [.dead, .dead]))) : L7_0 l b n n1 R := by
  unfold L7_0
  refine cutL_rule (ann := A7) (mv := MV) mixed (by kernel_rfl) ?_
  all_goals revert h
  all_goals refine via ?_
  all_goals kernel_rfl
set_option maxRecDepth 100000 in
theorem f7 (l : List T) (b : List T) (R : T × List T) (h : cond (!(decide (((((List.length l) : Nat) : Int) : Int) = (((List.length b) : Nat) : Int))))
  (R = ((tb false), [.dead, .dead]))
  (L7_0 l b (((List.length l) : Nat) : Int) 0 R)) : Rn 7 [(.sl 1 l), (.sl 1 b)] R := by
  refine fn_rule (ann := A7) (mv := MV) (fz := true) mixed Tryd.func7 (c := B7) (by kernel_rfl) (by decide) ?_
  all_goals revert h
  all_goals refine via ?_
  all_goals kernel_rfl
/- tumbrel/admin.Word -/
noncomputable def A8 : Ann := mkAnn [] [(66728, [.ex ByteArray fun w => .done (st w)])] [] []
noncomputable abbrev B8 : Code := Tryd.f8.body.getD .skip
set_option maxRecDepth 100000 in
theorem f8 (e : Int) (R : T × List T) (h : cond (decide ((e : Int) < 0))
  (R = ((st (bs [])), [.dead]))
  (cond (decide ((19 : Int) ≤ e))
   (R = ((st (bs [])), [.dead]))
   (((0 : Int) ≤ e ∧ e < 19) ∧
    (∃ s : ByteArray, (([(st (bs [])), (st (bs [97, 114, 103])), (st (bs [102, 111, 114, 109])), (st (bs [114, 97, 110, 103, 101])), (st (bs [108, 111, 110, 103])), (st (bs [110, 111, 110, 101])), (st (bs [101, 120, 105, 115, 116, 115])), (st (bs [102, 117, 108, 108])), (st (bs [108, 111, 115, 116])), (st (bs [98, 97, 100])), (st (bs [115, 116, 97, 116, 101])), (st (bs [119, 111, 114, 100])), (st (bs [115, 121, 110, 116, 97, 120])), (st (bs [100, 101, 101, 112])), (st (bs [110, 97, 109, 101])), (st (bs [116, 97, 114, 103, 101, 116])), (st (bs [108, 101, 97, 102])), (st (bs [98, 97, 99, 107])), (st (bs [109, 97, 112]))] : List T)[(Int.toNat e)]? = some (st s)) ∧
     (R = ((st s), [.dead])))))) : Rn 8 [(i64 e)] R := by
  refine fn_rule (ann := A8) (mv := MV) (fz := true) mixed Tryd.func8 (c := B8) (by kernel_rfl) (by decide) ?_
  all_goals revert h
  all_goals refine via ?_
  all_goals kernel_rfl
/- tumbrel/tumbrelref23.Word -/
noncomputable def A9 : Ann := mkAnn [] [] [] []
noncomputable abbrev B9 : Code := Tryd.f9.body.getD .skip
set_option maxRecDepth 100000 in
theorem f9 (e : Int) (R : T × List T) (h : cond (decide ((e : Int) = 1))
  (R = ((st (bs [97, 114, 103])), [.dead]))
  (cond (decide ((e : Int) = 2))
   (R = ((st (bs [102, 111, 114, 109])), [.dead]))
   (cond (decide ((e : Int) = 3))
    (R = ((st (bs [114, 97, 110, 103, 101])), [.dead]))
    (cond (decide ((e : Int) = 4))
     (R = ((st (bs [108, 111, 110, 103])), [.dead]))
     (cond (decide ((e : Int) = 5))
      (R = ((st (bs [110, 111, 110, 101])), [.dead]))
      (cond (decide ((e : Int) = 6))
       (R = ((st (bs [101, 120, 105, 115, 116, 115])), [.dead]))
       (cond (decide ((e : Int) = 7))
        (R = ((st (bs [102, 117, 108, 108])), [.dead]))
        (cond (decide ((e : Int) = 8))
         (R = ((st (bs [108, 111, 115, 116])), [.dead]))
         (cond (decide ((e : Int) = 9))
          (R = ((st (bs [98, 97, 100])), [.dead]))
          (cond (decide ((e : Int) = 10))
           (R = ((st (bs [115, 116, 97, 116, 101])), [.dead]))
           (cond (decide ((e : Int) = 11))
            (R = ((st (bs [119, 111, 114, 100])), [.dead]))
            (cond (decide ((e : Int) = 12))
             (R = ((st (bs [115, 121, 110, 116, 97, 120])), [.dead]))
             (cond (decide ((e : Int) = 13))
              (R = ((st (bs [100, 101, 101, 112])), [.dead]))
              (cond (decide ((e : Int) = 14))
               (R = ((st (bs [110, 97, 109, 101])), [.dead]))
               (cond (decide ((e : Int) = 15))
                (R = ((st (bs [116, 97, 114, 103, 101, 116])), [.dead]))
                (cond (decide ((e : Int) = 16))
                 (R = ((st (bs [108, 101, 97, 102])), [.dead]))
                 (cond (decide ((e : Int) = 17))
                  (R = ((st (bs [98, 97, 99, 107])), [.dead]))
                  (cond (decide ((e : Int) = 18))
                   (R = ((st (bs [109, 97, 112])), [.dead]))
                   (R = ((st (bs [])), [.dead])))))))))))))))))))) : Rn 9 [(i64 e)] R := by
  refine fn_rule (ann := A9) (mv := MV) (fz := true) mixed Tryd.func9 (c := B9) (by kernel_rfl) (by decide) ?_
  all_goals revert h
  all_goals refine via ?_
  all_goals kernel_rfl
/- tumbrel/admin.shape -/
noncomputable def A12 : Ann := mkAnn [] [] [] []
noncomputable abbrev B12 : Code := Tryd.f12.body.getD .skip
set_option maxRecDepth 100000 in
theorem f12 (first : ByteArray) (R : T × List T) (h : cond (decide (first = (bs [115, 116, 97, 114, 116])))
  (R = ((.tup [(st (bs [110, 105])), (tb true)]), [.dead]))
  (cond (decide (first = (bs [99, 97, 110, 99, 101, 108])))
   (R = ((.tup [(st (bs [105])), (tb true)]), [.dead]))
   (cond (decide (first = (bs [104, 111, 108, 100])))
    (R = ((.tup [(st (bs [105])), (tb true)]), [.dead]))
    (cond (decide (first = (bs [114, 101, 108, 101, 97, 115, 101])))
     (R = ((.tup [(st (bs [105])), (tb true)]), [.dead]))
     (cond (decide (first = (bs [115, 116, 97, 116, 117, 115])))
      (R = ((.tup [(st (bs [105])), (tb true)]), [.dead]))
      (cond (decide (first = (bs [115, 116, 97, 99, 107])))
       (R = ((.tup [(st (bs [105])), (tb true)]), [.dead]))
       (cond (decide (first = (bs [115, 105, 103, 110, 97, 108])))
        (R = ((.tup [(st (bs [105, 110])), (tb true)]), [.dead]))
        (cond (decide (first = (bs [109, 105, 103, 114, 97, 116, 101])))
         (R = ((.tup [(st (bs [105, 110, 105, 112])), (tb true)]), [.dead]))
         (cond (decide (first = (bs [108, 105, 115, 116])))
          (R = ((.tup [(st (bs [])), (tb true)]), [.dead]))
          (cond (decide (first = (bs [99, 104, 97, 114, 116, 115])))
           (R = ((.tup [(st (bs [])), (tb true)]), [.dead]))
           (cond (decide (first = (bs [99, 111, 109, 112, 97, 99, 116])))
            (R = ((.tup [(st (bs [])), (tb true)]), [.dead]))
            (R = ((.tup [(st (bs [])), (tb false)]), [.dead]))))))))))))) : Rn 12 [(st first)] R := by
  refine fn_rule (ann := A12) (mv := MV) (fz := true) mixed Tryd.func12 (c := B12) (by kernel_rfl) (by decide) ?_
  all_goals revert h
  all_goals refine via ?_
  all_goals kernel_rfl
/- tumbrel/admin.number -/
noncomputable def A13 : Ann := mkAnn [(17448, (fun a => [.ex (Int) fun n => .ex (IfV) fun e => .done ((.tup [(i64 n), e.v]), [.dead])])), (34664, (fun a => [.ex (ByteArray) fun s => .done ((st s), [.dead])]))] [] [] []
noncomputable abbrev B13 : Code := Tryd.f13.body.getD .skip
set_option maxRecDepth 100000 in
theorem f13 (s : ByteArray) (R : T × List T) (h : ∃ n : Int, ∃ e : IfV, (Rn 23 [(st s)] ((.tup [(i64 n), e.v]), [.dead])) ∧
  (cond (decide (e.t = 0))
   (cond (decide ((0 : Int) ≤ n))
    (cond (decide (((((ByteArray.size s) : Nat) : Int) : Int) ≤ 9))
     (∃ s1 : ByteArray, (Rn 24 [(i64 n)] ((st s1), [.dead])) ∧
      (R = ((.tup [(i64 n), (tb (decide (s1 = s)))]), [.dead])))
     (R = ((.tup [(i64 n), (tb false)]), [.dead])))
    (R = ((.tup [(i64 n), (tb false)]), [.dead])))
   (R = ((.tup [(i64 n), (tb false)]), [.dead])))) : Rn 13 [(st s)] R := by
  refine fn_rule (ann := A13) (mv := MV) (fz := true) mixed Tryd.func13 (c := B13) (by kernel_rfl) (by decide) ?_
  all_goals revert h
  all_goals refine via ?_
  all_goals kernel_rfl
/- tumbrel/glyph.Name -/
noncomputable def A14 : Ann := mkAnn [(82984, (fun a => [.ex (Bool) fun b => .done ((tb b), [.dead])])), (83432, (fun a => [.ex (Bool) fun b => .done ((tb b), [.dead])]))] [] [] [(116, [3, 7])]
noncomputable abbrev B14 : Code := Tryd.f14.body.getD .skip
def L14_0 (n : Int) (s : ByteArray) (pos : Nat) (R : T × List T) : Prop := CutL Tryd.prog Tryd.f14 B14 true [1, 1, 0, 1, 0, 0] (mkSt 32 [(3, (i64 n)), (7, (.it (1000000008, 0)))] [((1000000008, 0), .iter s pos)]) [.dead] R
set_option maxRecDepth 100000 in
theorem l14_0 (n : Int) (s : ByteArray) (pos : Nat) (R : T × List T) (h : cond (Nat.ble (pos + 1) (ByteArray.size s))
  (∃ b : Bool, (Rn 25 [(i32 (Utf8.decode s pos).1)] ((tb b), [.dead])) ∧
   (cond (!b)
    (R = ((tb false), [.dead]))
    (cond (decide ((((pos : Nat) : Int) : Int) = 0))
     (∃ b1 : Bool, (Rn 26 [(i32 (Utf8.decode s pos).1)] ((tb b1), [.dead])) ∧
      (cond (!b1)
       (R = ((tb false), [.dead]))
       (L14_0 (IntKind.wrap .i64 (n + 1)) s (pos + (Utf8.decode s pos).2) R)))
     (L14_0 (IntKind.wrap .i64 (n + 1)) s (pos + (Utf8.decode s pos).2) R))))
  (cond (decide ((0 : Int) < n))
   (R = ((tb (decide ((n : Int) ≤ 24))), [.dead]))
   (R = ((tb false), [.dead])))) : L14_0 n s pos R := by
  unfold L14_0
  refine cutL_rule (ann := A14) (mv := MV) mixed (by kernel_rfl) ?_
  all_goals revert h
  all_goals refine via ?_
  all_goals kernel_rfl
set_option maxRecDepth 100000 in
theorem f14 (s : ByteArray) (R : T × List T) (h : L14_0 0 s 0 R) : Rn 14 [(st s)] R := by
  refine fn_rule (ann := A14) (mv := MV) (fz := true) mixed Tryd.func14 (c := B14) (by kernel_rfl) (by decide) ?_
  all_goals revert h
  all_goals refine via ?_
  all_goals kernel_rfl
/- tumbrel/admin.pairs -/
noncomputable def A15 : Ann := mkAnn [(66600, (fun a => [.ex (List T) fun l => .done ((.sl 1 l), [.dead, .dead])])), (115752, (fun a => [.ex (ByteArray) fun s => .ex (ByteArray) fun s1 => .ex (Bool) fun b => .done ((.tup [(st s), (st s1), (tb b)]), [.dead, .dead])])), (132328, (fun a => [.ex (Bool) fun b => .done ((tb b), [.dead])])), (132648, (fun a => [.ex (Bool) fun b => .done ((tb b), [.dead])]))] [(99304, [.ex ByteArray fun w => .done (st w)])] [] [(244, [4, 13, 14, 15])]
noncomputable abbrev B15 : Code := Tryd.f15.body.getD .skip
def L15_0 (l : List T) (l1 : List T) (n : Int) (n1 : Int) (R : T × List T) : Prop := CutL Tryd.prog Tryd.f15 B15 true [1, 1, 1, 0, 1, 0, 0] (mkSt 45 [(4, (mnT (1000000005, 0) l)), (13, (.sl 1 l1)), (14, (i64 n)), (15, (i64 n1))] (mnH (1000000005, 0) 57 2 l)) [.dead] R
set_option maxRecDepth 100000 in
theorem l15_0 (l : List T) (l1 : List T) (n : Int) (n1 : Int) (R : T × List T) (h : cond (decide ((n1 : Int) < n))
  (∃ s : ByteArray, ((0 : Int) ≤ n1 ∧ l1[(Int.toNat n1)]? = some (st s)) ∧
   (∃ s1 : ByteArray, ∃ s2 : ByteArray, ∃ b : Bool, (Rn 27 [(st s), (st (bs [62]))] ((.tup [(st s1), (st s2), (tb b)]), [.dead, .dead])) ∧
    (cond (!b)
     (R = ((.tup [(.sl 2 []), (tb false)]), [.dead]))
     (∃ b1 : Bool, (Rn 14 [(st s1)] ((tb b1), [.dead])) ∧
      (cond (!b1)
       (R = ((.tup [(.sl 2 []), (tb false)]), [.dead]))
       (∃ b2 : Bool, (Rn 14 [(st s2)] ((tb b2), [.dead])) ∧
        (cond (!b2)
         (R = ((.tup [(.sl 2 []), (tb false)]), [.dead]))
         (chk (Nat.ble (((List.length l) + 1) * 32) 140737488355328)
          (L15_0 (l ++ [(.agg [(st s1), (st s2)])]) l1 n (IntKind.wrap .i64 (n1 + 1)) R)))))))))
  (R = ((.tup [(.sl 2 l), (tb true)]), [.dead]))) : L15_0 l l1 n n1 R := by
  unfold L15_0
  refine cutL_rule (ann := A15) (mv := MV) mixed (by kernel_rfl) ?_
  all_goals rcases l with _ | ⟨_, _⟩
  all_goals revert h
  all_goals refine via ?_
  all_goals kernel_rfl
set_option maxRecDepth 100000 in
theorem f15 (s : ByteArray) (R : T × List T) (h : cond (decide (s = (bs [45])))
  (R = ((.tup [(.sl 2 []), (tb true)]), [.dead]))
  (∃ l : List T, (Rn 11 [(st s), (st (bs [44]))] ((.sl 1 l), [.dead, .dead])) ∧
   (L15_0 ([] : List T) l (((List.length l) : Nat) : Int) 0 R))) : Rn 15 [(st s)] R := by
  refine fn_rule (ann := A15) (mv := MV) (fz := true) mixed Tryd.func15 (c := B15) (by kernel_rfl) (by decide) ?_
  all_goals revert h
  all_goals refine via ?_
  all_goals kernel_rfl
/- tumbrel/tumbrelref23.pieces -/
noncomputable def A16 : Ann := mkAnn [] [] [] [(244, [0, 1, 5, 6, 7])]
noncomputable abbrev B16 : Code := Tryd.f16.body.getD .skip
def L16_0 (s : ByteArray) (n : Int) (from_ : Int) (i : Int) (l : List T) (R : T × List T) : Prop := CutL Tryd.prog Tryd.f16 B16 true [1, 1, 1, 0, 1, 0, 0] (mkSt 35 [(0, (st s)), (1, (u8 n)), (5, (.own (1000000006, 0))), (6, (i64 from_)), (7, (i64 i))] [((1000000006, 0), .arr 9 1 l)]) [.dead, .dead] R
set_option maxRecDepth 100000 in
theorem l16_0 (s : ByteArray) (n : Int) (from_ : Int) (i : Int) (l : List T) (R : T × List T) (h : cond (decide ((i : Int) < (((ByteArray.size s) : Nat) : Int)))
  (((0 : Int) ≤ i ∧ i < (((ByteArray.size s) : Nat) : Int)) ∧
   (cond (decide (((byteAt s (Int.toNat i)) : Int) = n))
    (((0 : Int) ≤ i ∧ i ≤ (((ByteArray.size s) : Nat) : Int)) ∧
     (((0 : Int) ≤ from_ ∧ from_ ≤ (((Int.toNat i) : Nat) : Int)) ∧
      (chk (Nat.ble (((List.length l) + 1) * 16) 140737488355328)
       (L16_0 s n (IntKind.wrap .i64 (i + 1)) (IntKind.wrap .i64 (i + 1)) ((l ++ [(st (ByteArray.extract s (Int.toNat from_) (Int.toNat i)))])) R))))
    (L16_0 s n from_ (IntKind.wrap .i64 (i + 1)) l R)))
  (((0 : Int) ≤ from_ ∧ from_ ≤ (((ByteArray.size s) : Nat) : Int)) ∧
   (chk (Nat.ble (((List.length l) + 1) * 16) 140737488355328)
    (R = ((.sl 1 (l ++ [(st (ByteArray.extract s (Int.toNat from_) (ByteArray.size s)))])), [.dead, .dead]))))) : L16_0 s n from_ i l R := by
  unfold L16_0
  refine cutL_rule (ann := A16) (mv := MV) mixed (by kernel_rfl) ?_
  all_goals revert h
  all_goals refine via ?_
  all_goals kernel_rfl
set_option maxRecDepth 100000 in
theorem f16 (s : ByteArray) (n : Int) (R : T × List T) (h : L16_0 s n 0 0 ([] : List T) R) : Rn 16 [(st s), (u8 n)] R := by
  refine fn_rule (ann := A16) (mv := MV) (fz := true) mixed Tryd.func16 (c := B16) (by kernel_rfl) (by decide) ?_
  all_goals revert h
  all_goals refine via ?_
  all_goals kernel_rfl
/- tumbrel/tumbrelref23.kinds -/
noncomputable def A17 : Ann := mkAnn [] [] [] []
noncomputable abbrev B17 : Code := Tryd.f17.body.getD .skip
set_option maxRecDepth 100000 in
theorem f17 (first : ByteArray) (R : T × List T) (h : cond (decide (first = (bs [115, 116, 97, 114, 116])))
  (R = ((.tup [(.sl 1 [(i64 2), (i64 1)]), (tb true)]), [.dead]))
  (cond (decide (first = (bs [99, 97, 110, 99, 101, 108])))
   (R = ((.tup [(.sl 1 [(i64 1)]), (tb true)]), [.dead]))
   (cond (decide (first = (bs [104, 111, 108, 100])))
    (R = ((.tup [(.sl 1 [(i64 1)]), (tb true)]), [.dead]))
    (cond (decide (first = (bs [114, 101, 108, 101, 97, 115, 101])))
     (R = ((.tup [(.sl 1 [(i64 1)]), (tb true)]), [.dead]))
     (cond (decide (first = (bs [115, 116, 97, 116, 117, 115])))
      (R = ((.tup [(.sl 1 [(i64 1)]), (tb true)]), [.dead]))
      (cond (decide (first = (bs [115, 116, 97, 99, 107])))
       (R = ((.tup [(.sl 1 [(i64 1)]), (tb true)]), [.dead]))
       (cond (decide (first = (bs [115, 105, 103, 110, 97, 108])))
        (R = ((.tup [(.sl 1 [(i64 1), (i64 2)]), (tb true)]), [.dead]))
        (cond (decide (first = (bs [109, 105, 103, 114, 97, 116, 101])))
         (R = ((.tup [(.sl 1 [(i64 1), (i64 2), (i64 1), (i64 3)]), (tb true)]), [.dead]))
         (cond (decide (first = (bs [108, 105, 115, 116])))
          (R = ((.tup [(.sl 1 []), (tb true)]), [.dead]))
          (cond (decide (first = (bs [99, 104, 97, 114, 116, 115])))
           (R = ((.tup [(.sl 1 []), (tb true)]), [.dead]))
           (cond (decide (first = (bs [99, 111, 109, 112, 97, 99, 116])))
            (R = ((.tup [(.sl 1 []), (tb true)]), [.dead]))
            (R = ((.tup [(.sl 1 []), (tb false)]), [.dead]))))))))))))) : Rn 17 [(st first)] R := by
  refine fn_rule (ann := A17) (mv := MV) (fz := true) mixed Tryd.func17 (c := B17) (by kernel_rfl) (by decide) ?_
  all_goals revert h
  all_goals refine via ?_
  all_goals kernel_rfl
/- tumbrel/tumbrelref23.Number -/
noncomputable def A18 : Ann := mkAnn [(50216, (fun a => [.ex (Int) fun n => .ex (Bool) fun b => .done ((.tup [(i64 n), (tb b)]), [.dead])]))] [] [] []
noncomputable abbrev B18 : Code := Tryd.f18.body.getD .skip
set_option maxRecDepth 100000 in
theorem f18 (s : ByteArray) (R : T × List T) (h : cond (decide ((9 : Int) < (((ByteArray.size s) : Nat) : Int)))
  (R = ((.tup [(i64 0), (tb false)]), [.dead]))
  (∃ n : Int, ∃ b : Bool, (Rn 28 [(st s)] ((.tup [(i64 n), (tb b)]), [.dead])) ∧
   (R = ((.tup [(i64 n), (tb b)]), [.dead])))) : Rn 18 [(st s)] R := by
  refine fn_rule (ann := A18) (mv := MV) (fz := true) mixed Tryd.func18 (c := B18) (by kernel_rfl) (by decide) ?_
  all_goals revert h
  all_goals refine via ?_
  all_goals kernel_rfl
/- tumbrel/tumbrelref03.Name -/
noncomputable def A19 : Ann := mkAnn [(17448, (fun a => [.ex (Int) fun n => .ex (Int) fun n1 => .done ((.tup [(i32 n), (i64 n1)]), [.dead])])), (33832, (fun a => [.ex (Int) fun n => .ex (Int) fun n1 => .done ((.tup [(i64 n), (i64 n1)]), [.dead])])), (50216, (fun a => [.ex (Bool) fun b => .done ((tb b), [.dead])]))] [] [] []
noncomputable abbrev B19 : Code := Tryd.f19.body.getD .skip
set_option maxRecDepth 100000 in
theorem f19 (s : ByteArray) (R : T × List T) (h : ∃ n : Int, ∃ n1 : Int, (Rn 29 [(st s)] ((.tup [(i32 n), (i64 n1)]), [.dead])) ∧
  (∃ n2 : Int, ∃ n3 : Int, (Rn 30 [(st s)] ((.tup [(i64 n2), (i64 n3)]), [.dead])) ∧
   (∃ b : Bool, (Rn 31 [(i32 n)] ((tb b), [.dead])) ∧
    (cond b
     (cond (decide ((n2 : Int) = (((ByteArray.size s) : Nat) : Int)))
      (R = ((tb (decide ((n3 : Int) ≤ 24))), [.dead]))
      (R = ((tb false), [.dead])))
     (R = ((tb false), [.dead])))))) : Rn 19 [(st s)] R := by
  refine fn_rule (ann := A19) (mv := MV) (fz := true) mixed Tryd.func19 (c := B19) (by kernel_rfl) (by decide) ?_
  all_goals revert h
  all_goals refine via ?_
  all_goals kernel_rfl
/- tumbrel/tumbrelref23.Pairs -/
noncomputable def A20 : Ann := mkAnn [(66600, (fun a => [.ex (List T) fun l => .done ((.sl 1 l), [.dead, .dead])])), (132328, (fun a => [.ex (List T) fun l => .done ((.sl 1 l), [.dead, .dead])])), (148904, (fun a => [.ex (Bool) fun b => .done ((tb b), [.dead])])), (149352, (fun a => [.ex (Bool) fun b => .done ((tb b), [.dead])]))] [(132200, [.ex ByteArray fun w => .done (st w)]), (148776, [.ex ByteArray fun w => .done (st w)]), (149224, [.ex ByteArray fun w => .done (st w)]), (181352, [.ex ByteArray fun w => .done (st w)]), (181544, [.ex ByteArray fun w => .done (st w)])] [] [(500, [4, 5, 13, 14])]
noncomputable abbrev B20 : Code := Tryd.f20.body.getD .skip
def L20_0 (l : List T) (l1 : List T) (n : Int) (n1 : Int) (R : T × List T) : Prop := CutL Tryd.prog Tryd.f20 B20 true [1, 1, 1, 1, 0, 1, 0, 0] (mkSt 51 [(4, (mnT (1000000005, 0) l)), (5, (.sl 1 l1)), (13, (i64 n)), (14, (i64 n1))] (mnH (1000000005, 0) 64 2 l)) [.dead] R
set_option maxRecDepth 100000 in
theorem l20_0 (l : List T) (l1 : List T) (n : Int) (n1 : Int) (R : T × List T) (h : cond (decide ((n1 : Int) < n))
  (∃ s : ByteArray, ((0 : Int) ≤ n1 ∧ l1[(Int.toNat n1)]? = some (st s)) ∧
   (∃ l2 : List T, (Rn 16 [(st s), (u8 62)] ((.sl 1 l2), [.dead, .dead])) ∧
    (cond (!(decide (((((List.length l2) : Nat) : Int) : Int) = 2)))
     (R = ((.tup [(.sl 2 []), (tb false)]), [.dead]))
     (∃ s1 : ByteArray, ((0 : Int) ≤ 0 ∧ l2[0]? = some (st s1)) ∧
      (∃ b : Bool, (Rn 19 [(st s1)] ((tb b), [.dead])) ∧
       (cond (!b)
        (R = ((.tup [(.sl 2 []), (tb false)]), [.dead]))
        (∃ s2 : ByteArray, ((0 : Int) ≤ 1 ∧ l2[1]? = some (st s2)) ∧
         (∃ b1 : Bool, (Rn 19 [(st s2)] ((tb b1), [.dead])) ∧
          (cond (!b1)
           (R = ((.tup [(.sl 2 []), (tb false)]), [.dead]))
           (∃ s3 : ByteArray, ((0 : Int) ≤ 0 ∧ l2[0]? = some (st s3)) ∧
            (∃ s4 : ByteArray, ((0 : Int) ≤ 1 ∧ l2[1]? = some (st s4)) ∧
             (chk (Nat.ble (((List.length l) + 1) * 32) 140737488355328)
              (L20_0 (l ++ [(.agg [(st s3), (st s4)])]) l1 n (IntKind.wrap .i64 (n1 + 1)) R)))))))))))))
  (R = ((.tup [(.sl 2 l), (tb true)]), [.dead]))) : L20_0 l l1 n n1 R := by
  unfold L20_0
  refine cutL_rule (ann := A20) (mv := MV) mixed (by kernel_rfl) ?_
  all_goals rcases l with _ | ⟨_, _⟩
  all_goals revert h
  all_goals refine via ?_
  all_goals kernel_rfl
set_option maxRecDepth 100000 in
theorem f20 (s : ByteArray) (R : T × List T) (h : cond (decide (s = (bs [45])))
  (R = ((.tup [(.sl 2 []), (tb true)]), [.dead]))
  (∃ l : List T, (Rn 16 [(st s), (u8 44)] ((.sl 1 l), [.dead, .dead])) ∧
   (L20_0 ([] : List T) l (((List.length l) : Nat) : Int) 0 R))) : Rn 20 [(st s)] R := by
  refine fn_rule (ann := A20) (mv := MV) (fz := true) mixed Tryd.func20 (c := B20) (by kernel_rfl) (by decide) ?_
  all_goals revert h
  all_goals refine via ?_
  all_goals kernel_rfl
/- tumbrel/glyph.inside -/
noncomputable def A25 : Ann := mkAnn [(17448, (fun a => [.ex (Bool) fun b => .done ((tb b), [.dead])])), (17640, (fun a => [.ex (Bool) fun b => .done ((tb b), [.dead])]))] [] [] []
noncomputable abbrev B25 : Code := Tryd.f25.body.getD .skip
set_option maxRecDepth 100000 in
theorem f25 (n : Int) (R : T × List T) (h : ∃ b : Bool, (Rn 26 [(i32 n)] ((tb b), [.dead])) ∧
  (cond b
   (R = ((tb true), [.dead]))
   (∃ b1 : Bool, (Rn 39 [(i32 n)] ((tb b1), [.dead])) ∧
    (cond b1
     (R = ((tb true), [.dead]))
     (R = ((tb (decide ((n : Int) = 95))), [.dead])))))) : Rn 25 [(i32 n)] R := by
  refine fn_rule (ann := A25) (mv := MV) (fz := true) mixed Tryd.func25 (c := B25) (by kernel_rfl) (by decide) ?_
  all_goals revert h
  all_goals refine via ?_
  all_goals kernel_rfl
/- tumbrel/glyph.Letter -/
noncomputable def A26 : Ann := mkAnn [] [] [] []
noncomputable abbrev B26 : Code := Tryd.f26.body.getD .skip
set_option maxRecDepth 100000 in
theorem f26 (n : Int) (R : T × List T) (h : cond (decide ((97 : Int) ≤ n))
  (cond (decide ((n : Int) ≤ 122))
   (R = ((tb true), [.dead]))
   (cond (decide ((65 : Int) ≤ n))
    (cond (decide ((n : Int) ≤ 90))
     (R = ((tb true), [.dead]))
     (cond (decide ((1072 : Int) ≤ n))
      (R = ((tb (decide ((n : Int) ≤ 1103))), [.dead]))
      (R = ((tb false), [.dead]))))
    (cond (decide ((1072 : Int) ≤ n))
     (R = ((tb (decide ((n : Int) ≤ 1103))), [.dead]))
     (R = ((tb false), [.dead])))))
  (cond (decide ((65 : Int) ≤ n))
   (cond (decide ((n : Int) ≤ 90))
    (R = ((tb true), [.dead]))
    (cond (decide ((1072 : Int) ≤ n))
     (R = ((tb (decide ((n : Int) ≤ 1103))), [.dead]))
     (R = ((tb false), [.dead]))))
   (cond (decide ((1072 : Int) ≤ n))
    (R = ((tb (decide ((n : Int) ≤ 1103))), [.dead]))
    (R = ((tb false), [.dead]))))) : Rn 26 [(i32 n)] R := by
  refine fn_rule (ann := A26) (mv := MV) (fz := true) mixed Tryd.func26 (c := B26) (by kernel_rfl) (by decide) ?_
  all_goals revert h
  all_goals refine via ?_
  all_goals kernel_rfl
/- tumbrel/tumbrelref03.Number -/
noncomputable def A28 : Ann := mkAnn [] [] [] [(244, [0, 4, 5])]
noncomputable abbrev B28 : Code := Tryd.f28.body.getD .skip
def L28_0 (s : ByteArray) (n : Int) (i : Int) (R : T × List T) : Prop := CutL Tryd.prog Tryd.f28 B28 true [1, 1, 1, 0, 1, 0, 0] (mkSt 51 [(0, (st s)), (4, (i64 n)), (5, (i64 i))] []) [.dead] R
set_option maxRecDepth 100000 in
theorem l28_0 (s : ByteArray) (n : Int) (i : Int) (R : T × List T) (h : cond (decide ((i : Int) < (((ByteArray.size s) : Nat) : Int)))
  (((0 : Int) ≤ i ∧ i < (((ByteArray.size s) : Nat) : Int)) ∧
   (cond (decide (((byteAt s (Int.toNat i)) : Int) < 48))
    (R = ((.tup [(i64 0), (tb false)]), [.dead]))
    (((0 : Int) ≤ i ∧ i < (((ByteArray.size s) : Nat) : Int)) ∧
     (cond (decide ((57 : Int) < (byteAt s (Int.toNat i))))
      (R = ((.tup [(i64 0), (tb false)]), [.dead]))
      (((0 : Int) ≤ i ∧ i < (((ByteArray.size s) : Nat) : Int)) ∧
       (L28_0 s ((IntKind.wrap .i64 ((IntKind.wrap .i64 (10 * n)) + (IntKind.wrap .i64 (IntKind.wrap .u8 ((byteAt s (Int.toNat i)) - 48)))))) (IntKind.wrap .i64 (i + 1)) R))))))
  (R = ((.tup [(i64 n), (tb (decide ((n : Int) ≤ 1000000000)))]), [.dead]))) : L28_0 s n i R := by
  unfold L28_0
  refine cutL_rule (ann := A28) (mv := MV) mixed (by kernel_rfl) ?_
  all_goals revert h
  all_goals refine via ?_
  all_goals kernel_rfl
set_option maxRecDepth 100000 in
theorem f28 (s : ByteArray) (R : T × List T) (h : cond (decide (((((ByteArray.size s) : Nat) : Int) : Int) < 1))
  (R = ((.tup [(i64 0), (tb false)]), [.dead]))
  (cond (decide ((10 : Int) < (((ByteArray.size s) : Nat) : Int)))
   (R = ((.tup [(i64 0), (tb false)]), [.dead]))
   (((0 : Int) ≤ 0 ∧ 0 < (((ByteArray.size s) : Nat) : Int)) ∧
    (cond (decide (((byteAt s 0) : Int) = 48))
     (cond (decide ((1 : Int) < (((ByteArray.size s) : Nat) : Int)))
      (R = ((.tup [(i64 0), (tb false)]), [.dead]))
      (L28_0 s 0 0 R))
     (L28_0 s 0 0 R))))) : Rn 28 [(st s)] R := by
  refine fn_rule (ann := A28) (mv := MV) (fz := true) mixed Tryd.func28 (c := B28) (by kernel_rfl) (by decide) ?_
  all_goals revert h
  all_goals refine via ?_
  all_goals kernel_rfl
/- tumbrel/tumbrelref03.next -/
noncomputable def A29 : Ann := mkAnn [(17448, (fun a => [.ex (Int) fun n => .ex (Int) fun n1 => .done ((.tup [(i32 n), (i64 n1)]), [.dead])]))] [] [] []
noncomputable abbrev B29 : Code := Tryd.f29.body.getD .skip
set_option maxRecDepth 100000 in
theorem f29 (s : ByteArray) (R : T × List T) (h : ∃ n : Int, ∃ n1 : Int, (Rn 41 [(st s)] ((.tup [(i32 n), (i64 n1)]), [.dead])) ∧
  (cond (decide ((n : Int) = 65533))
   (cond (decide ((n1 : Int) ≤ 1))
    (R = ((.tup [(i32 (-1)), (i64 n1)]), [.dead]))
    (R = ((.tup [(i32 n), (i64 n1)]), [.dead])))
   (R = ((.tup [(i32 n), (i64 n1)]), [.dead])))) : Rn 29 [(st s)] R := by
  refine fn_rule (ann := A29) (mv := MV) (fz := true) mixed Tryd.func29 (c := B29) (by kernel_rfl) (by decide) ?_
  all_goals revert h
  all_goals refine via ?_
  all_goals kernel_rfl
/- tumbrel/tumbrelref03.run -/
noncomputable def A30 : Ann := mkAnn [(50344, (fun a => [.ex (Int) fun n => .ex (Int) fun n1 => .done ((.tup [(i32 n), (i64 n1)]), [.dead])])), (66600, (fun a => [.ex (Bool) fun b => .done ((tb b), [.dead])]))] [] [] [(56, [0, 4, 5])]
noncomputable abbrev B30 : Code := Tryd.f30.body.getD .skip
def L30_0 (s : ByteArray) (n : Int) (runes : Int) (R : T × List T) : Prop := CutL Tryd.prog Tryd.f30 B30 true [1, 1, 0, 0, 0] (mkSt 29 [(0, (st s)), (4, (i64 n)), (5, (i64 runes))] []) [.dead] R
set_option maxRecDepth 100000 in
theorem l30_0 (s : ByteArray) (n : Int) (runes : Int) (R : T × List T) (h : cond (decide ((n : Int) < (((ByteArray.size s) : Nat) : Int)))
  (((0 : Int) ≤ n ∧ n ≤ (((ByteArray.size s) : Nat) : Int)) ∧
   (∃ n1 : Int, ∃ n2 : Int, (Rn 29 [(st (ByteArray.extract s (Int.toNat n) (ByteArray.size s)))] ((.tup [(i32 n1), (i64 n2)]), [.dead])) ∧
    (∃ b : Bool, (Rn 42 [(i32 n1)] ((tb b), [.dead])) ∧
     (cond (!b)
      (R = ((.tup [(i64 n), (i64 runes)]), [.dead]))
      (L30_0 s (IntKind.wrap .i64 (n + n2)) (IntKind.wrap .i64 (runes + 1)) R)))))
  (R = ((.tup [(i64 n), (i64 runes)]), [.dead]))) : L30_0 s n runes R := by
  unfold L30_0
  refine cutL_rule (ann := A30) (mv := MV) mixed (by kernel_rfl) ?_
  all_goals revert h
  all_goals refine via ?_
  all_goals kernel_rfl
set_option maxRecDepth 100000 in
theorem f30 (s : ByteArray) (R : T × List T) (h : L30_0 s 0 0 R) : Rn 30 [(st s)] R := by
  refine fn_rule (ann := A30) (mv := MV) (fz := true) mixed Tryd.func30 (c := B30) (by kernel_rfl) (by decide) ?_
  all_goals revert h
  all_goals refine via ?_
  all_goals kernel_rfl
/- tumbrel/tumbrelref03.Letter -/
noncomputable def A31 : Ann := mkAnn [] [] [] []
noncomputable abbrev B31 : Code := Tryd.f31.body.getD .skip
set_option maxRecDepth 100000 in
theorem f31 (n : Int) (R : T × List T) (h : cond (decide ((97 : Int) ≤ n))
  (cond (decide ((n : Int) ≤ 122))
   (R = ((tb true), [.dead]))
   (cond (decide ((65 : Int) ≤ n))
    (cond (decide ((n : Int) ≤ 90))
     (R = ((tb true), [.dead]))
     (cond (decide ((1072 : Int) ≤ n))
      (R = ((tb (decide ((n : Int) ≤ 1103))), [.dead]))
      (R = ((tb false), [.dead]))))
    (cond (decide ((1072 : Int) ≤ n))
     (R = ((tb (decide ((n : Int) ≤ 1103))), [.dead]))
     (R = ((tb false), [.dead])))))
  (cond (decide ((65 : Int) ≤ n))
   (cond (decide ((n : Int) ≤ 90))
    (R = ((tb true), [.dead]))
    (cond (decide ((1072 : Int) ≤ n))
     (R = ((tb (decide ((n : Int) ≤ 1103))), [.dead]))
     (R = ((tb false), [.dead]))))
   (cond (decide ((1072 : Int) ≤ n))
    (R = ((tb (decide ((n : Int) ≤ 1103))), [.dead]))
    (R = ((tb false), [.dead]))))) : Rn 31 [(i32 n)] R := by
  refine fn_rule (ann := A31) (mv := MV) (fz := true) mixed Tryd.func31 (c := B31) (by kernel_rfl) (by decide) ?_
  all_goals revert h
  all_goals refine via ?_
  all_goals kernel_rfl
/- tumbrel/glyph.digit -/
noncomputable def A39 : Ann := mkAnn [] [] [] []
noncomputable abbrev B39 : Code := Tryd.f39.body.getD .skip
set_option maxRecDepth 100000 in
theorem f39 (n : Int) (R : T × List T) (h : cond (decide ((48 : Int) ≤ n))
  (R = ((tb (decide ((n : Int) ≤ 57))), [.dead]))
  (R = ((tb false), [.dead]))) : Rn 39 [(i32 n)] R := by
  refine fn_rule (ann := A39) (mv := MV) (fz := true) mixed Tryd.func39 (c := B39) (by kernel_rfl) (by decide) ?_
  all_goals revert h
  all_goals refine via ?_
  all_goals kernel_rfl
/- tumbrel/tumbrelref03.inside -/
noncomputable def A42 : Ann := mkAnn [(17448, (fun a => [.ex (Bool) fun b => .done ((tb b), [.dead])])), (17640, (fun a => [.ex (Bool) fun b => .done ((tb b), [.dead])]))] [] [] []
noncomputable abbrev B42 : Code := Tryd.f42.body.getD .skip
set_option maxRecDepth 100000 in
theorem f42 (n : Int) (R : T × List T) (h : ∃ b : Bool, (Rn 31 [(i32 n)] ((tb b), [.dead])) ∧
  (cond b
   (R = ((tb true), [.dead]))
   (∃ b1 : Bool, (Rn 53 [(i32 n)] ((tb b1), [.dead])) ∧
    (cond b1
     (R = ((tb true), [.dead]))
     (R = ((tb (decide ((n : Int) = 95))), [.dead])))))) : Rn 42 [(i32 n)] R := by
  refine fn_rule (ann := A42) (mv := MV) (fz := true) mixed Tryd.func42 (c := B42) (by kernel_rfl) (by decide) ?_
  all_goals revert h
  all_goals refine via ?_
  all_goals kernel_rfl
/- tumbrel/tumbrelref03.digit -/
noncomputable def A53 : Ann := mkAnn [] [] [] []
noncomputable abbrev B53 : Code := Tryd.f53.body.getD .skip
set_option maxRecDepth 100000 in
theorem f53 (n : Int) (R : T × List T) (h : cond (decide ((48 : Int) ≤ n))
  (R = ((tb (decide ((n : Int) ≤ 57))), [.dead]))
  (R = ((tb false), [.dead]))) : Rn 53 [(i32 n)] R := by
  refine fn_rule (ann := A53) (mv := MV) (fz := true) mixed Tryd.func53 (c := B53) (by kernel_rfl) (by decide) ?_
  all_goals revert h
  all_goals refine via ?_
  all_goals kernel_rfl
end Go.Proofs.YtgfaadooijngnaaDoorT
