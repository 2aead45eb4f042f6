/- What is to be shown of functions of the program, by their texts (printed by a program of this work; the kernel holds each against the text). -/
import Derived.Test.YthcaodlfnlhfbaaGreatDoorP0
namespace Go.Proofs.YthcaodlfnlhfbaaGreatDoorT
open Go Go.Proofs
set_option linter.unusedVariables false
/- tumbrel/glyph.Name -/
noncomputable def A58 : Ann := mkAnn [(82984, (fun a => [.ex (Bool) fun b => .done ((tb b), [.dead])])), (83432, (fun a => [.ex (Bool) fun b => .done ((tb b), [.dead])]))] [] [] [(116, [3, 7])]
noncomputable abbrev B58 : Code := Tryz.f58.body.getD .skip
def L58_0 (n : Int) (s : ByteArray) (pos : Nat) (R : T × List T) : Prop := CutL Tryz.prog Tryz.f58 B58 true [1, 1, 0, 1, 0, 0] (mkSt 32 [(3, (i64 n)), (7, (.it (1000000008, 0)))] [((1000000008, 0), .iter s pos)]) [.dead] R
set_option maxRecDepth 100000 in
theorem l58_0 (n : Int) (s : ByteArray) (pos : Nat) (R : T × List T) (h : cond (Nat.ble (pos + 1) (ByteArray.size s))
  (∃ b : Bool, (Rn 77 [(i32 (Utf8.decode s pos).1)] ((tb b), [.dead])) ∧
   (cond (!b)
    (R = ((tb false), [.dead]))
    (cond (decide ((((pos : Nat) : Int) : Int) = 0))
     (∃ b1 : Bool, (Rn 69 [(i32 (Utf8.decode s pos).1)] ((tb b1), [.dead])) ∧
      (cond (!b1)
       (R = ((tb false), [.dead]))
       (L58_0 (IntKind.wrap .i64 (n + 1)) s (pos + (Utf8.decode s pos).2) R)))
     (L58_0 (IntKind.wrap .i64 (n + 1)) s (pos + (Utf8.decode s pos).2) R))))
  (cond (decide ((0 : Int) < n))
   (R = ((tb (decide ((n : Int) ≤ 24))), [.dead]))
   (R = ((tb false), [.dead])))) : L58_0 n s pos R := by
  unfold L58_0
  refine cutL_rule (ann := A58) (mv := MV) mixed (by kernel_rfl) ?_
  all_goals revert h
  all_goals refine via ?_
  all_goals kernel_rfl
set_option maxRecDepth 100000 in
theorem f58 (s : ByteArray) (R : T × List T) (h : L58_0 0 s 0 R) : Rn 58 [(st s)] R := by
  refine fn_rule (ann := A58) (mv := MV) (fz := true) mixed Tryz.func58 (c := B58) (by kernel_rfl) (by decide) ?_
  all_goals revert h
  all_goals refine via ?_
  all_goals kernel_rfl
/- tumbrel/expr.Operators -/
noncomputable def A59 : Ann := mkAnn [] [] [] []
noncomputable abbrev B59 : Code := Tryz.f59.body.getD .skip
set_option maxRecDepth 100000 in
theorem f59 (R : T × List T) (h : R = ((.sl 1 [(st (bs [43])), (st (bs [45])), (st (bs [42])), (st (bs [60])), (st (bs [60, 61])), (st (bs [61, 61])), (st (bs [33, 61])), (st (bs [38, 38])), (st (bs [124, 124]))]), [])) : Rn 59 [] R := by
  refine fn_rule (ann := A59) (mv := MV) (fz := true) mixed Tryz.func59 (c := B59) (by kernel_rfl) (by decide) ?_
  all_goals revert h
  all_goals refine via ?_
  all_goals kernel_rfl
/- slices.ContainsFunc[[]tumbrel/expr.Expr,tumbrel/expr.Expr] -/
noncomputable def A60 : Ann := mkAnn [(17512, (fun a => [.ex (Int) fun n => .ex (Int) fun n1 => .done ((i64 n), [.dead, (.fn (.func 61) [] [(.cbox 3 [(i64 n1)])])])]))] [] [] []
noncomputable abbrev B60 : Code := Tryz.f60.body.getD .skip
set_option maxRecDepth 100000 in
theorem f60 (s : List T) (n : Int) (R : T × List T) (h : ∃ n1 : Int, ∃ n2 : Int, (Rn 78 [(.sl 1 s), (.fn (.func 61) [] [(.cbox 3 [(i64 n)])])] ((i64 n1), [.dead, (.fn (.func 61) [] [(.cbox 3 [(i64 n2)])])])) ∧
  (R = ((tb (decide ((0 : Int) ≤ n1))), [.dead, (.fn (.func 61) [] [(.cbox 3 [(i64 n2)])])]))) : Rn 60 [(.sl 1 s), (.fn (.func 61) [] [(.cbox 3 [(i64 n)])])] R := by
  refine fn_rule (ann := A60) (mv := MV) (fz := true) mixed Tryz.func60 (c := B60) (by kernel_rfl) (by decide) ?_
  all_goals revert h
  all_goals refine via ?_
  all_goals kernel_rfl
/- tumbrel/glyph.Letter -/
noncomputable def A69 : Ann := mkAnn [] [] [] []
noncomputable abbrev B69 : Code := Tryz.f69.body.getD .skip
set_option maxRecDepth 100000 in
theorem f69 (n : Int) (R : T × List T) (h : cond (decide ((97 : Int) ≤ n))
  (cond (decide ((n : Int) ≤ 122))
   (R = ((tb true), [.dead]))
   (cond (decide ((65 : Int) ≤ n))
    (cond (decide ((n : Int) ≤ 90))
     (R = ((tb true), [.dead]))
     (cond (decide ((1072 : Int) ≤ n))
      (R = ((tb (decide ((n : Int) ≤ 1103))), [.dead]))
      (R = ((tb false), [.dead]))))
    (cond (decide ((1072 : Int) ≤ n))
     (R = ((tb (decide ((n : Int) ≤ 1103))), [.dead]))
     (R = ((tb false), [.dead])))))
  (cond (decide ((65 : Int) ≤ n))
   (cond (decide ((n : Int) ≤ 90))
    (R = ((tb true), [.dead]))
    (cond (decide ((1072 : Int) ≤ n))
     (R = ((tb (decide ((n : Int) ≤ 1103))), [.dead]))
     (R = ((tb false), [.dead]))))
   (cond (decide ((1072 : Int) ≤ n))
    (R = ((tb (decide ((n : Int) ≤ 1103))), [.dead]))
    (R = ((tb false), [.dead]))))) : Rn 69 [(i32 n)] R := by
  refine fn_rule (ann := A69) (mv := MV) (fz := true) mixed Tryz.func69 (c := B69) (by kernel_rfl) (by decide) ?_
  all_goals revert h
  all_goals refine via ?_
  all_goals kernel_rfl
/- (*tumbrel/glyph.lexer).span -/
noncomputable def A70 : Ann := mkAnn [(66600, (fun a => [.ex (Bool) fun b => .done ((tb b), [.dead])]))] [] [] [(52, [0, 1, 13])]
noncomputable abbrev B70 : Code := Tryz.f70.body.getD .skip
def L70_0 (from_ : Int) (s : ByteArray) (l : List T) (n : Int) (b : Bool) (n1 : Int) (n2 : Int) (s1 : ByteArray) (pos : Nat) (R : T × List T) : Prop := CutL Tryz.prog Tryz.f70 B70 true [1, 0, 1, 0, 0] (mkSt 29 [(0, (.ptr (0, 0) 0)), (1, (i64 from_)), (13, (.it (1000000014, 0)))] (([((0, 0), .box 77 [(st s), (mnT (1, 0) l), (i64 n), (tb b), (i64 n1), (i64 n2)]), ((1000000014, 0), .iter s1 pos)] ++ mnH (1, 0) 98 4 l))) [(.ptr (0, 0) 0), .dead] R
set_option maxRecDepth 100000 in
theorem l70_0 (from_ : Int) (s : ByteArray) (l : List T) (n : Int) (b : Bool) (n1 : Int) (n2 : Int) (s1 : ByteArray) (pos : Nat) (R : T × List T) (h : cond (Nat.ble (pos + 1) (ByteArray.size s1))
  (∃ b1 : Bool, (Rn 77 [(i32 (Utf8.decode s1 pos).1)] ((tb b1), [.dead])) ∧
   (cond (!b1)
    (R = ((i64 ((pos : Nat) : Int)), [(.cbox 77 [(st s), (mnC 98 4 l), (i64 n), (tb b), (i64 n1), (i64 n2)]), .dead]))
    (L70_0 from_ s l n b n1 n2 s1 (pos + (Utf8.decode s1 pos).2) R)))
  (R = ((i64 (IntKind.wrap .i64 ((((ByteArray.size s) : Nat) : Int) - from_))), [(.cbox 77 [(st s), (mnC 98 4 l), (i64 n), (tb b), (i64 n1), (i64 n2)]), .dead]))) : L70_0 from_ s l n b n1 n2 s1 pos R := by
  unfold L70_0
  refine cutL_rule (ann := A70) (mv := MV) mixed (by kernel_rfl) ?_
  all_goals rcases l with _ | ⟨_, _⟩
  all_goals revert h
  all_goals refine via ?_
  all_goals kernel_rfl
set_option maxRecDepth 100000 in
theorem f70 (s : ByteArray) (l : List T) (n : Int) (b : Bool) (n1 : Int) (n2 : Int) (from_ : Int) (R : T × List T) (h : ((0 : Int) ≤ from_ ∧ from_ ≤ (((ByteArray.size s) : Nat) : Int)) ∧
  (L70_0 from_ s l n b n1 n2 ((ByteArray.extract s (Int.toNat from_) (ByteArray.size s))) 0 R)) : Rn 70 [(.cbox 77 [(st s), (mnC 98 4 l), (i64 n), (tb b), (i64 n1), (i64 n2)]), (i64 from_)] R := by
  refine fn_rule (ann := A70) (mv := MV) (fz := true) mixed Tryz.func70 (c := B70) (by kernel_rfl) (by decide) ?_
  all_goals rcases l with _ | ⟨_, _⟩
  all_goals revert h
  all_goals refine via ?_
  all_goals kernel_rfl
/- tumbrel/glyph.digit -/
noncomputable def A71 : Ann := mkAnn [] [] [] []
noncomputable abbrev B71 : Code := Tryz.f71.body.getD .skip
set_option maxRecDepth 100000 in
theorem f71 (n : Int) (R : T × List T) (h : cond (decide ((48 : Int) ≤ n))
  (R = ((tb (decide ((n : Int) ≤ 57))), [.dead]))
  (R = ((tb false), [.dead]))) : Rn 71 [(i32 n)] R := by
  refine fn_rule (ann := A71) (mv := MV) (fz := true) mixed Tryz.func71 (c := B71) (by kernel_rfl) (by decide) ?_
  all_goals revert h
  all_goals refine via ?_
  all_goals kernel_rfl
/- tumbrel/glyph.number -/
noncomputable def A72 : Ann := mkAnn [(17448, (fun a => [.ex (Int) fun n => .ex (IfV) fun e => .done ((.tup [(.s (.int .u64 n)), e.v]), [.dead, .dead, .dead])])), (34280, (fun a => [.ex (ByteArray) fun s => .done ((st s), [.dead, .dead])]))] [] [] []
noncomputable abbrev B72 : Code := Tryz.f72.body.getD .skip
set_option maxRecDepth 100000 in
theorem f72 (s : ByteArray) (R : T × List T) (h : ∃ n : Int, ∃ e : IfV, (Rn 87 [(st s), (i64 10), (i64 63)] ((.tup [(.s (.int .u64 n)), e.v]), [.dead, .dead, .dead])) ∧
  (cond (decide (e.t = 0))
   (cond (decide ((n : Int) ≤ 1000000000))
    (∃ s1 : ByteArray, (Rn 88 [(.s (.int .u64 n)), (i64 10)] ((st s1), [.dead, .dead])) ∧
     (R = ((tb (decide (s1 = s))), [.dead])))
    (R = ((tb false), [.dead])))
   (R = ((tb false), [.dead])))) : Rn 72 [(st s)] R := by
  refine fn_rule (ann := A72) (mv := MV) (fz := true) mixed Tryz.func72 (c := B72) (by kernel_rfl) (by decide) ?_
  all_goals revert h
  all_goals refine via ?_
  all_goals kernel_rfl
/- strings.HasPrefix -/
noncomputable def A73 : Ann := mkAnn [(17512, (fun a => [.ex (Bool) fun b => .done ((tb b), [.dead, .dead])]))] [] [] []
noncomputable abbrev B73 : Code := Tryz.f73.body.getD .skip
set_option maxRecDepth 100000 in
theorem f73 (s : ByteArray) (prefix_ : ByteArray) (R : T × List T) (h : ∃ b : Bool, (Rn 89 [(st s), (st prefix_)] ((tb b), [.dead, .dead])) ∧
  (R = ((tb b), [.dead, .dead]))) : Rn 73 [(st s), (st prefix_)] R := by
  refine fn_rule (ann := A73) (mv := MV) (fz := true) mixed Tryz.func73 (c := B73) (by kernel_rfl) (by decide) ?_
  all_goals revert h
  all_goals refine via ?_
  all_goals kernel_rfl
/- strconv.ParseInt -/
noncomputable def A74 : Ann := mkAnn [(17576, (fun a => [.ex (Int) fun n => .ex (IfV) fun e => .done ((.tup [(i64 n), e.v]), [.dead, .dead, .dead])])), (50472, (fun a => [.ex (IfV) fun e => .done (e.v, [.dead, .dead, .dead, .dead, .dead])]))] [] [] []
noncomputable abbrev B74 : Code := Tryz.f74.body.getD .skip
set_option maxRecDepth 100000 in
theorem f74 (s : ByteArray) (base : Int) (bitSize : Int) (R : T × List T) (h : ∃ n : Int, ∃ e : IfV, (Rn 90 [(st s), (i64 base), (i64 bitSize)] ((.tup [(i64 n), e.v]), [.dead, .dead, .dead])) ∧
  (cond (!(decide (e.t = 0)))
   (∃ e1 : IfV, (Rn 91 [(st (bs [80, 97, 114, 115, 101, 73, 110, 116])), (st s), (i64 base), (i64 bitSize), e.v] (e1.v, [.dead, .dead, .dead, .dead, .dead])) ∧
    (R = ((.tup [(i64 n), e1.v]), [.dead, .dead, .dead])))
   (R = ((.tup [(i64 n), (.ifc 0 .dead)]), [.dead, .dead, .dead])))) : Rn 74 [(st s), (i64 base), (i64 bitSize)] R := by
  refine fn_rule (ann := A74) (mv := MV) (fz := true) mixed Tryz.func74 (c := B74) (by kernel_rfl) (by decide) ?_
  all_goals revert h
  all_goals refine via ?_
  all_goals kernel_rfl
/- tumbrel/tumbrelref03.Name -/
noncomputable def A75 : Ann := mkAnn [(17448, (fun a => [.ex (Int) fun n => .ex (Int) fun n1 => .done ((.tup [(i32 n), (i64 n1)]), [.dead])])), (33832, (fun a => [.ex (Int) fun n => .ex (Int) fun n1 => .done ((.tup [(i64 n), (i64 n1)]), [.dead])])), (50216, (fun a => [.ex (Bool) fun b => .done ((tb b), [.dead])]))] [] [] []
noncomputable abbrev B75 : Code := Tryz.f75.body.getD .skip
set_option maxRecDepth 100000 in
theorem f75 (s : ByteArray) (R : T × List T) (h : ∃ n : Int, ∃ n1 : Int, (Rn 92 [(st s)] ((.tup [(i32 n), (i64 n1)]), [.dead])) ∧
  (∃ n2 : Int, ∃ n3 : Int, (Rn 93 [(st s)] ((.tup [(i64 n2), (i64 n3)]), [.dead])) ∧
   (∃ b : Bool, (Rn 94 [(i32 n)] ((tb b), [.dead])) ∧
    (cond b
     (cond (decide ((n2 : Int) = (((ByteArray.size s) : Nat) : Int)))
      (R = ((tb (decide ((n3 : Int) ≤ 24))), [.dead]))
      (R = ((tb false), [.dead])))
     (R = ((tb false), [.dead])))))) : Rn 75 [(st s)] R := by
  refine fn_rule (ann := A75) (mv := MV) (fz := true) mixed Tryz.func75 (c := B75) (by kernel_rfl) (by decide) ?_
  all_goals revert h
  all_goals refine via ?_
  all_goals kernel_rfl
/- tumbrel/tumbrelref04.operator -/
noncomputable def A76 : Ann := mkAnn [] [] [] []
noncomputable abbrev B76 : Code := Tryz.f76.body.getD .skip
set_option maxRecDepth 100000 in
theorem f76 (s : ByteArray) (R : T × List T) (h : cond (decide (s = (bs [43])))
  (R = ((tb true), [.dead]))
  (cond (decide (s = (bs [45])))
   (R = ((tb true), [.dead]))
   (cond (decide (s = (bs [42])))
    (R = ((tb true), [.dead]))
    (cond (decide (s = (bs [60])))
     (R = ((tb true), [.dead]))
     (cond (decide (s = (bs [60, 61])))
      (R = ((tb true), [.dead]))
      (cond (decide (s = (bs [61, 61])))
       (R = ((tb true), [.dead]))
       (cond (decide (s = (bs [33, 61])))
        (R = ((tb true), [.dead]))
        (cond (decide (s = (bs [38, 38])))
         (R = ((tb true), [.dead]))
         (cond (decide (s = (bs [124, 124])))
          (R = ((tb true), [.dead]))
          (R = ((tb false), [.dead]))))))))))) : Rn 76 [(st s)] R := by
  refine fn_rule (ann := A76) (mv := MV) (fz := true) mixed Tryz.func76 (c := B76) (by kernel_rfl) (by decide) ?_
  all_goals revert h
  all_goals refine via ?_
  all_goals kernel_rfl
/- tumbrel/glyph.inside -/
noncomputable def A77 : Ann := mkAnn [(17448, (fun a => [.ex (Bool) fun b => .done ((tb b), [.dead])])), (17640, (fun a => [.ex (Bool) fun b => .done ((tb b), [.dead])]))] [] [] []
noncomputable abbrev B77 : Code := Tryz.f77.body.getD .skip
set_option maxRecDepth 100000 in
theorem f77 (n : Int) (R : T × List T) (h : ∃ b : Bool, (Rn 69 [(i32 n)] ((tb b), [.dead])) ∧
  (cond b
   (R = ((tb true), [.dead]))
   (∃ b1 : Bool, (Rn 71 [(i32 n)] ((tb b1), [.dead])) ∧
    (cond b1
     (R = ((tb true), [.dead]))
     (R = ((tb (decide ((n : Int) = 95))), [.dead])))))) : Rn 77 [(i32 n)] R := by
  refine fn_rule (ann := A77) (mv := MV) (fz := true) mixed Tryz.func77 (c := B77) (by kernel_rfl) (by decide) ?_
  all_goals revert h
  all_goals refine via ?_
  all_goals kernel_rfl
/- slices.IndexFunc[[]tumbrel/expr.Expr,tumbrel/expr.Expr] -/
noncomputable def A78 : Ann := mkAnn [(66856, (fun a => [.ex (Bool) fun b => .ex (Int) fun n => .done ((tb b), [.dead, (.cbox 3 [(i64 n)])])]))] [(66728, [.ex IfV fun w => .done w.v])] [] [(52, [0, 1, 7, 8])]
noncomputable abbrev B78 : Code := Tryz.f78.body.getD .skip
def L78_0 (s : List T) (n : Int) (n1 : Int) (n2 : Int) (R : T × List T) : Prop := CutL Tryz.prog Tryz.f78 B78 true [1, 0, 1, 0, 0] (mkSt 19 [(0, (.sl 1 s)), (1, (.fn (.func 61) [] [(.ptr (0, 0) 0)])), (7, (i64 n)), (8, (i64 n1))] [((0, 0), .box 3 [(i64 n2)])]) [.dead, (.fn (.func 61) [] [(.ptr (0, 0) 0)])] R
set_option maxRecDepth 100000 in
theorem l78_0 (s : List T) (n : Int) (n1 : Int) (n2 : Int) (R : T × List T) (h : cond (decide ((n1 : Int) < n))
  (∃ e : IfV, ((0 : Int) ≤ n1 ∧ s[(Int.toNat n1)]? = some e.v) ∧
   (∃ b : Bool, ∃ n3 : Int, (Rn 61 [e.v, (.cbox 3 [(i64 n2)])] ((tb b), [.dead, (.cbox 3 [(i64 n3)])])) ∧
    (cond b
     (R = ((i64 n1), [.dead, (.fn (.func 61) [] [(.cbox 3 [(i64 n3)])])]))
     (L78_0 s n (IntKind.wrap .i64 (n1 + 1)) n3 R))))
  (R = ((i64 (-1)), [.dead, (.fn (.func 61) [] [(.cbox 3 [(i64 n2)])])]))) : L78_0 s n n1 n2 R := by
  unfold L78_0
  refine cutL_rule (ann := A78) (mv := MV) mixed (by kernel_rfl) ?_
  all_goals revert h
  all_goals refine via ?_
  all_goals kernel_rfl
set_option maxRecDepth 100000 in
theorem f78 (s : List T) (n : Int) (R : T × List T) (h : L78_0 s (((List.length s) : Nat) : Int) 0 n R) : Rn 78 [(.sl 1 s), (.fn (.func 61) [] [(.cbox 3 [(i64 n)])])] R := by
  refine fn_rule (ann := A78) (mv := MV) (fz := true) mixed Tryz.func78 (c := B78) (by kernel_rfl) (by decide) ?_
  all_goals revert h
  all_goals refine via ?_
  all_goals kernel_rfl
/- strconv.FormatUint -/
noncomputable def A88 : Ann := mkAnn [(17512, (fun a => [.ex (ByteArray) fun s => .done ((st s), [.dead, .dead])]))] [] [] []
noncomputable abbrev B88 : Code := Tryz.f88.body.getD .skip
set_option maxRecDepth 100000 in
theorem f88 (i : Int) (base : Int) (R : T × List T) (h : ∃ s : ByteArray, (Rn 108 [(.s (.int .u64 i)), (i64 base)] ((st s), [.dead, .dead])) ∧
  (R = ((st s), [.dead, .dead]))) : Rn 88 [(.s (.int .u64 i)), (i64 base)] R := by
  refine fn_rule (ann := A88) (mv := MV) (fz := true) mixed Tryz.func88 (c := B88) (by kernel_rfl) (by decide) ?_
  all_goals revert h
  all_goals refine via ?_
  all_goals kernel_rfl
/- internal/stringslite.HasPrefix -/
noncomputable def A89 : Ann := mkAnn [] [] [] []
noncomputable abbrev B89 : Code := Tryz.f89.body.getD .skip
set_option maxRecDepth 100000 in
theorem f89 (s : ByteArray) (prefix_ : ByteArray) (R : T × List T) (h : cond (decide (((((ByteArray.size prefix_) : Nat) : Int) : Int) ≤ (((ByteArray.size s) : Nat) : Int)))
  (((0 : Int) ≤ (((ByteArray.size prefix_) : Nat) : Int) ∧ (((ByteArray.size prefix_) : Nat) : Int) ≤ (((ByteArray.size s) : Nat) : Int)) ∧
   (R = ((tb (decide ((ByteArray.extract s 0 (Int.toNat (((ByteArray.size prefix_) : Nat) : Int))) = prefix_))), [.dead, .dead])))
  (R = ((tb false), [.dead, .dead]))) : Rn 89 [(st s), (st prefix_)] R := by
  refine fn_rule (ann := A89) (mv := MV) (fz := true) mixed Tryz.func89 (c := B89) (by kernel_rfl) (by decide) ?_
  all_goals revert h
  all_goals refine via ?_
  all_goals kernel_rfl
/- tumbrel/tumbrelref03.next -/
noncomputable def A92 : Ann := mkAnn [(17448, (fun a => [.ex (Int) fun n => .ex (Int) fun n1 => .done ((.tup [(i32 n), (i64 n1)]), [.dead])]))] [] [] []
noncomputable abbrev B92 : Code := Tryz.f92.body.getD .skip
set_option maxRecDepth 100000 in
theorem f92 (s : ByteArray) (R : T × List T) (h : ∃ n : Int, ∃ n1 : Int, (Rn 113 [(st s)] ((.tup [(i32 n), (i64 n1)]), [.dead])) ∧
  (cond (decide ((n : Int) = 65533))
   (cond (decide ((n1 : Int) ≤ 1))
    (R = ((.tup [(i32 (-1)), (i64 n1)]), [.dead]))
    (R = ((.tup [(i32 n), (i64 n1)]), [.dead])))
   (R = ((.tup [(i32 n), (i64 n1)]), [.dead])))) : Rn 92 [(st s)] R := by
  refine fn_rule (ann := A92) (mv := MV) (fz := true) mixed Tryz.func92 (c := B92) (by kernel_rfl) (by decide) ?_
  all_goals revert h
  all_goals refine via ?_
  all_goals kernel_rfl
/- tumbrel/tumbrelref03.run -/
noncomputable def A93 : Ann := mkAnn [(50344, (fun a => [.ex (Int) fun n => .ex (Int) fun n1 => .done ((.tup [(i32 n), (i64 n1)]), [.dead])])), (66600, (fun a => [.ex (Bool) fun b => .done ((tb b), [.dead])]))] [] [] [(56, [0, 4, 5])]
noncomputable abbrev B93 : Code := Tryz.f93.body.getD .skip
def L93_0 (s : ByteArray) (n : Int) (runes : Int) (R : T × List T) : Prop := CutL Tryz.prog Tryz.f93 B93 true [1, 1, 0, 0, 0] (mkSt 29 [(0, (st s)), (4, (i64 n)), (5, (i64 runes))] []) [.dead] R
set_option maxRecDepth 100000 in
theorem l93_0 (s : ByteArray) (n : Int) (runes : Int) (R : T × List T) (h : cond (decide ((n : Int) < (((ByteArray.size s) : Nat) : Int)))
  (((0 : Int) ≤ n ∧ n ≤ (((ByteArray.size s) : Nat) : Int)) ∧
   (∃ n1 : Int, ∃ n2 : Int, (Rn 92 [(st (ByteArray.extract s (Int.toNat n) (ByteArray.size s)))] ((.tup [(i32 n1), (i64 n2)]), [.dead])) ∧
    (∃ b : Bool, (Rn 114 [(i32 n1)] ((tb b), [.dead])) ∧
     (cond (!b)
      (R = ((.tup [(i64 n), (i64 runes)]), [.dead]))
      (L93_0 s (IntKind.wrap .i64 (n + n2)) (IntKind.wrap .i64 (runes + 1)) R)))))
  (R = ((.tup [(i64 n), (i64 runes)]), [.dead]))) : L93_0 s n runes R := by
  unfold L93_0
  refine cutL_rule (ann := A93) (mv := MV) mixed (by kernel_rfl) ?_
  all_goals revert h
  all_goals refine via ?_
  all_goals kernel_rfl
set_option maxRecDepth 100000 in
theorem f93 (s : ByteArray) (R : T × List T) (h : L93_0 s 0 0 R) : Rn 93 [(st s)] R := by
  refine fn_rule (ann := A93) (mv := MV) (fz := true) mixed Tryz.func93 (c := B93) (by kernel_rfl) (by decide) ?_
  all_goals revert h
  all_goals refine via ?_
  all_goals kernel_rfl
/- tumbrel/tumbrelref03.Letter -/
noncomputable def A94 : Ann := mkAnn [] [] [] []
noncomputable abbrev B94 : Code := Tryz.f94.body.getD .skip
set_option maxRecDepth 100000 in
theorem f94 (n : Int) (R : T × List T) (h : cond (decide ((97 : Int) ≤ n))
  (cond (decide ((n : Int) ≤ 122))
   (R = ((tb true), [.dead]))
   (cond (decide ((65 : Int) ≤ n))
    (cond (decide ((n : Int) ≤ 90))
     (R = ((tb true), [.dead]))
     (cond (decide ((1072 : Int) ≤ n))
      (R = ((tb (decide ((n : Int) ≤ 1103))), [.dead]))
      (R = ((tb false), [.dead]))))
    (cond (decide ((1072 : Int) ≤ n))
     (R = ((tb (decide ((n : Int) ≤ 1103))), [.dead]))
     (R = ((tb false), [.dead])))))
  (cond (decide ((65 : Int) ≤ n))
   (cond (decide ((n : Int) ≤ 90))
    (R = ((tb true), [.dead]))
    (cond (decide ((1072 : Int) ≤ n))
     (R = ((tb (decide ((n : Int) ≤ 1103))), [.dead]))
     (R = ((tb false), [.dead]))))
   (cond (decide ((1072 : Int) ≤ n))
    (R = ((tb (decide ((n : Int) ≤ 1103))), [.dead]))
    (R = ((tb false), [.dead]))))) : Rn 94 [(i32 n)] R := by
  refine fn_rule (ann := A94) (mv := MV) (fz := true) mixed Tryz.func94 (c := B94) (by kernel_rfl) (by decide) ?_
  all_goals revert h
  all_goals refine via ?_
  all_goals kernel_rfl
/- tumbrel/expr.sound$1 -/
noncomputable def A61 : Ann := mkAnn [(17576, (fun a => [.ex (Bool) fun b => .done ((tb b), [.dead, .dead])]))] [] [] []
noncomputable abbrev B61 : Code := Tryz.f61.body.getD .skip
set_option maxRecDepth 100000 in
theorem f61 (e : IfV) (n : Int) (R : T × List T) (h : ∃ b : Bool, (Rn 43 [e.v, (i64 (IntKind.wrap .i64 (n - 1)))] ((tb b), [.dead, .dead])) ∧
  (R = ((tb (!b)), [.dead, (.cbox 3 [(i64 n)])]))) : Rn 61 [e.v, (.cbox 3 [(i64 n)])] R := by
  refine fn_rule (ann := A61) (mv := MV) (fz := true) mixed Tryz.func61 (c := B61) (by kernel_rfl) (by decide) ?_
  all_goals revert h
  all_goals refine via ?_
  all_goals kernel_rfl
/- tumbrel/tumbrelref03.inside -/
noncomputable def A114 : Ann := mkAnn [(17448, (fun a => [.ex (Bool) fun b => .done ((tb b), [.dead])])), (17640, (fun a => [.ex (Bool) fun b => .done ((tb b), [.dead])]))] [] [] []
noncomputable abbrev B114 : Code := Tryz.f114.body.getD .skip
set_option maxRecDepth 100000 in
theorem f114 (n : Int) (R : T × List T) (h : ∃ b : Bool, (Rn 94 [(i32 n)] ((tb b), [.dead])) ∧
  (cond b
   (R = ((tb true), [.dead]))
   (∃ b1 : Bool, (Rn 127 [(i32 n)] ((tb b1), [.dead])) ∧
    (cond b1
     (R = ((tb true), [.dead]))
     (R = ((tb (decide ((n : Int) = 95))), [.dead])))))) : Rn 114 [(i32 n)] R := by
  refine fn_rule (ann := A114) (mv := MV) (fz := true) mixed Tryz.func114 (c := B114) (by kernel_rfl) (by decide) ?_
  all_goals revert h
  all_goals refine via ?_
  all_goals kernel_rfl
/- tumbrel/tumbrelref03.digit -/
noncomputable def A127 : Ann := mkAnn [] [] [] []
noncomputable abbrev B127 : Code := Tryz.f127.body.getD .skip
set_option maxRecDepth 100000 in
theorem f127 (n : Int) (R : T × List T) (h : cond (decide ((48 : Int) ≤ n))
  (R = ((tb (decide ((n : Int) ≤ 57))), [.dead]))
  (R = ((tb false), [.dead]))) : Rn 127 [(i32 n)] R := by
  refine fn_rule (ann := A127) (mv := MV) (fz := true) mixed Tryz.func127 (c := B127) (by kernel_rfl) (by decide) ?_
  all_goals revert h
  all_goals refine via ?_
  all_goals kernel_rfl
end Go.Proofs.YthcaodlfnlhfbaaGreatDoorT
