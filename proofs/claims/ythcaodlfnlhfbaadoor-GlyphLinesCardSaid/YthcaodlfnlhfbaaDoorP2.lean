/- What is to be shown of functions of the program, by their texts (printed by a program of this work; the kernel holds each against the text). -/
import Derived.Test.YthcaodlfnlhfbaaDoorP0
namespace Go.Proofs.YthcaodlfnlhfbaaDoorT
open Go Go.Proofs
set_option linter.unusedVariables false
/- (*tumbrel/glyph.lexer).span -/
noncomputable def A87 : Ann := mkAnn [(66600, (fun a => [.ex (Bool) fun b => .done ((tb b), [.dead])]))] [] [] [(52, [0, 1, 13])]
noncomputable abbrev B87 : Code := Tryd.f87.body.getD .skip
def L87_0 (from_ : Int) (s : ByteArray) (l : List T) (n : Int) (b : Bool) (n1 : Int) (n2 : Int) (s1 : ByteArray) (pos : Nat) (R : T × List T) : Prop := CutL Tryd.prog Tryd.f87 B87 true [1, 0, 1, 0, 0] (mkSt 29 [(0, (.ptr (0, 0) 0)), (1, (i64 from_)), (13, (.it (1000000014, 0)))] (([((0, 0), .box 73 [(st s), (mnT (1, 0) l), (i64 n), (tb b), (i64 n1), (i64 n2)]), ((1000000014, 0), .iter s1 pos)] ++ mnH (1, 0) 30 4 l))) [(.ptr (0, 0) 0), .dead] R
set_option maxRecDepth 100000 in
theorem l87_0 (from_ : Int) (s : ByteArray) (l : List T) (n : Int) (b : Bool) (n1 : Int) (n2 : Int) (s1 : ByteArray) (pos : Nat) (R : T × List T) (h : cond (Nat.ble (pos + 1) (ByteArray.size s1))
  (∃ b1 : Bool, (Rn 39 [(i32 (Utf8.decode s1 pos).1)] ((tb b1), [.dead])) ∧
   (cond (!b1)
    (R = ((i64 ((pos : Nat) : Int)), [(.cbox 73 [(st s), (mnC 30 4 l), (i64 n), (tb b), (i64 n1), (i64 n2)]), .dead]))
    (L87_0 from_ s l n b n1 n2 s1 (pos + (Utf8.decode s1 pos).2) R)))
  (R = ((i64 (IntKind.wrap .i64 ((((ByteArray.size s) : Nat) : Int) - from_))), [(.cbox 73 [(st s), (mnC 30 4 l), (i64 n), (tb b), (i64 n1), (i64 n2)]), .dead]))) : L87_0 from_ s l n b n1 n2 s1 pos R := by
  unfold L87_0
  refine cutL_rule (ann := A87) (mv := MV) mixed (by kernel_rfl) ?_
  all_goals rcases l with _ | ⟨_, _⟩
  all_goals revert h
  all_goals refine via ?_
  all_goals kernel_rfl
set_option maxRecDepth 100000 in
theorem f87 (s : ByteArray) (l : List T) (n : Int) (b : Bool) (n1 : Int) (n2 : Int) (from_ : Int) (R : T × List T) (h : ((0 : Int) ≤ from_ ∧ from_ ≤ (((ByteArray.size s) : Nat) : Int)) ∧
  (L87_0 from_ s l n b n1 n2 ((ByteArray.extract s (Int.toNat from_) (ByteArray.size s))) 0 R)) : Rn 87 [(.cbox 73 [(st s), (mnC 30 4 l), (i64 n), (tb b), (i64 n1), (i64 n2)]), (i64 from_)] R := by
  refine fn_rule (ann := A87) (mv := MV) (fz := true) mixed Tryd.func87 (c := B87) (by kernel_rfl) (by decide) ?_
  all_goals rcases l with _ | ⟨_, _⟩
  all_goals revert h
  all_goals refine via ?_
  all_goals kernel_rfl
/- tumbrel/glyph.number -/
noncomputable def A88 : Ann := mkAnn [(17448, (fun a => [.ex (Int) fun n => .ex (IfV) fun e => .done ((.tup [(.s (.int .u64 n)), e.v]), [.dead, .dead, .dead])])), (34280, (fun a => [.ex (ByteArray) fun s => .done ((st s), [.dead, .dead])]))] [] [] []
noncomputable abbrev B88 : Code := Tryd.f88.body.getD .skip
set_option maxRecDepth 100000 in
theorem f88 (s : ByteArray) (R : T × List T) (h : ∃ n : Int, ∃ e : IfV, (Rn 105 [(st s), (i64 10), (i64 63)] ((.tup [(.s (.int .u64 n)), e.v]), [.dead, .dead, .dead])) ∧
  (cond (decide (e.t = 0))
   (cond (decide ((n : Int) ≤ 1000000000))
    (∃ s1 : ByteArray, (Rn 106 [(.s (.int .u64 n)), (i64 10)] ((st s1), [.dead, .dead])) ∧
     (R = ((tb (decide (s1 = s))), [.dead])))
    (R = ((tb false), [.dead])))
   (R = ((tb false), [.dead])))) : Rn 88 [(st s)] R := by
  refine fn_rule (ann := A88) (mv := MV) (fz := true) mixed Tryd.func88 (c := B88) (by kernel_rfl) (by decide) ?_
  all_goals revert h
  all_goals refine via ?_
  all_goals kernel_rfl
/- strings.HasPrefix -/
noncomputable def A89 : Ann := mkAnn [(17512, (fun a => [.ex (Bool) fun b => .done ((tb b), [.dead, .dead])]))] [] [] []
noncomputable abbrev B89 : Code := Tryd.f89.body.getD .skip
set_option maxRecDepth 100000 in
theorem f89 (s : ByteArray) (prefix_ : ByteArray) (R : T × List T) (h : ∃ b : Bool, (Rn 107 [(st s), (st prefix_)] ((tb b), [.dead, .dead])) ∧
  (R = ((tb b), [.dead, .dead]))) : Rn 89 [(st s), (st prefix_)] R := by
  refine fn_rule (ann := A89) (mv := MV) (fz := true) mixed Tryd.func89 (c := B89) (by kernel_rfl) (by decide) ?_
  all_goals revert h
  all_goals refine via ?_
  all_goals kernel_rfl
/- strconv.FormatUint -/
noncomputable def A106 : Ann := mkAnn [(17512, (fun a => [.ex (ByteArray) fun s => .done ((st s), [.dead, .dead])]))] [] [] []
noncomputable abbrev B106 : Code := Tryd.f106.body.getD .skip
set_option maxRecDepth 100000 in
theorem f106 (i : Int) (base : Int) (R : T × List T) (h : ∃ s : ByteArray, (Rn 116 [(.s (.int .u64 i)), (i64 base)] ((st s), [.dead, .dead])) ∧
  (R = ((st s), [.dead, .dead]))) : Rn 106 [(.s (.int .u64 i)), (i64 base)] R := by
  refine fn_rule (ann := A106) (mv := MV) (fz := true) mixed Tryd.func106 (c := B106) (by kernel_rfl) (by decide) ?_
  all_goals revert h
  all_goals refine via ?_
  all_goals kernel_rfl
/- internal/stringslite.HasPrefix -/
noncomputable def A107 : Ann := mkAnn [] [] [] []
noncomputable abbrev B107 : Code := Tryd.f107.body.getD .skip
set_option maxRecDepth 100000 in
theorem f107 (s : ByteArray) (prefix_ : ByteArray) (R : T × List T) (h : cond (decide (((((ByteArray.size prefix_) : Nat) : Int) : Int) ≤ (((ByteArray.size s) : Nat) : Int)))
  (((0 : Int) ≤ (((ByteArray.size prefix_) : Nat) : Int) ∧ (((ByteArray.size prefix_) : Nat) : Int) ≤ (((ByteArray.size s) : Nat) : Int)) ∧
   (R = ((tb (decide ((ByteArray.extract s 0 (Int.toNat (((ByteArray.size prefix_) : Nat) : Int))) = prefix_))), [.dead, .dead])))
  (R = ((tb false), [.dead, .dead]))) : Rn 107 [(st s), (st prefix_)] R := by
  refine fn_rule (ann := A107) (mv := MV) (fz := true) mixed Tryd.func107 (c := B107) (by kernel_rfl) (by decide) ?_
  all_goals revert h
  all_goals refine via ?_
  all_goals kernel_rfl
end Go.Proofs.YthcaodlfnlhfbaaDoorT
