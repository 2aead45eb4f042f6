/- What is to be shown of functions of the program, by their texts (printed by a program of this work; the kernel holds each against the text). -/
import Derived.Test.YtfknpnkdedckhaaGreatDoorP0
namespace Go.Proofs.YtfknpnkdedckhaaGreatDoorT
open Go Go.Proofs
set_option linter.unusedVariables false
/- tumbrel/tumbrelref03.Reserved -/
noncomputable def A203 : Ann := mkAnn [] [] [] []
noncomputable abbrev B203 : Code := Tryz.f203.body.getD .skip
set_option maxRecDepth 100000 in
theorem f203 (s : ByteArray) (R : T × List T) (h : cond (decide (s = (bs [99, 104, 97, 114, 116])))
  (R = ((tb true), [.dead]))
  (cond (decide (s = (bs [118, 97, 114])))
   (R = ((tb true), [.dead]))
   (cond (decide (s = (bs [115, 116, 97, 116, 101])))
    (R = ((tb true), [.dead]))
    (cond (decide (s = (bs [97, 108, 108])))
     (R = ((tb true), [.dead]))
     (cond (decide (s = (bs [101, 110, 100])))
      (R = ((tb true), [.dead]))
      (cond (decide (s = (bs [100, 111])))
       (R = ((tb true), [.dead]))
       (cond (decide (s = (bs [117, 110, 100, 111])))
        (R = ((tb true), [.dead]))
        (cond (decide (s = (bs [97, 116])))
         (R = ((tb true), [.dead]))
         (cond (decide (s = (bs [114, 101, 116, 114, 105, 101, 115])))
          (R = ((tb true), [.dead]))
          (cond (decide (s = (bs [111, 110])))
           (R = ((tb true), [.dead]))
           (cond (decide (s = (bs [105, 102])))
            (R = ((tb true), [.dead]))
            (cond (decide (s = (bs [103, 111])))
             (R = ((tb true), [.dead]))
             (cond (decide (s = (bs [115, 101, 116])))
              (R = ((tb true), [.dead]))
              (R = ((tb false), [.dead]))))))))))))))) : Rn 203 [(st s)] R := by
  refine fn_rule (ann := A203) (mv := MV) (fz := true) mixed Tryz.func203 (c := B203) (by kernel_rfl) (by decide) ?_
  all_goals revert h
  all_goals refine via ?_
  all_goals kernel_rfl
/- tumbrel/tumbrelref04.Readable -/
noncomputable def A204 : Ann := mkAnn [(17448, (fun a => [.ex (Bool) fun b => .done ((tb b), [.dead])])), (17640, (fun a => [.ex (Bool) fun b => .done ((tb b), [.dead])]))] [] [] []
noncomputable abbrev B204 : Code := Tryz.f204.body.getD .skip
set_option maxRecDepth 100000 in
theorem f204 (w : W_tumbrelref04_Node) (R : T × List T) (h : ∃ b : Bool, (Rn 285 [w.t] ((tb b), [.dead])) ∧
  (cond b
   (∃ b1 : Bool, (Rn 286 [w.t] ((tb b1), [.dead])) ∧
    (R = ((tb b1), [.dead])))
   (R = ((tb false), [.dead])))) : Rn 204 [w.t] R := by
  refine fn_rule (ann := A204) (mv := MV) (fz := true) mixed Tryz.func204 (c := B204) (by kernel_rfl) (by decide) ?_
  all_goals revert h
  all_goals refine via ?_
  all_goals kernel_rfl
/- tumbrel/glyph.Letter -/
noncomputable def A279 : Ann := mkAnn [] [] [] []
noncomputable abbrev B279 : Code := Tryz.f279.body.getD .skip
set_option maxRecDepth 100000 in
theorem f279 (n : Int) (R : T × List T) (h : cond (decide ((97 : Int) ≤ n))
  (cond (decide ((n : Int) ≤ 122))
   (R = ((tb true), [.dead]))
   (cond (decide ((65 : Int) ≤ n))
    (cond (decide ((n : Int) ≤ 90))
     (R = ((tb true), [.dead]))
     (cond (decide ((1072 : Int) ≤ n))
      (R = ((tb (decide ((n : Int) ≤ 1103))), [.dead]))
      (R = ((tb false), [.dead]))))
    (cond (decide ((1072 : Int) ≤ n))
     (R = ((tb (decide ((n : Int) ≤ 1103))), [.dead]))
     (R = ((tb false), [.dead])))))
  (cond (decide ((65 : Int) ≤ n))
   (cond (decide ((n : Int) ≤ 90))
    (R = ((tb true), [.dead]))
    (cond (decide ((1072 : Int) ≤ n))
     (R = ((tb (decide ((n : Int) ≤ 1103))), [.dead]))
     (R = ((tb false), [.dead]))))
   (cond (decide ((1072 : Int) ≤ n))
    (R = ((tb (decide ((n : Int) ≤ 1103))), [.dead]))
    (R = ((tb false), [.dead]))))) : Rn 279 [(i32 n)] R := by
  refine fn_rule (ann := A279) (mv := MV) (fz := true) mixed Tryz.func279 (c := B279) (by kernel_rfl) (by decide) ?_
  all_goals revert h
  all_goals refine via ?_
  all_goals kernel_rfl
/- (*tumbrel/glyph.lexer).span -/
noncomputable def A343 : Ann := mkAnn [(66600, (fun a => [.ex (Bool) fun b => .done ((tb b), [.dead])]))] [] [] [(52, [0, 1, 13])]
noncomputable abbrev B343 : Code := Tryz.f343.body.getD .skip
def L343_0 (from_ : Int) (s : ByteArray) (l : List T) (n : Int) (b : Bool) (n1 : Int) (n2 : Int) (s1 : ByteArray) (pos : Nat) (R : T × List T) : Prop := CutL Tryz.prog Tryz.f343 B343 true [1, 0, 1, 0, 0] (mkSt 29 [(0, (.ptr (0, 0) 0)), (1, (i64 from_)), (13, (.it (1000000014, 0)))] (([((0, 0), .box 323 [(st s), (mnT (1, 0) l), (i64 n), (tb b), (i64 n1), (i64 n2)]), ((1000000014, 0), .iter s1 pos)] ++ mnH (1, 0) 414 4 l))) [(.ptr (0, 0) 0), .dead] R
set_option maxRecDepth 100000 in
theorem l343_0 (from_ : Int) (s : ByteArray) (l : List T) (n : Int) (b : Bool) (n1 : Int) (n2 : Int) (s1 : ByteArray) (pos : Nat) (R : T × List T) (h : cond (Nat.ble (pos + 1) (ByteArray.size s1))
  (∃ b1 : Bool, (Rn 278 [(i32 (Utf8.decode s1 pos).1)] ((tb b1), [.dead])) ∧
   (cond (!b1)
    (R = ((i64 ((pos : Nat) : Int)), [(.cbox 323 [(st s), (mnC 414 4 l), (i64 n), (tb b), (i64 n1), (i64 n2)]), .dead]))
    (L343_0 from_ s l n b n1 n2 s1 (pos + (Utf8.decode s1 pos).2) R)))
  (R = ((i64 (IntKind.wrap .i64 ((((ByteArray.size s) : Nat) : Int) - from_))), [(.cbox 323 [(st s), (mnC 414 4 l), (i64 n), (tb b), (i64 n1), (i64 n2)]), .dead]))) : L343_0 from_ s l n b n1 n2 s1 pos R := by
  unfold L343_0
  refine cutL_rule (ann := A343) (mv := MV) mixed (by kernel_rfl) ?_
  all_goals rcases l with _ | ⟨_, _⟩
  all_goals revert h
  all_goals refine via ?_
  all_goals kernel_rfl
set_option maxRecDepth 100000 in
theorem f343 (s : ByteArray) (l : List T) (n : Int) (b : Bool) (n1 : Int) (n2 : Int) (from_ : Int) (R : T × List T) (h : ((0 : Int) ≤ from_ ∧ from_ ≤ (((ByteArray.size s) : Nat) : Int)) ∧
  (L343_0 from_ s l n b n1 n2 ((ByteArray.extract s (Int.toNat from_) (ByteArray.size s))) 0 R)) : Rn 343 [(.cbox 323 [(st s), (mnC 414 4 l), (i64 n), (tb b), (i64 n1), (i64 n2)]), (i64 from_)] R := by
  refine fn_rule (ann := A343) (mv := MV) (fz := true) mixed Tryz.func343 (c := B343) (by kernel_rfl) (by decide) ?_
  all_goals rcases l with _ | ⟨_, _⟩
  all_goals revert h
  all_goals refine via ?_
  all_goals kernel_rfl
/- tumbrel/glyph.Name -/
noncomputable def A194 : Ann := mkAnn [(82984, (fun a => [.ex (Bool) fun b => .done ((tb b), [.dead])])), (83432, (fun a => [.ex (Bool) fun b => .done ((tb b), [.dead])]))] [] [] [(116, [3, 7])]
noncomputable abbrev B194 : Code := Tryz.f194.body.getD .skip
def L194_0 (n : Int) (s : ByteArray) (pos : Nat) (R : T × List T) : Prop := CutL Tryz.prog Tryz.f194 B194 true [1, 1, 0, 1, 0, 0] (mkSt 32 [(3, (i64 n)), (7, (.it (1000000008, 0)))] [((1000000008, 0), .iter s pos)]) [.dead] R
set_option maxRecDepth 100000 in
theorem l194_0 (n : Int) (s : ByteArray) (pos : Nat) (R : T × List T) (h : cond (Nat.ble (pos + 1) (ByteArray.size s))
  (∃ b : Bool, (Rn 278 [(i32 (Utf8.decode s pos).1)] ((tb b), [.dead])) ∧
   (cond (!b)
    (R = ((tb false), [.dead]))
    (cond (decide ((((pos : Nat) : Int) : Int) = 0))
     (∃ b1 : Bool, (Rn 279 [(i32 (Utf8.decode s pos).1)] ((tb b1), [.dead])) ∧
      (cond (!b1)
       (R = ((tb false), [.dead]))
       (L194_0 (IntKind.wrap .i64 (n + 1)) s (pos + (Utf8.decode s pos).2) R)))
     (L194_0 (IntKind.wrap .i64 (n + 1)) s (pos + (Utf8.decode s pos).2) R))))
  (cond (decide ((0 : Int) < n))
   (R = ((tb (decide ((n : Int) ≤ 24))), [.dead]))
   (R = ((tb false), [.dead])))) : L194_0 n s pos R := by
  unfold L194_0
  refine cutL_rule (ann := A194) (mv := MV) mixed (by kernel_rfl) ?_
  all_goals revert h
  all_goals refine via ?_
  all_goals kernel_rfl
set_option maxRecDepth 100000 in
theorem f194 (s : ByteArray) (R : T × List T) (h : L194_0 0 s 0 R) : Rn 194 [(st s)] R := by
  refine fn_rule (ann := A194) (mv := MV) (fz := true) mixed Tryz.func194 (c := B194) (by kernel_rfl) (by decide) ?_
  all_goals revert h
  all_goals refine via ?_
  all_goals kernel_rfl
/- tumbrel/glyph.digit -/
noncomputable def A344 : Ann := mkAnn [] [] [] []
noncomputable abbrev B344 : Code := Tryz.f344.body.getD .skip
set_option maxRecDepth 100000 in
theorem f344 (n : Int) (R : T × List T) (h : cond (decide ((48 : Int) ≤ n))
  (R = ((tb (decide ((n : Int) ≤ 57))), [.dead]))
  (R = ((tb false), [.dead]))) : Rn 344 [(i32 n)] R := by
  refine fn_rule (ann := A344) (mv := MV) (fz := true) mixed Tryz.func344 (c := B344) (by kernel_rfl) (by decide) ?_
  all_goals revert h
  all_goals refine via ?_
  all_goals kernel_rfl
/- tumbrel/glyph.number -/
noncomputable def A345 : Ann := mkAnn [(17448, (fun a => [.ex (Int) fun n => .ex (IfV) fun e => .done ((.tup [(.s (.int .u64 n)), e.v]), [.dead, .dead, .dead])])), (34280, (fun a => [.ex (ByteArray) fun s => .done ((st s), [.dead, .dead])]))] [] [] []
noncomputable abbrev B345 : Code := Tryz.f345.body.getD .skip
set_option maxRecDepth 100000 in
theorem f345 (s : ByteArray) (R : T × List T) (h : ∃ n : Int, ∃ e : IfV, (Rn 381 [(st s), (i64 10), (i64 63)] ((.tup [(.s (.int .u64 n)), e.v]), [.dead, .dead, .dead])) ∧
  (cond (decide (e.t = 0))
   (cond (decide ((n : Int) ≤ 1000000000))
    (∃ s1 : ByteArray, (Rn 382 [(.s (.int .u64 n)), (i64 10)] ((st s1), [.dead, .dead])) ∧
     (R = ((tb (decide (s1 = s))), [.dead])))
    (R = ((tb false), [.dead])))
   (R = ((tb false), [.dead])))) : Rn 345 [(st s)] R := by
  refine fn_rule (ann := A345) (mv := MV) (fz := true) mixed Tryz.func345 (c := B345) (by kernel_rfl) (by decide) ?_
  all_goals revert h
  all_goals refine via ?_
  all_goals kernel_rfl
/- strings.HasPrefix -/
noncomputable def A262 : Ann := mkAnn [(17512, (fun a => [.ex (Bool) fun b => .done ((tb b), [.dead, .dead])]))] [] [] []
noncomputable abbrev B262 : Code := Tryz.f262.body.getD .skip
set_option maxRecDepth 100000 in
theorem f262 (s : ByteArray) (prefix_ : ByteArray) (R : T × List T) (h : ∃ b : Bool, (Rn 335 [(st s), (st prefix_)] ((tb b), [.dead, .dead])) ∧
  (R = ((tb b), [.dead, .dead]))) : Rn 262 [(st s), (st prefix_)] R := by
  refine fn_rule (ann := A262) (mv := MV) (fz := true) mixed Tryz.func262 (c := B262) (by kernel_rfl) (by decide) ?_
  all_goals revert h
  all_goals refine via ?_
  all_goals kernel_rfl
/- tumbrel/tumbrelref04.small -/
noncomputable def A255 : Ann := mkAnn [(116200, (fun a => [.ex (Int) fun n => .done ((i64 n), [.dead, .dead, .dead])]))] [(115880, [.ex W_tumbrelref04_Node fun w => .done w.t])] [] [(244, [1, 2, 3, 24, 25])]
noncomputable abbrev B255 : Code := Tryz.f255.body.getD .skip
def L255_0 (depth : Int) (left : Int) (n : Int) (n1 : Int) (w : W_tumbrelref04_Node) (R : T × List T) : Prop := CutL Tryz.prog Tryz.f255 B255 true [1, 1, 1, 0, 1, 0, 0] (mkSt 41 [(1, (i64 depth)), (2, (i64 left)), (3, (.ptr (1000000004, 0) 0)), (24, (i64 n)), (25, (i64 n1))] [((1000000004, 0), .box 72 [(i64 w.fKind), (i64 w.fN), (st w.fS), (.sl 4 w.fParts)])]) [.dead, .dead, .dead] R
set_option maxRecDepth 100000 in
theorem l255_0 (depth : Int) (left : Int) (n : Int) (n1 : Int) (w : W_tumbrelref04_Node) (R : T × List T) (h : cond (decide ((n1 : Int) < n))
  (∃ w1 : W_tumbrelref04_Node, ((0 : Int) ≤ n1 ∧ w.fParts[(Int.toNat n1)]? = some w1.t) ∧
   (∃ n2 : Int, (Rn 255 [w1.t, (i64 (IntKind.wrap .i64 (depth + 1))), (i64 left)] ((i64 n2), [.dead, .dead, .dead])) ∧
    (cond (decide ((n2 : Int) < 0))
     (R = ((i64 (-1)), [.dead, .dead, .dead]))
     (L255_0 depth n2 n (IntKind.wrap .i64 (n1 + 1)) w R))))
  (R = ((i64 left), [.dead, .dead, .dead]))) : L255_0 depth left n n1 w R := by
  unfold L255_0
  refine cutL_rule (ann := A255) (mv := MV) mixed (by kernel_rfl) ?_
  all_goals revert h
  all_goals refine via ?_
  all_goals kernel_rfl
set_option maxRecDepth 100000 in
theorem f255 (w : W_tumbrelref04_Node) (depth : Int) (left : Int) (R : T × List T) (h : cond (decide ((60 : Int) < depth))
  (R = ((i64 (-1)), [.dead, .dead, .dead]))
  (cond (decide (((IntKind.wrap .i64 (left - 1)) : Int) < 0))
   (R = ((i64 (-1)), [.dead, .dead, .dead]))
   (cond (decide ((1000 : Int) < (((ByteArray.size w.fS) : Nat) : Int)))
    (R = ((i64 (-1)), [.dead, .dead, .dead]))
    (L255_0 depth (IntKind.wrap .i64 (left - 1)) (((List.length w.fParts) : Nat) : Int) 0 w R)))) : Rn 255 [w.t, (i64 depth), (i64 left)] R := by
  refine fn_rule (ann := A255) (mv := MV) (fz := true) mixed Tryz.func255 (c := B255) (by kernel_rfl) (by decide) ?_
  all_goals revert h
  all_goals refine via ?_
  all_goals kernel_rfl
/- tumbrel/tumbrellaw04.Theirs$1 -/
noncomputable def A244 : Ann := mkAnn [(34088, (fun a => [.ex (IfV) fun e => .done (e.v, [.dead])]))] [(33960, [.ex W_tumbrelref04_Node fun w => .done w.t])] [] []
noncomputable abbrev B244 : Code := Tryz.f244.body.getD .skip
set_option maxRecDepth 100000 in
theorem f244 (i : Int) (n : Int) (n1 : Int) (s : ByteArray) (l : List T) (R : T × List T) (h : cond (decide ((i : Int) < (((List.length l) : Nat) : Int)))
  (∃ w : W_tumbrelref04_Node, ((0 : Int) ≤ i ∧ l[(Int.toNat i)]? = some w.t) ∧
   (∃ e : IfV, (Rn 153 [w.t] (e.v, [.dead])) ∧
    (R = (e.v, [.dead, (.cbox 72 [(i64 n), (i64 n1), (st s), (.sl 4 l)])]))))
  (R = ((.ifc 0 .dead), [.dead, (.cbox 72 [(i64 n), (i64 n1), (st s), (.sl 4 l)])]))) : Rn 244 [(i64 i), (.cbox 72 [(i64 n), (i64 n1), (st s), (.sl 4 l)])] R := by
  refine fn_rule (ann := A244) (mv := MV) (fz := true) mixed Tryz.func244 (c := B244) (by kernel_rfl) (by decide) ?_
  all_goals revert h
  all_goals refine via ?_
  all_goals kernel_rfl
/- tumbrel/tumbrelref04.Print -/
noncomputable def A271 : Ann := mkAnn [(17448, (fun a => [.ex (Bool) fun b => .done ((tb b), [.dead])])), (50216, (fun a => [.ex (ByteArray) fun s => .done ((st s), [.dead])]))] [] [] []
noncomputable abbrev B271 : Code := Tryz.f271.body.getD .skip
set_option maxRecDepth 100000 in
theorem f271 (w : W_tumbrelref04_Node) (R : T × List T) (h : ∃ b : Bool, (Rn 204 [w.t] ((tb b), [.dead])) ∧
  (cond (!b)
   (R = ((.tup [(st (bs [])), (i64 1)]), [.dead]))
   (∃ s : ByteArray, (Rn 346 [w.t] ((st s), [.dead])) ∧
    (R = ((.tup [(st s), (i64 0)]), [.dead]))))) : Rn 271 [w.t] R := by
  refine fn_rule (ann := A271) (mv := MV) (fz := true) mixed Tryz.func271 (c := B271) (by kernel_rfl) (by decide) ?_
  all_goals revert h
  all_goals refine via ?_
  all_goals kernel_rfl
/- tumbrel/tumbrelref03.run -/
noncomputable def A273 : Ann := mkAnn [(50344, (fun a => [.ex (Int) fun n => .ex (Int) fun n1 => .done ((.tup [(i32 n), (i64 n1)]), [.dead])])), (66600, (fun a => [.ex (Bool) fun b => .done ((tb b), [.dead])]))] [] [] [(56, [0, 4, 5])]
noncomputable abbrev B273 : Code := Tryz.f273.body.getD .skip
def L273_0 (s : ByteArray) (n : Int) (runes : Int) (R : T × List T) : Prop := CutL Tryz.prog Tryz.f273 B273 true [1, 1, 0, 0, 0] (mkSt 29 [(0, (st s)), (4, (i64 n)), (5, (i64 runes))] []) [.dead] R
set_option maxRecDepth 100000 in
theorem l273_0 (s : ByteArray) (n : Int) (runes : Int) (R : T × List T) (h : cond (decide ((n : Int) < (((ByteArray.size s) : Nat) : Int)))
  (((0 : Int) ≤ n ∧ n ≤ (((ByteArray.size s) : Nat) : Int)) ∧
   (∃ n1 : Int, ∃ n2 : Int, (Rn 191 [(st (ByteArray.extract s (Int.toNat n) (ByteArray.size s)))] ((.tup [(i32 n1), (i64 n2)]), [.dead])) ∧
    (∃ b : Bool, (Rn 348 [(i32 n1)] ((tb b), [.dead])) ∧
     (cond (!b)
      (R = ((.tup [(i64 n), (i64 runes)]), [.dead]))
      (L273_0 s (IntKind.wrap .i64 (n + n2)) (IntKind.wrap .i64 (runes + 1)) R)))))
  (R = ((.tup [(i64 n), (i64 runes)]), [.dead]))) : L273_0 s n runes R := by
  unfold L273_0
  refine cutL_rule (ann := A273) (mv := MV) mixed (by kernel_rfl) ?_
  all_goals revert h
  all_goals refine via ?_
  all_goals kernel_rfl
set_option maxRecDepth 100000 in
theorem f273 (s : ByteArray) (R : T × List T) (h : L273_0 s 0 0 R) : Rn 273 [(st s)] R := by
  refine fn_rule (ann := A273) (mv := MV) (fz := true) mixed Tryz.func273 (c := B273) (by kernel_rfl) (by decide) ?_
  all_goals revert h
  all_goals refine via ?_
  all_goals kernel_rfl
/- tumbrel/tumbrelref03.Letter -/
noncomputable def A274 : Ann := mkAnn [] [] [] []
noncomputable abbrev B274 : Code := Tryz.f274.body.getD .skip
set_option maxRecDepth 100000 in
theorem f274 (n : Int) (R : T × List T) (h : cond (decide ((97 : Int) ≤ n))
  (cond (decide ((n : Int) ≤ 122))
   (R = ((tb true), [.dead]))
   (cond (decide ((65 : Int) ≤ n))
    (cond (decide ((n : Int) ≤ 90))
     (R = ((tb true), [.dead]))
     (cond (decide ((1072 : Int) ≤ n))
      (R = ((tb (decide ((n : Int) ≤ 1103))), [.dead]))
      (R = ((tb false), [.dead]))))
    (cond (decide ((1072 : Int) ≤ n))
     (R = ((tb (decide ((n : Int) ≤ 1103))), [.dead]))
     (R = ((tb false), [.dead])))))
  (cond (decide ((65 : Int) ≤ n))
   (cond (decide ((n : Int) ≤ 90))
    (R = ((tb true), [.dead]))
    (cond (decide ((1072 : Int) ≤ n))
     (R = ((tb (decide ((n : Int) ≤ 1103))), [.dead]))
     (R = ((tb false), [.dead]))))
   (cond (decide ((1072 : Int) ≤ n))
    (R = ((tb (decide ((n : Int) ≤ 1103))), [.dead]))
    (R = ((tb false), [.dead]))))) : Rn 274 [(i32 n)] R := by
  refine fn_rule (ann := A274) (mv := MV) (fz := true) mixed Tryz.func274 (c := B274) (by kernel_rfl) (by decide) ?_
  all_goals revert h
  all_goals refine via ?_
  all_goals kernel_rfl
/- tumbrel/tumbrelref03.digit -/
noncomputable def A275 : Ann := mkAnn [] [] [] []
noncomputable abbrev B275 : Code := Tryz.f275.body.getD .skip
set_option maxRecDepth 100000 in
theorem f275 (n : Int) (R : T × List T) (h : cond (decide ((48 : Int) ≤ n))
  (R = ((tb (decide ((n : Int) ≤ 57))), [.dead]))
  (R = ((tb false), [.dead]))) : Rn 275 [(i32 n)] R := by
  refine fn_rule (ann := A275) (mv := MV) (fz := true) mixed Tryz.func275 (c := B275) (by kernel_rfl) (by decide) ?_
  all_goals revert h
  all_goals refine via ?_
  all_goals kernel_rfl
/- tumbrel/tumbrelref03.Number -/
noncomputable def A276 : Ann := mkAnn [] [] [] [(244, [0, 4, 5])]
noncomputable abbrev B276 : Code := Tryz.f276.body.getD .skip
def L276_0 (s : ByteArray) (n : Int) (i : Int) (R : T × List T) : Prop := CutL Tryz.prog Tryz.f276 B276 true [1, 1, 1, 0, 1, 0, 0] (mkSt 51 [(0, (st s)), (4, (i64 n)), (5, (i64 i))] []) [.dead] R
set_option maxRecDepth 100000 in
theorem l276_0 (s : ByteArray) (n : Int) (i : Int) (R : T × List T) (h : cond (decide ((i : Int) < (((ByteArray.size s) : Nat) : Int)))
  (((0 : Int) ≤ i ∧ i < (((ByteArray.size s) : Nat) : Int)) ∧
   (cond (decide (((byteAt s (Int.toNat i)) : Int) < 48))
    (R = ((.tup [(i64 0), (tb false)]), [.dead]))
    (((0 : Int) ≤ i ∧ i < (((ByteArray.size s) : Nat) : Int)) ∧
     (cond (decide ((57 : Int) < (byteAt s (Int.toNat i))))
      (R = ((.tup [(i64 0), (tb false)]), [.dead]))
      (((0 : Int) ≤ i ∧ i < (((ByteArray.size s) : Nat) : Int)) ∧
       (L276_0 s ((IntKind.wrap .i64 ((IntKind.wrap .i64 (10 * n)) + (IntKind.wrap .i64 (IntKind.wrap .u8 ((byteAt s (Int.toNat i)) - 48)))))) (IntKind.wrap .i64 (i + 1)) R))))))
  (R = ((.tup [(i64 n), (tb (decide ((n : Int) ≤ 1000000000)))]), [.dead]))) : L276_0 s n i R := by
  unfold L276_0
  refine cutL_rule (ann := A276) (mv := MV) mixed (by kernel_rfl) ?_
  all_goals revert h
  all_goals refine via ?_
  all_goals kernel_rfl
set_option maxRecDepth 100000 in
theorem f276 (s : ByteArray) (R : T × List T) (h : cond (decide (((((ByteArray.size s) : Nat) : Int) : Int) < 1))
  (R = ((.tup [(i64 0), (tb false)]), [.dead]))
  (cond (decide ((10 : Int) < (((ByteArray.size s) : Nat) : Int)))
   (R = ((.tup [(i64 0), (tb false)]), [.dead]))
   (((0 : Int) ≤ 0 ∧ 0 < (((ByteArray.size s) : Nat) : Int)) ∧
    (cond (decide (((byteAt s 0) : Int) = 48))
     (cond (decide ((1 : Int) < (((ByteArray.size s) : Nat) : Int)))
      (R = ((.tup [(i64 0), (tb false)]), [.dead]))
      (L276_0 s 0 0 R))
     (L276_0 s 0 0 R))))) : Rn 276 [(st s)] R := by
  refine fn_rule (ann := A276) (mv := MV) (fz := true) mixed Tryz.func276 (c := B276) (by kernel_rfl) (by decide) ?_
  all_goals revert h
  all_goals refine via ?_
  all_goals kernel_rfl
/- tumbrel/tumbrelref03.sign -/
noncomputable def A277 : Ann := mkAnn [] [] [] []
noncomputable abbrev B277 : Code := Tryz.f277.body.getD .skip
set_option maxRecDepth 100000 in
theorem f277 (s : ByteArray) (R : T × List T) (h : cond (decide ((1 : Int) < (((ByteArray.size s) : Nat) : Int)))
  (((0 : Int) ≤ 2 ∧ 2 ≤ (((ByteArray.size s) : Nat) : Int)) ∧
   (cond (decide ((ByteArray.extract s 0 2) = (bs [61, 61])))
    (R = ((i64 2), [.dead]))
    (cond (decide ((ByteArray.extract s 0 2) = (bs [33, 61])))
     (R = ((i64 2), [.dead]))
     (cond (decide ((ByteArray.extract s 0 2) = (bs [60, 61])))
      (R = ((i64 2), [.dead]))
      (cond (decide ((ByteArray.extract s 0 2) = (bs [38, 38])))
       (R = ((i64 2), [.dead]))
       (cond (decide ((ByteArray.extract s 0 2) = (bs [124, 124])))
        (R = ((i64 2), [.dead]))
        (((0 : Int) ≤ 0 ∧ 0 < (((ByteArray.size s) : Nat) : Int)) ∧
         (cond (decide (((byteAt s 0) : Int) = 123))
          (R = ((i64 1), [.dead]))
          (cond (decide (((byteAt s 0) : Int) = 125))
           (R = ((i64 1), [.dead]))
           (cond (decide (((byteAt s 0) : Int) = 40))
            (R = ((i64 1), [.dead]))
            (cond (decide (((byteAt s 0) : Int) = 41))
             (R = ((i64 1), [.dead]))
             (cond (decide (((byteAt s 0) : Int) = 61))
              (R = ((i64 1), [.dead]))
              (cond (decide (((byteAt s 0) : Int) = 33))
               (R = ((i64 1), [.dead]))
               (cond (decide (((byteAt s 0) : Int) = 60))
                (R = ((i64 1), [.dead]))
                (cond (decide (((byteAt s 0) : Int) = 43))
                 (R = ((i64 1), [.dead]))
                 (cond (decide (((byteAt s 0) : Int) = 45))
                  (R = ((i64 1), [.dead]))
                  (cond (decide (((byteAt s 0) : Int) = 42))
                   (R = ((i64 1), [.dead]))
                   (R = ((i64 0), [.dead])))))))))))))))))))
  (((0 : Int) ≤ 0 ∧ 0 < (((ByteArray.size s) : Nat) : Int)) ∧
   (cond (decide (((byteAt s 0) : Int) = 123))
    (R = ((i64 1), [.dead]))
    (cond (decide (((byteAt s 0) : Int) = 125))
     (R = ((i64 1), [.dead]))
     (cond (decide (((byteAt s 0) : Int) = 40))
      (R = ((i64 1), [.dead]))
      (cond (decide (((byteAt s 0) : Int) = 41))
       (R = ((i64 1), [.dead]))
       (cond (decide (((byteAt s 0) : Int) = 61))
        (R = ((i64 1), [.dead]))
        (cond (decide (((byteAt s 0) : Int) = 33))
         (R = ((i64 1), [.dead]))
         (cond (decide (((byteAt s 0) : Int) = 60))
          (R = ((i64 1), [.dead]))
          (cond (decide (((byteAt s 0) : Int) = 43))
           (R = ((i64 1), [.dead]))
           (cond (decide (((byteAt s 0) : Int) = 45))
            (R = ((i64 1), [.dead]))
            (cond (decide (((byteAt s 0) : Int) = 42))
             (R = ((i64 1), [.dead]))
             (R = ((i64 0), [.dead])))))))))))))) : Rn 277 [(st s)] R := by
  refine fn_rule (ann := A277) (mv := MV) (fz := true) mixed Tryz.func277 (c := B277) (by kernel_rfl) (by decide) ?_
  all_goals revert h
  all_goals refine via ?_
  all_goals kernel_rfl
/- slices.IndexFunc[[]string,string] -/
noncomputable def A247 : Ann := mkAnn [(66856, (fun a => [.ex (Bool) fun b => .done ((tb b), [.dead])]))] [(66728, [.ex ByteArray fun w => .done (st w)])] [] [(52, [0, 1, 7, 8])]
noncomputable abbrev B247 : Code := Tryz.f247.body.getD .skip
def L247_0 (s : List T) (n : Int) (n1 : Int) (R : T × List T) : Prop := CutL Tryz.prog Tryz.f247 B247 true [1, 0, 1, 0, 0] (mkSt 19 [(0, (.sl 1 s)), (1, (.s (.func (.func 193) #[] #[]))), (7, (i64 n)), (8, (i64 n1))] []) [.dead, .dead] R
set_option maxRecDepth 100000 in
theorem l247_0 (s : List T) (n : Int) (n1 : Int) (R : T × List T) (h : cond (decide ((n1 : Int) < n))
  (∃ s1 : ByteArray, ((0 : Int) ≤ n1 ∧ s[(Int.toNat n1)]? = some (st s1)) ∧
   (∃ b : Bool, (Rn 193 [(st s1)] ((tb b), [.dead])) ∧
    (cond b
     (R = ((i64 n1), [.dead, .dead]))
     (L247_0 s n (IntKind.wrap .i64 (n1 + 1)) R))))
  (R = ((i64 (-1)), [.dead, .dead]))) : L247_0 s n n1 R := by
  unfold L247_0
  refine cutL_rule (ann := A247) (mv := MV) mixed (by kernel_rfl) ?_
  all_goals revert h
  all_goals refine via ?_
  all_goals kernel_rfl
set_option maxRecDepth 100000 in
theorem f247 (s : List T) (R : T × List T) (h : L247_0 s (((List.length s) : Nat) : Int) 0 R) : Rn 247 [(.sl 1 s), (.s (.func (.func 193) #[] #[]))] R := by
  refine fn_rule (ann := A247) (mv := MV) (fz := true) mixed Tryz.func247 (c := B247) (by kernel_rfl) (by decide) ?_
  all_goals revert h
  all_goals refine via ?_
  all_goals kernel_rfl
/- tumbrel/show.Formed$1 -/
noncomputable def A107 : Ann := mkAnn [(17576, (fun a => [.ex (Bool) fun b => .done ((tb b), [.dead])]))] [] [] []
noncomputable abbrev B107 : Code := Tryz.f107.body.getD .skip
set_option maxRecDepth 100000 in
theorem f107 (w : W_chart_Var) (R : T × List T) (h : ∃ b : Bool, (Rn 104 [(.sl 1 [(st w.fName)])] ((tb b), [.dead])) ∧
  (cond (!b)
   (R = ((tb true), [.dead]))
   (cond (decide ((w.fN : Int) < (-1000000000)))
    (R = ((tb true), [.dead]))
    (R = ((tb (decide ((1000000000 : Int) < w.fN))), [.dead]))))) : Rn 107 [w.t] R := by
  refine fn_rule (ann := A107) (mv := MV) (fz := true) mixed Tryz.func107 (c := B107) (by kernel_rfl) (by decide) ?_
  all_goals revert h
  all_goals refine via ?_
  all_goals kernel_rfl
/- tumbrel/show.Formed$2 -/
noncomputable def A109 : Ann := mkAnn [(17448, (fun a => [.ex (Bool) fun b => .done ((tb b), [.dead, .dead])]))] [] [] []
noncomputable abbrev B109 : Code := Tryz.f109.body.getD .skip
set_option maxRecDepth 100000 in
theorem f109 (w : W_chart_State) (R : T × List T) (h : ∃ b : Bool, (Rn 110 [w.t, (i64 1)] ((tb b), [.dead, .dead])) ∧
  (R = ((tb (!b)), [.dead]))) : Rn 109 [w.t] R := by
  refine fn_rule (ann := A109) (mv := MV) (fz := true) mixed Tryz.func109 (c := B109) (by kernel_rfl) (by decide) ?_
  all_goals revert h
  all_goals refine via ?_
  all_goals kernel_rfl
/- tumbrel/tumbrelref04.Formed -/
noncomputable def A285 : Ann := mkAnn [(17448, (fun a => [.ex (Int) fun n => .done ((i64 n), [.dead])])), (17704, (fun a => [.ex (Int) fun n => .done ((i64 n), [.dead])])), (18024, (fun a => [.ex (Bool) fun b => .done ((tb b), [.dead])]))] [] [] []
noncomputable abbrev B285 : Code := Tryz.f285.body.getD .skip
set_option maxRecDepth 100000 in
theorem f285 (w : W_tumbrelref04_Node) (R : T × List T) (h : ∃ n : Int, (Rn 351 [w.t] ((i64 n), [.dead])) ∧
  (cond (decide ((n : Int) ≤ 40))
   (∃ n1 : Int, (Rn 352 [w.t] ((i64 n1), [.dead])) ∧
    (cond (decide ((n1 : Int) ≤ 12))
     (∃ b : Bool, (Rn 353 [w.t] ((tb b), [.dead])) ∧
      (R = ((tb b), [.dead])))
     (R = ((tb false), [.dead]))))
   (R = ((tb false), [.dead])))) : Rn 285 [w.t] R := by
  refine fn_rule (ann := A285) (mv := MV) (fz := true) mixed Tryz.func285 (c := B285) (by kernel_rfl) (by decide) ?_
  all_goals revert h
  all_goals refine via ?_
  all_goals kernel_rfl
/- tumbrel/tumbrelref04.plain -/
noncomputable def A286 : Ann := mkAnn [(17768, (fun a => [.ex (Bool) fun b => .done ((tb b), [.dead])])), (99624, (fun a => [.ex (Bool) fun b => .done ((tb b), [.dead])]))] [(99496, [.ex W_tumbrelref04_Node fun w => .done w.t])] [] [(116, [1, 14, 15])]
noncomputable abbrev B286 : Code := Tryz.f286.body.getD .skip
def L286_0 (n : Int) (n1 : Int) (w : W_tumbrelref04_Node) (R : T × List T) : Prop := CutL Tryz.prog Tryz.f286 B286 true [1, 1, 0, 1, 0, 0] (mkSt 26 [(1, (.ptr (1000000002, 0) 0)), (14, (i64 n)), (15, (i64 n1))] [((1000000002, 0), .box 72 [(i64 w.fKind), (i64 w.fN), (st w.fS), (.sl 4 w.fParts)])]) [.dead] R
set_option maxRecDepth 100000 in
theorem l286_0 (n : Int) (n1 : Int) (w : W_tumbrelref04_Node) (R : T × List T) (h : cond (decide ((n1 : Int) < n))
  (∃ w1 : W_tumbrelref04_Node, ((0 : Int) ≤ n1 ∧ w.fParts[(Int.toNat n1)]? = some w1.t) ∧
   (∃ b : Bool, (Rn 286 [w1.t] ((tb b), [.dead])) ∧
    (cond (!b)
     (R = ((tb false), [.dead]))
     (L286_0 n (IntKind.wrap .i64 (n1 + 1)) w R))))
  (R = ((tb true), [.dead]))) : L286_0 n n1 w R := by
  unfold L286_0
  refine cutL_rule (ann := A286) (mv := MV) mixed (by kernel_rfl) ?_
  all_goals revert h
  all_goals refine via ?_
  all_goals kernel_rfl
set_option maxRecDepth 100000 in
theorem f286 (w : W_tumbrelref04_Node) (R : T × List T) (h : cond (decide ((w.fKind : Int) = 2))
  (∃ b : Bool, (Rn 203 [(st w.fS)] ((tb b), [.dead])) ∧
   (cond b
    (R = ((tb false), [.dead]))
    (L286_0 (((List.length w.fParts) : Nat) : Int) 0 w R)))
  (L286_0 (((List.length w.fParts) : Nat) : Int) 0 w R)) : Rn 286 [w.t] R := by
  refine fn_rule (ann := A286) (mv := MV) (fz := true) mixed Tryz.func286 (c := B286) (by kernel_rfl) (by decide) ?_
  all_goals revert h
  all_goals refine via ?_
  all_goals kernel_rfl
/- tumbrel/glyph.inside -/
noncomputable def A278 : Ann := mkAnn [(17448, (fun a => [.ex (Bool) fun b => .done ((tb b), [.dead])])), (17640, (fun a => [.ex (Bool) fun b => .done ((tb b), [.dead])]))] [] [] []
noncomputable abbrev B278 : Code := Tryz.f278.body.getD .skip
set_option maxRecDepth 100000 in
theorem f278 (n : Int) (R : T × List T) (h : ∃ b : Bool, (Rn 279 [(i32 n)] ((tb b), [.dead])) ∧
  (cond b
   (R = ((tb true), [.dead]))
   (∃ b1 : Bool, (Rn 344 [(i32 n)] ((tb b1), [.dead])) ∧
    (cond b1
     (R = ((tb true), [.dead]))
     (R = ((tb (decide ((n : Int) = 95))), [.dead])))))) : Rn 278 [(i32 n)] R := by
  refine fn_rule (ann := A278) (mv := MV) (fz := true) mixed Tryz.func278 (c := B278) (by kernel_rfl) (by decide) ?_
  all_goals revert h
  all_goals refine via ?_
  all_goals kernel_rfl
/- strconv.FormatUint -/
noncomputable def A382 : Ann := mkAnn [(17512, (fun a => [.ex (ByteArray) fun s => .done ((st s), [.dead, .dead])]))] [] [] []
noncomputable abbrev B382 : Code := Tryz.f382.body.getD .skip
set_option maxRecDepth 100000 in
theorem f382 (i : Int) (base : Int) (R : T × List T) (h : ∃ s : ByteArray, (Rn 403 [(.s (.int .u64 i)), (i64 base)] ((st s), [.dead, .dead])) ∧
  (R = ((st s), [.dead, .dead]))) : Rn 382 [(.s (.int .u64 i)), (i64 base)] R := by
  refine fn_rule (ann := A382) (mv := MV) (fz := true) mixed Tryz.func382 (c := B382) (by kernel_rfl) (by decide) ?_
  all_goals revert h
  all_goals refine via ?_
  all_goals kernel_rfl
/- internal/stringslite.HasPrefix -/
noncomputable def A335 : Ann := mkAnn [] [] [] []
noncomputable abbrev B335 : Code := Tryz.f335.body.getD .skip
set_option maxRecDepth 100000 in
theorem f335 (s : ByteArray) (prefix_ : ByteArray) (R : T × List T) (h : cond (decide (((((ByteArray.size prefix_) : Nat) : Int) : Int) ≤ (((ByteArray.size s) : Nat) : Int)))
  (((0 : Int) ≤ (((ByteArray.size prefix_) : Nat) : Int) ∧ (((ByteArray.size prefix_) : Nat) : Int) ≤ (((ByteArray.size s) : Nat) : Int)) ∧
   (R = ((tb (decide ((ByteArray.extract s 0 (Int.toNat (((ByteArray.size prefix_) : Nat) : Int))) = prefix_))), [.dead, .dead])))
  (R = ((tb false), [.dead, .dead]))) : Rn 335 [(st s), (st prefix_)] R := by
  refine fn_rule (ann := A335) (mv := MV) (fz := true) mixed Tryz.func335 (c := B335) (by kernel_rfl) (by decide) ?_
  all_goals revert h
  all_goals refine via ?_
  all_goals kernel_rfl
/- tumbrel/tumbrelref04.text -/
noncomputable def A346 : Ann := mkAnn [(50280, (fun a => [.ex (ByteArray) fun s => .done ((st s), [.dead, .dead])])), (115944, (fun a => [.ex (ByteArray) fun s => .done ((st s), [.dead, .dead])])), (148712, (fun a => [.ex (ByteArray) fun s => .done ((st s), [.dead, .dead])])), (164968, (fun a => [.ex (Int) fun n => .done ((i64 n), [.dead])])), (230696, (fun a => [.ex (ByteArray) fun s => .done ((st s), [.dead, .dead])])), (231464, (fun a => [.ex (ByteArray) fun s => .done ((st s), [.dead, .dead])]))] [(115816, [.ex W_tumbrelref04_Node fun w => .done w.t]), (148584, [.ex W_tumbrelref04_Node fun w => .done w.t]), (230504, [.ex W_tumbrelref04_Node fun w => .done w.t]), (231208, [.ex W_tumbrelref04_Node fun w => .done w.t])] [] []
noncomputable abbrev B346 : Code := Tryz.f346.body.getD .skip
set_option maxRecDepth 100000 in
theorem f346 (w : W_tumbrelref04_Node) (R : T × List T) (h : cond (decide ((w.fKind : Int) = 1))
  (∃ s : ByteArray, (Rn 98 [(i64 w.fN), (i64 10)] ((st s), [.dead, .dead])) ∧
   (R = ((st s), [.dead])))
  (cond (decide ((w.fKind : Int) = 2))
   (R = ((st w.fS), [.dead]))
   (cond (decide ((w.fKind : Int) = 3))
    (∃ w1 : W_tumbrelref04_Node, ((0 : Int) ≤ 0 ∧ w.fParts[0]? = some w1.t) ∧
     (∃ s1 : ByteArray, (Rn 383 [w1.t, (i64 6)] ((st s1), [.dead, .dead])) ∧
      ((((ByteArray.size (bs [33]) + ByteArray.size s1 : Nat) : Int) ≤ 9223372036854775807) ∧
       (R = ((st ((bs [33]) ++ s1)), [.dead])))))
    (cond (decide ((w.fKind : Int) = 4))
     (∃ w2 : W_tumbrelref04_Node, ((0 : Int) ≤ 0 ∧ w.fParts[0]? = some w2.t) ∧
      (∃ s2 : ByteArray, (Rn 383 [w2.t, (i64 6)] ((st s2), [.dead, .dead])) ∧
       ((((ByteArray.size (bs [45]) + ByteArray.size s2 : Nat) : Int) ≤ 9223372036854775807) ∧
        (R = ((st ((bs [45]) ++ s2)), [.dead])))))
     (∃ n : Int, (Rn 384 [(st w.fS)] ((i64 n), [.dead])) ∧
      (cond (decide ((n : Int) = 3))
       (∃ w3 : W_tumbrelref04_Node, ((0 : Int) ≤ 0 ∧ w.fParts[0]? = some w3.t) ∧
        (∃ s3 : ByteArray, (Rn 383 [w3.t, (i64 4)] ((st s3), [.dead, .dead])) ∧
         ((((ByteArray.size s3 + ByteArray.size (bs [32]) : Nat) : Int) ≤ 9223372036854775807) ∧
          ((((ByteArray.size (s3 ++ (bs [32])) + ByteArray.size w.fS : Nat) : Int) ≤ 9223372036854775807) ∧
           ((((ByteArray.size ((s3 ++ (bs [32])) ++ w.fS) + ByteArray.size (bs [32]) : Nat) : Int) ≤ 9223372036854775807) ∧
            (∃ w4 : W_tumbrelref04_Node, ((0 : Int) ≤ 1 ∧ w.fParts[1]? = some w4.t) ∧
             (∃ s4 : ByteArray, (Rn 383 [w4.t, (i64 (IntKind.wrap .i64 (n + 1)))] ((st s4), [.dead, .dead])) ∧
              ((((ByteArray.size (((s3 ++ (bs [32])) ++ w.fS) ++ (bs [32])) + ByteArray.size s4 : Nat) : Int) ≤ 9223372036854775807) ∧
               (R = ((st ((((s3 ++ (bs [32])) ++ w.fS) ++ (bs [32])) ++ s4)), [.dead]))))))))))
       (∃ w5 : W_tumbrelref04_Node, ((0 : Int) ≤ 0 ∧ w.fParts[0]? = some w5.t) ∧
        (∃ s5 : ByteArray, (Rn 383 [w5.t, (i64 n)] ((st s5), [.dead, .dead])) ∧
         ((((ByteArray.size s5 + ByteArray.size (bs [32]) : Nat) : Int) ≤ 9223372036854775807) ∧
          ((((ByteArray.size (s5 ++ (bs [32])) + ByteArray.size w.fS : Nat) : Int) ≤ 9223372036854775807) ∧
           ((((ByteArray.size ((s5 ++ (bs [32])) ++ w.fS) + ByteArray.size (bs [32]) : Nat) : Int) ≤ 9223372036854775807) ∧
            (∃ w6 : W_tumbrelref04_Node, ((0 : Int) ≤ 1 ∧ w.fParts[1]? = some w6.t) ∧
             (∃ s6 : ByteArray, (Rn 383 [w6.t, (i64 (IntKind.wrap .i64 (n + 1)))] ((st s6), [.dead, .dead])) ∧
              ((((ByteArray.size (((s5 ++ (bs [32])) ++ w.fS) ++ (bs [32])) + ByteArray.size s6 : Nat) : Int) ≤ 9223372036854775807) ∧
               (R = ((st ((((s5 ++ (bs [32])) ++ w.fS) ++ (bs [32])) ++ s6)), [.dead])))))))))))))))) : Rn 346 [w.t] R := by
  refine fn_rule (ann := A346) (mv := MV) (fz := true) mixed Tryz.func346 (c := B346) (by kernel_rfl) (by decide) ?_
  all_goals revert h
  all_goals refine via ?_
  all_goals kernel_rfl
/- tumbrel/tumbrelref03.inside -/
noncomputable def A348 : Ann := mkAnn [(17448, (fun a => [.ex (Bool) fun b => .done ((tb b), [.dead])])), (17640, (fun a => [.ex (Bool) fun b => .done ((tb b), [.dead])]))] [] [] []
noncomputable abbrev B348 : Code := Tryz.f348.body.getD .skip
set_option maxRecDepth 100000 in
theorem f348 (n : Int) (R : T × List T) (h : ∃ b : Bool, (Rn 274 [(i32 n)] ((tb b), [.dead])) ∧
  (cond b
   (R = ((tb true), [.dead]))
   (∃ b1 : Bool, (Rn 275 [(i32 n)] ((tb b1), [.dead])) ∧
    (cond b1
     (R = ((tb true), [.dead]))
     (R = ((tb (decide ((n : Int) = 95))), [.dead])))))) : Rn 348 [(i32 n)] R := by
  refine fn_rule (ann := A348) (mv := MV) (fz := true) mixed Tryz.func348 (c := B348) (by kernel_rfl) (by decide) ?_
  all_goals revert h
  all_goals refine via ?_
  all_goals kernel_rfl
/- tumbrel/show.plain$1 -/
noncomputable def A193 : Ann := mkAnn [(17448, (fun a => [.ex (Bool) fun b => .done ((tb b), [.dead])])), (17704, (fun a => [.ex (Bool) fun b => .done ((tb b), [.dead])]))] [] [] []
noncomputable abbrev B193 : Code := Tryz.f193.body.getD .skip
set_option maxRecDepth 100000 in
theorem f193 (s : ByteArray) (R : T × List T) (h : ∃ b : Bool, (Rn 194 [(st s)] ((tb b), [.dead])) ∧
  (cond (!b)
   (R = ((tb true), [.dead]))
   (∃ b1 : Bool, (Rn 195 [(st s)] ((tb b1), [.dead])) ∧
    (R = ((tb b1), [.dead]))))) : Rn 193 [(st s)] R := by
  refine fn_rule (ann := A193) (mv := MV) (fz := true) mixed Tryz.func193 (c := B193) (by kernel_rfl) (by decide) ?_
  all_goals revert h
  all_goals refine via ?_
  all_goals kernel_rfl
/- tumbrel/show.formed -/
noncomputable def A110 : Ann := mkAnn [(148840, (fun a => [.ex (Bool) fun b => .done ((tb b), [.dead])])), (165288, (fun a => [.ex (Bool) fun b => .done ((tb b), [.dead])])), (165608, (fun a => [.ex (Bool) fun b => .done ((tb b), [.dead])])), (165992, (fun a => [.ex (Bool) fun b => .done ((tb b), [.dead])])), (181352, (fun a => [.ex (Bool) fun b => .done ((tb b), [.dead, .dead])])), (214184, (fun a => [.ex (Bool) fun b => .ex (Int) fun n => .done ((tb b), [.dead, (.fn (.func 201) [] [(.cbox 3 [(i64 n)])])])]))] [(66600, [.ex Bool fun w => .done (tb w)])] [] [(116, [2, 3, 5, 31, 32, 33])]
noncomputable abbrev B110 : Code := Tryz.f110.body.getD .skip
def L110_0 (kinds : Int) (n : Int) (n1 : Int) (w : W_chart_State) (n2 : Int) (l : List T) (R : T × List T) : Prop := CutL Tryz.prog Tryz.f110 B110 true [1, 1, 0, 1, 0, 0] (mkSt 97 [(2, (.ptr (1000000003, 0) 0)), (3, (.ptr (1000000004, 0) 0)), (5, (i64 kinds)), (31, (.own (1000000032, 0))), (32, (i64 n)), (33, (i64 n1))] [((1000000003, 0), .box 139 [(st w.fName), (i64 w.fAt_Line), (i64 w.fAt_Col), (tb w.fAll), (tb w.fEnd), (st w.fDo), (st w.fUndo), (i64 w.fWhere), (i64 w.fRetries), (.sl 6 w.fOns), (.sl 11 w.fInner)]), ((1000000004, 0), .box 3 [(i64 n2)]), ((1000000032, 0), .arr 4 1 l)]) [.dead, .dead] R
set_option maxRecDepth 100000 in
theorem l110_0 (kinds : Int) (n : Int) (n1 : Int) (w : W_chart_State) (n2 : Int) (l : List T) (R : T × List T) (h : cond (decide ((n1 : Int) < n))
  (((0 : Int) ≤ n1 ∧ n1 < (((List.length l) : Nat) : Int)) ∧
   (∃ b : Bool, (l[(Int.toNat n1)]? = some (tb b)) ∧
    (cond b
     (L110_0 (IntKind.wrap .i64 (kinds + 1)) n (IntKind.wrap .i64 (n1 + 1)) w n2 l R)
     (L110_0 kinds n (IntKind.wrap .i64 (n1 + 1)) w n2 l R))))
  (cond (!w.fAll)
   (cond (!w.fEnd)
    (cond (decide ((6 : Int) < n2))
     (R = ((tb false), [.dead, .dead]))
     (∃ b1 : Bool, (Rn 104 [(.sl 1 [(st w.fName)])] ((tb b1), [.dead])) ∧
      (cond (!b1)
       (R = ((tb false), [.dead, .dead]))
       (cond (decide ((1 : Int) < kinds))
        (R = ((tb false), [.dead, .dead]))
        (cond (decide ((kinds : Int) = 1))
         (∃ b2 : Bool, (Rn 104 [(.sl 1 [(st w.fDo), (st w.fUndo)])] ((tb b2), [.dead])) ∧
          (cond (!b2)
           (R = ((tb false), [.dead, .dead]))
           (∃ b3 : Bool, (Rn 105 [(i64 w.fWhere)] ((tb b3), [.dead])) ∧
            (cond (!b3)
             (R = ((tb false), [.dead, .dead]))
             (∃ b4 : Bool, (Rn 105 [(i64 w.fRetries)] ((tb b4), [.dead])) ∧
              (cond (!b4)
               (R = ((tb false), [.dead, .dead]))
               (∃ b5 : Bool, (Rn 198 [(.sl 6 w.fOns), (.s (.func (.func 199) #[] #[]))] ((tb b5), [.dead, .dead])) ∧
                (cond b5
                 (R = ((tb false), [.dead, .dead]))
                 (∃ b6 : Bool, ∃ n3 : Int, (Rn 108 [(.sl 11 w.fInner), (.fn (.func 201) [] [(.cbox 3 [(i64 n2)])])] ((tb b6), [.dead, (.fn (.func 201) [] [(.cbox 3 [(i64 n3)])])])) ∧
                  (R = ((tb (!b6)), [.dead, .dead])))))))))))
         (∃ b7 : Bool, (Rn 198 [(.sl 6 w.fOns), (.s (.func (.func 199) #[] #[]))] ((tb b7), [.dead, .dead])) ∧
          (cond b7
           (R = ((tb false), [.dead, .dead]))
           (∃ b8 : Bool, ∃ n4 : Int, (Rn 108 [(.sl 11 w.fInner), (.fn (.func 201) [] [(.cbox 3 [(i64 n2)])])] ((tb b8), [.dead, (.fn (.func 201) [] [(.cbox 3 [(i64 n4)])])])) ∧
            (R = ((tb (!b8)), [.dead, .dead]))))))))))
    (cond (decide ((6 : Int) < n2))
     (R = ((tb false), [.dead, .dead]))
     (∃ b9 : Bool, (Rn 104 [(.sl 1 [(st w.fName)])] ((tb b9), [.dead])) ∧
      (cond (!b9)
       (R = ((tb false), [.dead, .dead]))
       (cond (decide ((1 : Int) < kinds))
        (R = ((tb false), [.dead, .dead]))
        (∃ b10 : Bool, (Rn 198 [(.sl 6 w.fOns), (.s (.func (.func 199) #[] #[]))] ((tb b10), [.dead, .dead])) ∧
         (cond b10
          (R = ((tb false), [.dead, .dead]))
          (∃ b11 : Bool, ∃ n5 : Int, (Rn 108 [(.sl 11 w.fInner), (.fn (.func 201) [] [(.cbox 3 [(i64 n2)])])] ((tb b11), [.dead, (.fn (.func 201) [] [(.cbox 3 [(i64 n5)])])])) ∧
           (R = ((tb (!b11)), [.dead, .dead]))))))))))
   (cond (decide ((6 : Int) < n2))
    (R = ((tb false), [.dead, .dead]))
    (∃ b12 : Bool, (Rn 104 [(.sl 1 [(st w.fName)])] ((tb b12), [.dead])) ∧
     (cond (!b12)
      (R = ((tb false), [.dead, .dead]))
      (cond (decide ((1 : Int) < kinds))
       (R = ((tb false), [.dead, .dead]))
       (∃ b13 : Bool, (Rn 198 [(.sl 6 w.fOns), (.s (.func (.func 199) #[] #[]))] ((tb b13), [.dead, .dead])) ∧
        (cond b13
         (R = ((tb false), [.dead, .dead]))
         (∃ b14 : Bool, ∃ n6 : Int, (Rn 108 [(.sl 11 w.fInner), (.fn (.func 201) [] [(.cbox 3 [(i64 n2)])])] ((tb b14), [.dead, (.fn (.func 201) [] [(.cbox 3 [(i64 n6)])])])) ∧
          (R = ((tb (!b14)), [.dead, .dead]))))))))))) : L110_0 kinds n n1 w n2 l R := by
  unfold L110_0
  refine cutL_rule (ann := A110) (mv := MV) mixed (by kernel_rfl) ?_
  all_goals revert h
  all_goals refine via ?_
  all_goals kernel_rfl
set_option maxRecDepth 100000 in
theorem f110 (w : W_chart_State) (depth : Int) (R : T × List T) (h : cond (!(decide (w.fDo = (bs []))))
  (L110_0 0 3 0 w depth ([(tb w.fAll), (tb w.fEnd), (tb true)] : List T) R)
  (cond (!(decide (w.fUndo = (bs []))))
   (L110_0 0 3 0 w depth ([(tb w.fAll), (tb w.fEnd), (tb true)] : List T) R)
   (cond (!(decide ((w.fWhere : Int) = 0)))
    (L110_0 0 3 0 w depth ([(tb w.fAll), (tb w.fEnd), (tb true)] : List T) R)
    (L110_0 0 3 0 w depth ([(tb w.fAll), (tb w.fEnd), (tb (!(decide ((w.fRetries : Int) = 0))))] : List T) R)))) : Rn 110 [w.t, (i64 depth)] R := by
  refine fn_rule (ann := A110) (mv := MV) (fz := true) mixed Tryz.func110 (c := B110) (by kernel_rfl) (by decide) ?_
  all_goals revert h
  all_goals refine via ?_
  all_goals kernel_rfl
/- tumbrel/tumbrelref04.Nodes -/
noncomputable def A351 : Ann := mkAnn [(83304, (fun a => [.ex (Int) fun n => .done ((i64 n), [.dead])]))] [(83176, [.ex W_tumbrelref04_Node fun w => .done w.t])] [] [(116, [1, 3, 7, 8])]
noncomputable abbrev B351 : Code := Tryz.f351.body.getD .skip
def L351_0 (n : Int) (n1 : Int) (n2 : Int) (w : W_tumbrelref04_Node) (R : T × List T) : Prop := CutL Tryz.prog Tryz.f351 B351 true [1, 1, 0, 1, 0, 0] (mkSt 22 [(1, (.ptr (1000000002, 0) 0)), (3, (i64 n)), (7, (i64 n1)), (8, (i64 n2))] [((1000000002, 0), .box 72 [(i64 w.fKind), (i64 w.fN), (st w.fS), (.sl 4 w.fParts)])]) [.dead] R
set_option maxRecDepth 100000 in
theorem l351_0 (n : Int) (n1 : Int) (n2 : Int) (w : W_tumbrelref04_Node) (R : T × List T) (h : cond (decide ((n2 : Int) < n1))
  (∃ w1 : W_tumbrelref04_Node, ((0 : Int) ≤ n2 ∧ w.fParts[(Int.toNat n2)]? = some w1.t) ∧
   (∃ n3 : Int, (Rn 351 [w1.t] ((i64 n3), [.dead])) ∧
    (L351_0 (IntKind.wrap .i64 (n + n3)) n1 (IntKind.wrap .i64 (n2 + 1)) w R)))
  (R = ((i64 (if (41 : Int) < n then 41 else n)), [.dead]))) : L351_0 n n1 n2 w R := by
  unfold L351_0
  refine cutL_rule (ann := A351) (mv := MV) mixed (by kernel_rfl) ?_
  all_goals revert h
  all_goals refine via ?_
  all_goals kernel_rfl
set_option maxRecDepth 100000 in
theorem f351 (w : W_tumbrelref04_Node) (R : T × List T) (h : L351_0 1 (((List.length w.fParts) : Nat) : Int) 0 w R) : Rn 351 [w.t] R := by
  refine fn_rule (ann := A351) (mv := MV) (fz := true) mixed Tryz.func351 (c := B351) (by kernel_rfl) (by decide) ?_
  all_goals revert h
  all_goals refine via ?_
  all_goals kernel_rfl
/- tumbrel/tumbrelref04.deep -/
noncomputable def A352 : Ann := mkAnn [(83304, (fun a => [.ex (Int) fun n => .done ((i64 n), [.dead])]))] [(83176, [.ex W_tumbrelref04_Node fun w => .done w.t])] [] [(116, [1, 3, 7, 8])]
noncomputable abbrev B352 : Code := Tryz.f352.body.getD .skip
def L352_0 (n : Int) (n1 : Int) (n2 : Int) (w : W_tumbrelref04_Node) (R : T × List T) : Prop := CutL Tryz.prog Tryz.f352 B352 true [1, 1, 0, 1, 0, 0] (mkSt 22 [(1, (.ptr (1000000002, 0) 0)), (3, (i64 n)), (7, (i64 n1)), (8, (i64 n2))] [((1000000002, 0), .box 72 [(i64 w.fKind), (i64 w.fN), (st w.fS), (.sl 4 w.fParts)])]) [.dead] R
set_option maxRecDepth 100000 in
theorem l352_0 (n : Int) (n1 : Int) (n2 : Int) (w : W_tumbrelref04_Node) (R : T × List T) (h : cond (decide ((n2 : Int) < n1))
  (∃ w1 : W_tumbrelref04_Node, ((0 : Int) ≤ n2 ∧ w.fParts[(Int.toNat n2)]? = some w1.t) ∧
   (∃ n3 : Int, (Rn 352 [w1.t] ((i64 n3), [.dead])) ∧
    (L352_0 (if (n : Int) < n3 then n3 else n) n1 (IntKind.wrap .i64 (n2 + 1)) w R)))
  (R = ((i64 (IntKind.wrap .i64 (n + 1))), [.dead]))) : L352_0 n n1 n2 w R := by
  unfold L352_0
  refine cutL_rule (ann := A352) (mv := MV) mixed (by kernel_rfl) ?_
  all_goals revert h
  all_goals refine via ?_
  all_goals kernel_rfl
set_option maxRecDepth 100000 in
theorem f352 (w : W_tumbrelref04_Node) (R : T × List T) (h : L352_0 0 (((List.length w.fParts) : Nat) : Int) 0 w R) : Rn 352 [w.t] R := by
  refine fn_rule (ann := A352) (mv := MV) (fz := true) mixed Tryz.func352 (c := B352) (by kernel_rfl) (by decide) ?_
  all_goals revert h
  all_goals refine via ?_
  all_goals kernel_rfl
/- tumbrel/tumbrelref04.sound -/
noncomputable def A353 : Ann := mkAnn [(83048, (fun a => [.ex (Bool) fun b => .done ((tb b), [.dead])])), (148840, (fun a => [.ex (Bool) fun b => .done ((tb b), [.dead])])), (230696, (fun a => [.ex (Bool) fun b => .done ((tb b), [.dead])]))] [(230568, [.ex W_tumbrelref04_Node fun w => .done w.t])] [] [(55252, [1, 36, 37])]
noncomputable abbrev B353 : Code := Tryz.f353.body.getD .skip
def L353_0 (n : Int) (n1 : Int) (w : W_tumbrelref04_Node) (R : T × List T) : Prop := CutL Tryz.prog Tryz.f353 B353 true [1, 0, 1, 0, 1, 1, 1, 1, 1, 0, 1, 0, 1, 0, 0] (mkSt 48 [(1, (.ptr (1000000002, 0) 0)), (36, (i64 n)), (37, (i64 n1))] [((1000000002, 0), .box 72 [(i64 w.fKind), (i64 w.fN), (st w.fS), (.sl 4 w.fParts)])]) [.dead] R
set_option maxRecDepth 100000 in
theorem l353_0 (n : Int) (n1 : Int) (w : W_tumbrelref04_Node) (R : T × List T) (h : cond (decide ((n1 : Int) < n))
  (∃ w1 : W_tumbrelref04_Node, ((0 : Int) ≤ n1 ∧ w.fParts[(Int.toNat n1)]? = some w1.t) ∧
   (∃ b : Bool, (Rn 353 [w1.t] ((tb b), [.dead])) ∧
    (cond (!b)
     (R = ((tb false), [.dead]))
     (L353_0 n (IntKind.wrap .i64 (n1 + 1)) w R))))
  (R = ((tb true), [.dead]))) : L353_0 n n1 w R := by
  unfold L353_0
  refine cutL_rule (ann := A353) (mv := MV) mixed (by kernel_rfl) ?_
  all_goals revert h
  all_goals refine via ?_
  all_goals kernel_rfl
set_option maxRecDepth 100000 in
theorem f353 (w : W_tumbrelref04_Node) (R : T × List T) (h : cond (decide ((w.fKind : Int) = 1))
  (cond (decide ((0 : Int) ≤ w.fN))
   (R = ((tb (decide ((w.fN : Int) ≤ 1000000000))), [.dead]))
   (R = ((tb false), [.dead])))
  (cond (decide ((w.fKind : Int) = 2))
   (∃ b : Bool, (Rn 202 [(st w.fS)] ((tb b), [.dead])) ∧
    (R = ((tb b), [.dead])))
   (cond (decide ((w.fKind : Int) = 3))
    (cond (decide ((w.fKind : Int) = 5))
     (∃ b1 : Bool, (Rn 385 [(st w.fS)] ((tb b1), [.dead])) ∧
      (cond (!b1)
       (R = ((tb false), [.dead]))
       (L353_0 (((List.length w.fParts) : Nat) : Int) 0 w R)))
     (L353_0 (((List.length w.fParts) : Nat) : Int) 0 w R))
    (cond (decide ((w.fKind : Int) = 4))
     (cond (decide ((w.fKind : Int) = 5))
      (∃ b2 : Bool, (Rn 385 [(st w.fS)] ((tb b2), [.dead])) ∧
       (cond (!b2)
        (R = ((tb false), [.dead]))
        (L353_0 (((List.length w.fParts) : Nat) : Int) 0 w R)))
      (L353_0 (((List.length w.fParts) : Nat) : Int) 0 w R))
     (cond (decide ((w.fKind : Int) = 5))
      (cond (decide ((w.fKind : Int) = 5))
       (∃ b3 : Bool, (Rn 385 [(st w.fS)] ((tb b3), [.dead])) ∧
        (cond (!b3)
         (R = ((tb false), [.dead]))
         (L353_0 (((List.length w.fParts) : Nat) : Int) 0 w R)))
       (L353_0 (((List.length w.fParts) : Nat) : Int) 0 w R))
      (R = ((tb false), [.dead]))))))) : Rn 353 [w.t] R := by
  refine fn_rule (ann := A353) (mv := MV) (fz := true) mixed Tryz.func353 (c := B353) (by kernel_rfl) (by decide) ?_
  all_goals revert h
  all_goals refine via ?_
  all_goals kernel_rfl
/- tumbrel/tumbrelref04.around -/
noncomputable def A383 : Ann := mkAnn [(17448, (fun a => [.ex (Int) fun n => .done ((i64 n), [.dead])])), (33832, (fun a => [.ex (ByteArray) fun s => .done ((st s), [.dead])])), (50216, (fun a => [.ex (ByteArray) fun s => .done ((st s), [.dead])]))] [] [] []
noncomputable abbrev B383 : Code := Tryz.f383.body.getD .skip
set_option maxRecDepth 100000 in
theorem f383 (w : W_tumbrelref04_Node) (least : Int) (R : T × List T) (h : ∃ n : Int, (Rn 404 [w.t] ((i64 n), [.dead])) ∧
  (cond (decide ((n : Int) < least))
   (∃ s : ByteArray, (Rn 346 [w.t] ((st s), [.dead])) ∧
    ((((ByteArray.size (bs [40]) + ByteArray.size s : Nat) : Int) ≤ 9223372036854775807) ∧
     ((((ByteArray.size ((bs [40]) ++ s) + ByteArray.size (bs [41]) : Nat) : Int) ≤ 9223372036854775807) ∧
      (R = ((st (((bs [40]) ++ s) ++ (bs [41]))), [.dead, .dead])))))
   (∃ s1 : ByteArray, (Rn 346 [w.t] ((st s1), [.dead])) ∧
    (R = ((st s1), [.dead, .dead]))))) : Rn 383 [w.t, (i64 least)] R := by
  refine fn_rule (ann := A383) (mv := MV) (fz := true) mixed Tryz.func383 (c := B383) (by kernel_rfl) (by decide) ?_
  all_goals revert h
  all_goals refine via ?_
  all_goals kernel_rfl
/- tumbrel/tumbrelref04.level -/
noncomputable def A384 : Ann := mkAnn [] [] [] []
noncomputable abbrev B384 : Code := Tryz.f384.body.getD .skip
set_option maxRecDepth 100000 in
theorem f384 (s : ByteArray) (R : T × List T) (h : cond (decide (s = (bs [124, 124])))
  (R = ((i64 1), [.dead]))
  (cond (decide (s = (bs [38, 38])))
   (R = ((i64 2), [.dead]))
   (cond (decide (s = (bs [60])))
    (R = ((i64 3), [.dead]))
    (cond (decide (s = (bs [60, 61])))
     (R = ((i64 3), [.dead]))
     (cond (decide (s = (bs [61, 61])))
      (R = ((i64 3), [.dead]))
      (cond (decide (s = (bs [33, 61])))
       (R = ((i64 3), [.dead]))
       (cond (decide (s = (bs [43])))
        (R = ((i64 4), [.dead]))
        (cond (decide (s = (bs [45])))
         (R = ((i64 4), [.dead]))
         (cond (decide (s = (bs [42])))
          (R = ((i64 5), [.dead]))
          (R = ((i64 0), [.dead]))))))))))) : Rn 384 [(st s)] R := by
  refine fn_rule (ann := A384) (mv := MV) (fz := true) mixed Tryz.func384 (c := B384) (by kernel_rfl) (by decide) ?_
  all_goals revert h
  all_goals refine via ?_
  all_goals kernel_rfl
/- tumbrel/guard.Reserved -/
noncomputable def A195 : Ann := mkAnn [(17512, (fun a => [.ex (Bool) fun b => .done ((tb b), [.dead, .dead])]))] [] [] []
noncomputable abbrev B195 : Code := Tryz.f195.body.getD .skip
set_option maxRecDepth 100000 in
theorem f195 (s : ByteArray) (R : T × List T) (h : ∃ b : Bool, (Rn 280 [(.sl 1 [(st (bs [99, 104, 97, 114, 116])), (st (bs [118, 97, 114])), (st (bs [115, 116, 97, 116, 101])), (st (bs [97, 108, 108])), (st (bs [101, 110, 100])), (st (bs [100, 111])), (st (bs [117, 110, 100, 111])), (st (bs [97, 116])), (st (bs [114, 101, 116, 114, 105, 101, 115])), (st (bs [111, 110])), (st (bs [105, 102])), (st (bs [103, 111])), (st (bs [115, 101, 116]))]), (st s)] ((tb b), [.dead, .dead])) ∧
  (R = ((tb b), [.dead]))) : Rn 195 [(st s)] R := by
  refine fn_rule (ann := A195) (mv := MV) (fz := true) mixed Tryz.func195 (c := B195) (by kernel_rfl) (by decide) ?_
  all_goals revert h
  all_goals refine via ?_
  all_goals kernel_rfl
/- slices.ContainsFunc[[]tumbrel/chart.On,tumbrel/chart.On] -/
noncomputable def A198 : Ann := mkAnn [(17512, (fun a => [.ex (Int) fun n => .done ((i64 n), [.dead, .dead])]))] [] [] []
noncomputable abbrev B198 : Code := Tryz.f198.body.getD .skip
set_option maxRecDepth 100000 in
theorem f198 (s : List T) (R : T × List T) (h : ∃ n : Int, (Rn 281 [(.sl 6 s), (.s (.func (.func 199) #[] #[]))] ((i64 n), [.dead, .dead])) ∧
  (R = ((tb (decide ((0 : Int) ≤ n))), [.dead, .dead]))) : Rn 198 [(.sl 6 s), (.s (.func (.func 199) #[] #[]))] R := by
  refine fn_rule (ann := A198) (mv := MV) (fz := true) mixed Tryz.func198 (c := B198) (by kernel_rfl) (by decide) ?_
  all_goals revert h
  all_goals refine via ?_
  all_goals kernel_rfl
/- slices.ContainsFunc[[]tumbrel/chart.State,tumbrel/chart.State] -/
noncomputable def A108b : Ann := mkAnn [(17512, (fun a => [.ex (Int) fun n => .ex (Int) fun n1 => .done ((i64 n), [.dead, (.fn (.func 201) [] [(.cbox 3 [(i64 n1)])])])]))] [] [] []
noncomputable abbrev B108b : Code := Tryz.f108.body.getD .skip
set_option maxRecDepth 100000 in
theorem f108b (s : List T) (n : Int) (R : T × List T) (h : ∃ n1 : Int, ∃ n2 : Int, (Rn 197 [(.sl 11 s), (.fn (.func 201) [] [(.cbox 3 [(i64 n)])])] ((i64 n1), [.dead, (.fn (.func 201) [] [(.cbox 3 [(i64 n2)])])])) ∧
  (R = ((tb (decide ((0 : Int) ≤ n1))), [.dead, (.fn (.func 201) [] [(.cbox 3 [(i64 n2)])])]))) : Rn 108 [(.sl 11 s), (.fn (.func 201) [] [(.cbox 3 [(i64 n)])])] R := by
  refine fn_rule (ann := A108b) (mv := MV) (fz := true) mixed Tryz.func108 (c := B108b) (by kernel_rfl) (by decide) ?_
  all_goals revert h
  all_goals refine via ?_
  all_goals kernel_rfl
/- tumbrel/tumbrelref04.operator -/
noncomputable def A385 : Ann := mkAnn [] [] [] []
noncomputable abbrev B385 : Code := Tryz.f385.body.getD .skip
set_option maxRecDepth 100000 in
theorem f385 (s : ByteArray) (R : T × List T) (h : cond (decide (s = (bs [43])))
  (R = ((tb true), [.dead]))
  (cond (decide (s = (bs [45])))
   (R = ((tb true), [.dead]))
   (cond (decide (s = (bs [42])))
    (R = ((tb true), [.dead]))
    (cond (decide (s = (bs [60])))
     (R = ((tb true), [.dead]))
     (cond (decide (s = (bs [60, 61])))
      (R = ((tb true), [.dead]))
      (cond (decide (s = (bs [61, 61])))
       (R = ((tb true), [.dead]))
       (cond (decide (s = (bs [33, 61])))
        (R = ((tb true), [.dead]))
        (cond (decide (s = (bs [38, 38])))
         (R = ((tb true), [.dead]))
         (cond (decide (s = (bs [124, 124])))
          (R = ((tb true), [.dead]))
          (R = ((tb false), [.dead]))))))))))) : Rn 385 [(st s)] R := by
  refine fn_rule (ann := A385) (mv := MV) (fz := true) mixed Tryz.func385 (c := B385) (by kernel_rfl) (by decide) ?_
  all_goals revert h
  all_goals refine via ?_
  all_goals kernel_rfl
/- tumbrel/tumbrelref04.strength -/
noncomputable def A404 : Ann := mkAnn [(33896, (fun a => [.ex (Int) fun n => .done ((i64 n), [.dead])]))] [] [] []
noncomputable abbrev B404 : Code := Tryz.f404.body.getD .skip
set_option maxRecDepth 100000 in
theorem f404 (w : W_tumbrelref04_Node) (R : T × List T) (h : cond (decide ((w.fKind : Int) = 5))
  (∃ n : Int, (Rn 384 [(st w.fS)] ((i64 n), [.dead])) ∧
   (R = ((i64 n), [.dead])))
  (R = ((i64 6), [.dead]))) : Rn 404 [w.t] R := by
  refine fn_rule (ann := A404) (mv := MV) (fz := true) mixed Tryz.func404 (c := B404) (by kernel_rfl) (by decide) ?_
  all_goals revert h
  all_goals refine via ?_
  all_goals kernel_rfl
/- slices.Contains[[]string,string] -/
noncomputable def A280 : Ann := mkAnn [(17512, (fun a => [.ex (Int) fun n => .done ((i64 n), [.dead, .dead])]))] [] [] []
noncomputable abbrev B280 : Code := Tryz.f280.body.getD .skip
set_option maxRecDepth 100000 in
theorem f280 (s : List T) (s1 : ByteArray) (R : T × List T) (h : ∃ n : Int, (Rn 349 [(.sl 1 s), (st s1)] ((i64 n), [.dead, .dead])) ∧
  (R = ((tb (decide ((0 : Int) ≤ n))), [.dead, .dead]))) : Rn 280 [(.sl 1 s), (st s1)] R := by
  refine fn_rule (ann := A280) (mv := MV) (fz := true) mixed Tryz.func280 (c := B280) (by kernel_rfl) (by decide) ?_
  all_goals revert h
  all_goals refine via ?_
  all_goals kernel_rfl
/- slices.IndexFunc[[]tumbrel/chart.On,tumbrel/chart.On] -/
noncomputable def A281 : Ann := mkAnn [(66856, (fun a => [.ex (Bool) fun b => .done ((tb b), [.dead])]))] [(66728, [.ex W_chart_On fun w => .done w.t])] [] [(52, [0, 1, 7, 8])]
noncomputable abbrev B281 : Code := Tryz.f281.body.getD .skip
def L281_0 (s : List T) (n : Int) (n1 : Int) (R : T × List T) : Prop := CutL Tryz.prog Tryz.f281 B281 true [1, 0, 1, 0, 0] (mkSt 19 [(0, (.sl 6 s)), (1, (.s (.func (.func 199) #[] #[]))), (7, (i64 n)), (8, (i64 n1))] []) [.dead, .dead] R
set_option maxRecDepth 100000 in
theorem l281_0 (s : List T) (n : Int) (n1 : Int) (R : T × List T) (h : cond (decide ((n1 : Int) < n))
  (∃ w : W_chart_On, ((0 : Int) ≤ n1 ∧ s[(Int.toNat n1)]? = some w.t) ∧
   (∃ b : Bool, (Rn 199 [w.t] ((tb b), [.dead])) ∧
    (cond b
     (R = ((i64 n1), [.dead, .dead]))
     (L281_0 s n (IntKind.wrap .i64 (n1 + 1)) R))))
  (R = ((i64 (-1)), [.dead, .dead]))) : L281_0 s n n1 R := by
  unfold L281_0
  refine cutL_rule (ann := A281) (mv := MV) mixed (by kernel_rfl) ?_
  all_goals revert h
  all_goals refine via ?_
  all_goals kernel_rfl
set_option maxRecDepth 100000 in
theorem f281 (s : List T) (R : T × List T) (h : L281_0 s (((List.length s) : Nat) : Int) 0 R) : Rn 281 [(.sl 6 s), (.s (.func (.func 199) #[] #[]))] R := by
  refine fn_rule (ann := A281) (mv := MV) (fz := true) mixed Tryz.func281 (c := B281) (by kernel_rfl) (by decide) ?_
  all_goals revert h
  all_goals refine via ?_
  all_goals kernel_rfl
/- slices.IndexFunc[[]tumbrel/chart.State,tumbrel/chart.State] -/
noncomputable def A197b : Ann := mkAnn [(66856, (fun a => [.ex (Bool) fun b => .ex (Int) fun n => .done ((tb b), [.dead, (.cbox 3 [(i64 n)])])]))] [(66728, [.ex W_chart_State fun w => .done w.t])] [] [(52, [0, 1, 7, 8])]
noncomputable abbrev B197b : Code := Tryz.f197.body.getD .skip
def L197b_0 (s : List T) (n : Int) (n1 : Int) (n2 : Int) (R : T × List T) : Prop := CutL Tryz.prog Tryz.f197 B197b true [1, 0, 1, 0, 0] (mkSt 19 [(0, (.sl 11 s)), (1, (.fn (.func 201) [] [(.ptr (0, 0) 0)])), (7, (i64 n)), (8, (i64 n1))] [((0, 0), .box 3 [(i64 n2)])]) [.dead, (.fn (.func 201) [] [(.ptr (0, 0) 0)])] R
set_option maxRecDepth 100000 in
theorem l197b_0 (s : List T) (n : Int) (n1 : Int) (n2 : Int) (R : T × List T) (h : cond (decide ((n1 : Int) < n))
  (∃ w : W_chart_State, ((0 : Int) ≤ n1 ∧ s[(Int.toNat n1)]? = some w.t) ∧
   (∃ b : Bool, ∃ n3 : Int, (Rn 201 [w.t, (.cbox 3 [(i64 n2)])] ((tb b), [.dead, (.cbox 3 [(i64 n3)])])) ∧
    (cond b
     (R = ((i64 n1), [.dead, (.fn (.func 201) [] [(.cbox 3 [(i64 n3)])])]))
     (L197b_0 s n (IntKind.wrap .i64 (n1 + 1)) n3 R))))
  (R = ((i64 (-1)), [.dead, (.fn (.func 201) [] [(.cbox 3 [(i64 n2)])])]))) : L197b_0 s n n1 n2 R := by
  unfold L197b_0
  refine cutL_rule (ann := A197b) (mv := MV) mixed (by kernel_rfl) ?_
  all_goals revert h
  all_goals refine via ?_
  all_goals kernel_rfl
set_option maxRecDepth 100000 in
theorem f197b (s : List T) (n : Int) (R : T × List T) (h : L197b_0 s (((List.length s) : Nat) : Int) 0 n R) : Rn 197 [(.sl 11 s), (.fn (.func 201) [] [(.cbox 3 [(i64 n)])])] R := by
  refine fn_rule (ann := A197b) (mv := MV) (fz := true) mixed Tryz.func197 (c := B197b) (by kernel_rfl) (by decide) ?_
  all_goals revert h
  all_goals refine via ?_
  all_goals kernel_rfl
end Go.Proofs.YtfknpnkdedckhaaGreatDoorT
