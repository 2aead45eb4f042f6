/- What is to be shown of functions of the program, by their texts (printed by a program of this work; the kernel holds each against the text). -/
import Derived.Test.YthcaodlfnlhfbaaP0
namespace Go.Proofs.YthcaodlfnlhfbaaT
open Go Go.Proofs
set_option linter.unusedVariables false
/- tumbrel/tumbrellaw20.SagaSame -/
noncomputable def A3 : Ann := mkAnn [(17384, [.ex (Bool) fun b => .done ((tb b), [])]), (17704, [.ex (Bool) fun b => .done ((tb b), [.dead, .dead])]), (18088, [.ex (Bool) fun b => .done ((tb b), [.dead, .dead])]), (33768, [.ex (Bool) fun b => .done ((tb b), [])]), (50216, [.ex (W_saga_Instance) fun w => .done (w.t, [.dead])]), (50344, [.ex (W_saga_Instance) fun w => .done (w.t, [.dead])]), (50408, [.ex (Bool) fun b => .done ((tb b), [.dead, .dead])]), (50600, [.ex (Bool) fun b => .done ((tb b), [.dead, .dead])]), (50856, [.ex (W_saga_Instance) fun w => .done (w.t, [.dead])]), (50984, [.ex (W_saga_Instance) fun w => .done (w.t, [.dead])]), (51048, [.ex (Bool) fun b => .done ((tb b), [.dead, .dead])])] [] [] []
noncomputable abbrev B3 : Code := Try.f3.body.getD .skip
set_option maxRecDepth 100000 in
theorem f3 (w : W_tumbrelref06_Chart) (w1 : W_tumbrelref20_Instance) (w2 : W_tumbrelref20_Instance) (R : T × List T) (h : ∃ b : Bool, (Rn 5 [] ((tb b), [])) ∧
  (cond (!b)
   (∃ b1 : Bool, (Rn 5 [] ((tb b1), [])) ∧
    (R = ((tb b1), [.dead, .dead, .dead])))
   (∃ b2 : Bool, (Rn 6 [w.t, w1.t] ((tb b2), [.dead, .dead])) ∧
    (cond (!b2)
     (∃ b3 : Bool, (Rn 5 [] ((tb b3), [])) ∧
      (R = ((tb b3), [.dead, .dead, .dead])))
     (∃ b4 : Bool, (Rn 6 [w.t, w2.t] ((tb b4), [.dead, .dead])) ∧
      (cond (!b4)
       (∃ b5 : Bool, (Rn 5 [] ((tb b5), [])) ∧
        (R = ((tb b5), [.dead, .dead, .dead])))
       (∃ w3 : W_saga_Instance, (Rn 8 [w1.t] (w3.t, [.dead])) ∧
        (∃ w4 : W_saga_Instance, (Rn 8 [w2.t] (w4.t, [.dead])) ∧
         (∃ b6 : Bool, (Rn 7 [w3.t, w4.t] ((tb b6), [.dead, .dead])) ∧
          (∃ b7 : Bool, (Rn 9 [w1.t, w2.t] ((tb b7), [.dead, .dead])) ∧
           (cond (b6 == b7)
            (∃ w5 : W_saga_Instance, (Rn 8 [w1.t] (w5.t, [.dead])) ∧
             (∃ w6 : W_saga_Instance, (Rn 8 [w1.t] (w6.t, [.dead])) ∧
              (∃ b8 : Bool, (Rn 7 [w5.t, w6.t] ((tb b8), [.dead, .dead])) ∧
               (R = ((tb b8), [.dead, .dead, .dead])))))
            (R = ((tb false), [.dead, .dead, .dead]))))))))))))) : Rn 3 [w.t, w1.t, w2.t] R := by
  refine fn_rule (ann := A3) (mv := MV) (fz := true) mixed Try.func3 (c := B3) (by kernel_rfl) (by decide) ?_
  all_goals revert h
  all_goals refine via ?_
  all_goals kernel_rfl
/- tumbrel/tumbrellaw20.awake -/
noncomputable def A5 : Ann := mkAnn [(17512, [.ex (Bool) fun b => .done ((tb b), [.dead, .dead])]), (17704, [.ex (Bool) fun b => .done ((tb b), [.dead])])] [] [] []
noncomputable abbrev B5 : Code := Try.f5.body.getD .skip
set_option maxRecDepth 100000 in
theorem f5 (R : T × List T) (h : ∃ b : Bool, (Rn 7 [(.agg [(i64 0), (.sl 1 []), (.sl 1 []), (.sl 4 []), (i64 1), (.sl 3 []), (i64 0), (tb false), (tb false)]), (.agg [(i64 0), (.sl 1 []), (.sl 1 []), (.sl 4 []), (i64 1), (.sl 3 []), (i64 0), (tb false), (tb false)])] ((tb b), [.dead, .dead])) ∧
  (cond b
   (∃ b1 : Bool, (Rn 16 [(.agg [(i64 0), (.sl 1 []), (.sl 1 []), (.sl 4 []), (i64 0), (.sl 3 []), (i64 0), (tb false), (tb false)])] ((tb b1), [.dead])) ∧
    (R = ((tb b1), [])))
   (R = ((tb false), [])))) : Rn 5 [] R := by
  refine fn_rule (ann := A5) (mv := MV) (fz := true) mixed Try.func5 (c := B5) (by kernel_rfl) (by decide) ?_
  all_goals revert h
  all_goals refine via ?_
  all_goals kernel_rfl
/- tumbrel/tumbrellaw20.Few -/
noncomputable def A6 : Ann := mkAnn [(17448, [.ex (Bool) fun b => .done ((tb b), [.dead])]), (17704, [.ex (Bool) fun b => .done ((tb b), [.dead])])] [(99496, [.ex W_tumbrelref20_Entry fun w => .done w.t])] [] [(116, [3, 16, 17])]
noncomputable abbrev B6 : Code := Try.f6.body.getD .skip
def L6_0 (n : Int) (n1 : Int) (w : W_tumbrelref20_Instance) (R : T × List T) : Prop := CutL Try.prog Try.f6 B6 true [1, 1, 0, 1, 0, 0] (mkSt 29 [(3, (.ptr (1000000004, 0) 0)), (16, (i64 n)), (17, (i64 n1))] [((1000000004, 0), .box 33 [(i64 w.fPhase), (.sl 1 w.fActive), (.sl 1 w.fVars), (.sl 4 w.fWorks), (i64 w.fLast), (.sl 3 w.fStack), (i64 w.fUndoAttempt), (tb w.fUndoSent), (tb w.fHeld)])]) [.dead, .dead] R
set_option maxRecDepth 100000 in
theorem l6_0 (n : Int) (n1 : Int) (w : W_tumbrelref20_Instance) (R : T × List T) (h : cond (decide ((n1 : Int) < n))
  (∃ w1 : W_tumbrelref20_Entry, (0 ≤ n1 ∧ w.fStack[(Int.toNat n1)]? = some w1.t) ∧
   (cond (decide ((1000 : Int) < (((ByteArray.size w1.fUndo) : Nat) : Int)))
    (R = ((tb false), [.dead, .dead]))
    (L6_0 n (IntKind.wrap .i64 (n1 + 1)) w R)))
  (R = ((tb true), [.dead, .dead]))) : L6_0 n n1 w R := by
  unfold L6_0
  refine cutL_rule (ann := A6) (mv := MV) mixed (by kernel_rfl) ?_
  all_goals revert h
  all_goals refine via ?_
  all_goals kernel_rfl
set_option maxRecDepth 100000 in
theorem f6 (w : W_tumbrelref06_Chart) (w1 : W_tumbrelref20_Instance) (R : T × List T) (h : ∃ b : Bool, (Rn 17 [w.t] ((tb b), [.dead])) ∧
  (cond (!b)
   (R = ((tb false), [.dead, .dead]))
   (∃ b1 : Bool, (Rn 18 [w1.t] ((tb b1), [.dead])) ∧
    (cond (!b1)
     (R = ((tb false), [.dead, .dead]))
     (L6_0 (((List.length w1.fStack) : Nat) : Int) 0 w1 R))))) : Rn 6 [w.t, w1.t] R := by
  refine fn_rule (ann := A6) (mv := MV) (fz := true) mixed Try.func6 (c := B6) (by kernel_rfl) (by decide) ?_
  all_goals revert h
  all_goals refine via ?_
  all_goals kernel_rfl
/- tumbrel/tumbrellaw20.Theirs -/
noncomputable def A8 : Ann := mkAnn [] [(83240, [.ex W_tumbrelref20_Work fun w => .done w.t]), (165160, [.ex W_tumbrelref20_Entry fun w => .done w.t])] [] [(116, [1, 2, 3, 23, 24]), (244, [1, 2, 3, 40, 41])]
noncomputable abbrev B8 : Code := Try.f8.body.getD .skip
def L8_0 (n : Int) (n1 : Int) (w : W_tumbrelref20_Instance) (n2 : Int) (n3 : Int) (n4 : Int) (b : Bool) (b1 : Bool) (n5 : Int) (l : List T) (l1 : List T) (l2 : List T) (n6 : Int) (n7 : Int) (b2 : Bool) (b3 : Bool) (R : T × List T) : Prop := CutL Try.prog Try.f8 B8 true [1, 1, 0, 1, 0, 0] (mkSt 56 [(1, (.ptr (1000000002, 0) 0)), (2, (.ptr (1000000003, 0) 0)), (3, (.ptr (1000000004, 0) 0)), (23, (i64 n)), (24, (i64 n1))] (([((1000000002, 0), .box 33 [(i64 w.fPhase), (.sl 1 w.fActive), (.sl 1 w.fVars), (.sl 4 w.fWorks), (i64 w.fLast), (.sl 3 w.fStack), (i64 w.fUndoAttempt), (tb w.fUndoSent), (tb w.fHeld)]), ((1000000003, 0), .box 40 [(i64 n2), nilS, nilS, nilS, (i64 n3), nilS, (i64 n4), (tb b), (tb b1)]), ((1000000004, 0), .box 40 [(i64 n5), (.sl 1 l), (.sl 1 l1), (mnT (1000000516, 0) l2), (i64 n6), nilS, (i64 n7), (tb b2), (tb b3)])] ++ mnH (1000000516, 0) 71 4 l2))) [.dead] R
def L8_1 (n : Int) (n1 : Int) (w : W_tumbrelref20_Instance) (n2 : Int) (n3 : Int) (n4 : Int) (b : Bool) (b1 : Bool) (n5 : Int) (l : List T) (l1 : List T) (l2 : List T) (n6 : Int) (l3 : List T) (n7 : Int) (b2 : Bool) (b3 : Bool) (R : T × List T) : Prop := CutL Try.prog Try.f8 B8 true [1, 1, 1, 0, 1, 0, 0] (mkSt 56 [(1, (.ptr (1000000002, 0) 0)), (2, (.ptr (1000000003, 0) 0)), (3, (.ptr (1000000004, 0) 0)), (40, (i64 n)), (41, (i64 n1))] (([((1000000002, 0), .box 33 [(i64 w.fPhase), (.sl 1 w.fActive), (.sl 1 w.fVars), (.sl 4 w.fWorks), (i64 w.fLast), (.sl 3 w.fStack), (i64 w.fUndoAttempt), (tb w.fUndoSent), (tb w.fHeld)]), ((1000000003, 0), .box 40 [(i64 n2), nilS, nilS, nilS, (i64 n3), nilS, (i64 n4), (tb b), (tb b1)]), ((1000000004, 0), .box 40 [(i64 n5), (.sl 1 l), (.sl 1 l1), (mnT (1000000516, 0) l2), (i64 n6), (mnT (1000000518, 0) l3), (i64 n7), (tb b2), (tb b3)])] ++ mnH (1000000516, 0) 71 4 l2 ++ mnH (1000000518, 0) 73 3 l3))) [.dead] R
set_option maxRecDepth 100000 in
theorem l8_0 (n : Int) (n1 : Int) (w : W_tumbrelref20_Instance) (n2 : Int) (n3 : Int) (n4 : Int) (b : Bool) (b1 : Bool) (n5 : Int) (l : List T) (l1 : List T) (l2 : List T) (n6 : Int) (n7 : Int) (b2 : Bool) (b3 : Bool) (R : T × List T) (h : cond (decide ((n1 : Int) < n))
  (∃ w1 : W_tumbrelref20_Work, (0 ≤ n1 ∧ w.fWorks[(Int.toNat n1)]? = some w1.t) ∧
   (chk (Nat.ble (((List.length l2) + 1) * 32) 140737488355328)
    (L8_0 n (IntKind.wrap .i64 (n1 + 1)) w n2 n3 n4 b b1 n5 l l1 (l2 ++ [w1.t]) n6 n7 b2 b3 R)))
  (L8_1 (((List.length w.fStack) : Nat) : Int) 0 w n2 n3 n4 b b1 n5 l l1 l2 n6 ([] : List T) n7 b2 b3 R)) : L8_0 n n1 w n2 n3 n4 b b1 n5 l l1 l2 n6 n7 b2 b3 R := by
  unfold L8_0
  refine cutL_rule (ann := A8) (mv := MV) mixed (by kernel_rfl) ?_
  all_goals rcases l2 with _ | ⟨_, _⟩
  all_goals revert h
  all_goals refine via ?_
  all_goals kernel_rfl
set_option maxRecDepth 100000 in
theorem l8_1 (n : Int) (n1 : Int) (w : W_tumbrelref20_Instance) (n2 : Int) (n3 : Int) (n4 : Int) (b : Bool) (b1 : Bool) (n5 : Int) (l : List T) (l1 : List T) (l2 : List T) (n6 : Int) (l3 : List T) (n7 : Int) (b2 : Bool) (b3 : Bool) (R : T × List T) (h : cond (decide ((n1 : Int) < n))
  (∃ w1 : W_tumbrelref20_Entry, (0 ≤ n1 ∧ w.fStack[(Int.toNat n1)]? = some w1.t) ∧
   (chk (Nat.ble (((List.length l3) + 1) * 32) 140737488355328)
    (L8_1 n (IntKind.wrap .i64 (n1 + 1)) w n2 n3 n4 b b1 n5 l l1 l2 n6 (l3 ++ [w1.t]) n7 b2 b3 R)))
  (R = ((.agg [(i64 n5), (.sl 1 l), (.sl 1 l1), (.sl 4 l2), (i64 n6), (.sl 3 l3), (i64 n7), (tb b2), (tb b3)]), [.dead]))) : L8_1 n n1 w n2 n3 n4 b b1 n5 l l1 l2 n6 l3 n7 b2 b3 R := by
  unfold L8_1
  refine cutL_rule (ann := A8) (mv := MV) mixed (by kernel_rfl) ?_
  all_goals rcases l2 with _ | ⟨_, _⟩
  all_goals rcases l3 with _ | ⟨_, _⟩
  all_goals revert h
  all_goals refine via ?_
  all_goals kernel_rfl
set_option maxRecDepth 100000 in
theorem f8 (w : W_tumbrelref20_Instance) (R : T × List T) (h : L8_0 (((List.length w.fWorks) : Nat) : Int) 0 w 0 0 0 false false w.fPhase w.fActive w.fVars ([] : List T) w.fLast w.fUndoAttempt w.fUndoSent w.fHeld R) : Rn 8 [w.t] R := by
  refine fn_rule (ann := A8) (mv := MV) (fz := true) mixed Try.func8 (c := B8) (by kernel_rfl) (by decide) ?_
  all_goals revert h
  all_goals refine via ?_
  all_goals kernel_rfl
/- tumbrel/saga.Same -/
noncomputable def A7 : Ann := mkAnn [(19816, [.ex (Bool) fun b => .done ((tb b), [.dead, .dead])]), (20264, [.ex (Bool) fun b => .done ((tb b), [.dead, .dead])]), (20712, [.ex (Bool) fun b => .done ((tb b), [.dead, .dead])]), (21160, [.ex (Bool) fun b => .done ((tb b), [.dead, .dead])])] [] [] []
noncomputable abbrev B7 : Code := Try.f7.body.getD .skip
set_option maxRecDepth 100000 in
theorem f7 (w : W_saga_Instance) (w1 : W_saga_Instance) (R : T × List T) (h : cond (decide ((w.fPhase : Int) = w1.fPhase))
  (cond (decide ((w.fLast : Int) = w1.fLast))
   (cond (decide ((w.fUndoAttempt : Int) = w1.fUndoAttempt))
    (cond (w.fUndoSent == w1.fUndoSent)
     (cond (w.fHeld == w1.fHeld)
      (∃ b : Bool, (Rn 19 [(.sl 1 w.fActive), (.sl 1 w1.fActive)] ((tb b), [.dead, .dead])) ∧
       (cond b
        (∃ b1 : Bool, (Rn 20 [(.sl 1 w.fVars), (.sl 1 w1.fVars)] ((tb b1), [.dead, .dead])) ∧
         (cond b1
          (∃ b2 : Bool, (Rn 21 [(.sl 4 w.fWorks), (.sl 4 w1.fWorks)] ((tb b2), [.dead, .dead])) ∧
           (cond b2
            (∃ b3 : Bool, (Rn 22 [(.sl 3 w.fStack), (.sl 3 w1.fStack)] ((tb b3), [.dead, .dead])) ∧
             (R = ((tb b3), [.dead, .dead])))
            (R = ((tb false), [.dead, .dead]))))
          (R = ((tb false), [.dead, .dead]))))
        (R = ((tb false), [.dead, .dead]))))
      (R = ((tb false), [.dead, .dead])))
     (R = ((tb false), [.dead, .dead])))
    (R = ((tb false), [.dead, .dead])))
   (R = ((tb false), [.dead, .dead])))
  (R = ((tb false), [.dead, .dead]))) : Rn 7 [w.t, w1.t] R := by
  refine fn_rule (ann := A7) (mv := MV) (fz := true) mixed Try.func7 (c := B7) (by kernel_rfl) (by decide) ?_
  all_goals revert h
  all_goals refine via ?_
  all_goals kernel_rfl
/- tumbrel/tumbrelref20.Same -/
noncomputable def A9 : Ann := mkAnn [(18024, [.ex (Bool) fun b => .done ((tb b), [.dead, .dead])])] [(99496, [.ex Int fun w => .done (i64 w)]), (99816, [.ex Int fun w => .done (i64 w)]), (197800, [.ex W_tumbrelref20_Work fun w => .done w.t]), (198120, [.ex W_tumbrelref20_Work fun w => .done w.t]), (296104, [.ex W_tumbrelref20_Entry fun w => .done w.t]), (296424, [.ex W_tumbrelref20_Entry fun w => .done w.t])] [] [(116, [2, 3, 78, 79]), (244, [2, 3, 96, 97]), (500, [2, 3, 114, 115])]
noncomputable abbrev B9 : Code := Try.f9.body.getD .skip
def L9_0 (n : Int) (n1 : Int) (w : W_tumbrelref20_Instance) (w1 : W_tumbrelref20_Instance) (R : T × List T) : Prop := CutL Try.prog Try.f9 B9 true [1, 1, 0, 1, 0, 0] (mkSt 130 [(2, (.ptr (1000000003, 0) 0)), (3, (.ptr (1000000004, 0) 0)), (78, (i64 n)), (79, (i64 n1))] [((1000000003, 0), .box 33 [(i64 w.fPhase), (.sl 1 w.fActive), (.sl 1 w.fVars), (.sl 4 w.fWorks), (i64 w.fLast), (.sl 3 w.fStack), (i64 w.fUndoAttempt), (tb w.fUndoSent), (tb w.fHeld)]), ((1000000004, 0), .box 33 [(i64 w1.fPhase), (.sl 1 w1.fActive), (.sl 1 w1.fVars), (.sl 4 w1.fWorks), (i64 w1.fLast), (.sl 3 w1.fStack), (i64 w1.fUndoAttempt), (tb w1.fUndoSent), (tb w1.fHeld)])]) [.dead, .dead] R
def L9_1 (n : Int) (n1 : Int) (w : W_tumbrelref20_Instance) (w1 : W_tumbrelref20_Instance) (R : T × List T) : Prop := CutL Try.prog Try.f9 B9 true [1, 1, 1, 0, 1, 0, 0] (mkSt 130 [(2, (.ptr (1000000003, 0) 0)), (3, (.ptr (1000000004, 0) 0)), (96, (i64 n)), (97, (i64 n1))] [((1000000003, 0), .box 33 [(i64 w.fPhase), (.sl 1 w.fActive), (.sl 1 w.fVars), (.sl 4 w.fWorks), (i64 w.fLast), (.sl 3 w.fStack), (i64 w.fUndoAttempt), (tb w.fUndoSent), (tb w.fHeld)]), ((1000000004, 0), .box 33 [(i64 w1.fPhase), (.sl 1 w1.fActive), (.sl 1 w1.fVars), (.sl 4 w1.fWorks), (i64 w1.fLast), (.sl 3 w1.fStack), (i64 w1.fUndoAttempt), (tb w1.fUndoSent), (tb w1.fHeld)])]) [.dead, .dead] R
def L9_2 (n : Int) (n1 : Int) (w : W_tumbrelref20_Instance) (w1 : W_tumbrelref20_Instance) (R : T × List T) : Prop := CutL Try.prog Try.f9 B9 true [1, 1, 1, 1, 0, 1, 0, 0] (mkSt 130 [(2, (.ptr (1000000003, 0) 0)), (3, (.ptr (1000000004, 0) 0)), (114, (i64 n)), (115, (i64 n1))] [((1000000003, 0), .box 33 [(i64 w.fPhase), (.sl 1 w.fActive), (.sl 1 w.fVars), (.sl 4 w.fWorks), (i64 w.fLast), (.sl 3 w.fStack), (i64 w.fUndoAttempt), (tb w.fUndoSent), (tb w.fHeld)]), ((1000000004, 0), .box 33 [(i64 w1.fPhase), (.sl 1 w1.fActive), (.sl 1 w1.fVars), (.sl 4 w1.fWorks), (i64 w1.fLast), (.sl 3 w1.fStack), (i64 w1.fUndoAttempt), (tb w1.fUndoSent), (tb w1.fHeld)])]) [.dead, .dead] R
set_option maxRecDepth 100000 in
theorem l9_0 (n : Int) (n1 : Int) (w : W_tumbrelref20_Instance) (w1 : W_tumbrelref20_Instance) (R : T × List T) (h : cond (decide ((n1 : Int) < n))
  (∃ n2 : Int, (0 ≤ n1 ∧ w.fVars[(Int.toNat n1)]? = some (i64 n2)) ∧
   (∃ n3 : Int, (0 ≤ n1 ∧ w1.fVars[(Int.toNat n1)]? = some (i64 n3)) ∧
    (cond (!(decide ((n2 : Int) = n3)))
     (R = ((tb false), [.dead, .dead]))
     (L9_0 n (IntKind.wrap .i64 (n1 + 1)) w w1 R))))
  (L9_1 (((List.length w.fWorks) : Nat) : Int) 0 w w1 R)) : L9_0 n n1 w w1 R := by
  unfold L9_0
  refine cutL_rule (ann := A9) (mv := MV) mixed (by kernel_rfl) ?_
  all_goals revert h
  all_goals refine via ?_
  all_goals kernel_rfl
set_option maxRecDepth 100000 in
theorem l9_1 (n : Int) (n1 : Int) (w : W_tumbrelref20_Instance) (w1 : W_tumbrelref20_Instance) (R : T × List T) (h : cond (decide ((n1 : Int) < n))
  (∃ w2 : W_tumbrelref20_Work, (0 ≤ n1 ∧ w.fWorks[(Int.toNat n1)]? = some w2.t) ∧
   (∃ w3 : W_tumbrelref20_Work, (0 ≤ n1 ∧ w1.fWorks[(Int.toNat n1)]? = some w3.t) ∧
    (cond (!(((w2.fState : Int) == w3.fState) && (((w2.fTurn : Int) == w3.fTurn) && (((w2.fAttempt : Int) == w3.fAttempt) && ((w2.fSent == w3.fSent) && true)))))
     (R = ((tb false), [.dead, .dead]))
     (L9_1 n (IntKind.wrap .i64 (n1 + 1)) w w1 R))))
  (L9_2 (((List.length w.fStack) : Nat) : Int) 0 w w1 R)) : L9_1 n n1 w w1 R := by
  unfold L9_1
  refine cutL_rule (ann := A9) (mv := MV) mixed (by kernel_rfl) ?_
  all_goals revert h
  all_goals refine via ?_
  all_goals kernel_rfl
set_option maxRecDepth 100000 in
theorem l9_2 (n : Int) (n1 : Int) (w : W_tumbrelref20_Instance) (w1 : W_tumbrelref20_Instance) (R : T × List T) (h : cond (decide ((n1 : Int) < n))
  (∃ w2 : W_tumbrelref20_Entry, (0 ≤ n1 ∧ w.fStack[(Int.toNat n1)]? = some w2.t) ∧
   (∃ w3 : W_tumbrelref20_Entry, (0 ≤ n1 ∧ w1.fStack[(Int.toNat n1)]? = some w3.t) ∧
    (cond (!(((w2.fTurn : Int) == w3.fTurn) && ((decide (w2.fUndo = w3.fUndo)) && (((w2.fWhere : Int) == w3.fWhere) && true))))
     (R = ((tb false), [.dead, .dead]))
     (L9_2 n (IntKind.wrap .i64 (n1 + 1)) w w1 R))))
  (R = ((tb true), [.dead, .dead]))) : L9_2 n n1 w w1 R := by
  unfold L9_2
  refine cutL_rule (ann := A9) (mv := MV) mixed (by kernel_rfl) ?_
  all_goals revert h
  all_goals refine via ?_
  all_goals kernel_rfl
set_option maxRecDepth 100000 in
theorem f9 (w : W_tumbrelref20_Instance) (w1 : W_tumbrelref20_Instance) (R : T × List T) (h : cond (!(decide ((w.fPhase : Int) = w1.fPhase)))
  (R = ((tb false), [.dead, .dead]))
  (∃ b : Bool, (Rn 23 [(.sl 1 w.fActive), (.sl 1 w1.fActive)] ((tb b), [.dead, .dead])) ∧
   (cond (!b)
    (R = ((tb false), [.dead, .dead]))
    (cond (!(decide (((((List.length w.fVars) : Nat) : Int) : Int) = (((List.length w1.fVars) : Nat) : Int))))
     (R = ((tb false), [.dead, .dead]))
     (cond (!(decide (((((List.length w.fWorks) : Nat) : Int) : Int) = (((List.length w1.fWorks) : Nat) : Int))))
      (R = ((tb false), [.dead, .dead]))
      (cond (!(decide ((w.fLast : Int) = w1.fLast)))
       (R = ((tb false), [.dead, .dead]))
       (cond (!(decide (((((List.length w.fStack) : Nat) : Int) : Int) = (((List.length w1.fStack) : Nat) : Int))))
        (R = ((tb false), [.dead, .dead]))
        (cond (!(decide ((w.fUndoAttempt : Int) = w1.fUndoAttempt)))
         (R = ((tb false), [.dead, .dead]))
         (cond (!(w.fUndoSent == w1.fUndoSent))
          (R = ((tb false), [.dead, .dead]))
          (cond (!(w.fHeld == w1.fHeld))
           (R = ((tb false), [.dead, .dead]))
           (L9_0 (((List.length w.fVars) : Nat) : Int) 0 w w1 R))))))))))) : Rn 9 [w.t, w1.t] R := by
  refine fn_rule (ann := A9) (mv := MV) (fz := true) mixed Try.func9 (c := B9) (by kernel_rfl) (by decide) ?_
  all_goals revert h
  all_goals refine via ?_
  all_goals kernel_rfl
/- tumbrel/saga.Rest -/
noncomputable def A16 : Ann := mkAnn [(17768, [.ex (Bool) fun b => .done ((tb b), [.dead, .dead])])] [] [] []
noncomputable abbrev B16 : Code := Try.f16.body.getD .skip
set_option maxRecDepth 100000 in
theorem f16 (w : W_saga_Instance) (R : T × List T) (h : cond (!w.fUndoSent)
  (∃ b : Bool, (Rn 35 [(.sl 4 w.fWorks), (.s (.func (.func 36) #[] #[]))] ((tb b), [.dead, .dead])) ∧
   (R = ((tb (!b)), [.dead])))
  (R = ((tb false), [.dead]))) : Rn 16 [w.t] R := by
  refine fn_rule (ann := A16) (mv := MV) (fz := true) mixed Try.func16 (c := B16) (by kernel_rfl) (by decide) ?_
  all_goals revert h
  all_goals refine via ?_
  all_goals kernel_rfl
/- tumbrel/tumbrelref06.Small -/
noncomputable def A17 : Ann := mkAnn [(18216, [.ex (Int) fun n => .done ((i64 n), [.dead, .dead, .dead])])] [] [] []
noncomputable abbrev B17 : Code := Try.f17.body.getD .skip
set_option maxRecDepth 100000 in
theorem f17 (w : W_tumbrelref06_Chart) (R : T × List T) (h : cond (decide (((((List.length w.fVars) : Nat) : Int) : Int) ≤ 200))
  (cond (decide (((((ByteArray.size w.fName) : Nat) : Int) : Int) ≤ 1000))
   (∃ n : Int, (Rn 37 [(.sl 11 w.fStates), (i64 0), (i64 400)] ((i64 n), [.dead, .dead, .dead])) ∧
    (R = ((tb (decide ((0 : Int) ≤ n))), [.dead])))
   (R = ((tb false), [.dead])))
  (R = ((tb false), [.dead]))) : Rn 17 [w.t] R := by
  refine fn_rule (ann := A17) (mv := MV) (fz := true) mixed Try.func17 (c := B17) (by kernel_rfl) (by decide) ?_
  all_goals revert h
  all_goals refine via ?_
  all_goals kernel_rfl
/- tumbrel/tumbrelref20.Small -/
noncomputable def A18 : Ann := mkAnn [] [] [] []
noncomputable abbrev B18 : Code := Try.f18.body.getD .skip
set_option maxRecDepth 100000 in
theorem f18 (w : W_tumbrelref20_Instance) (R : T × List T) (h : cond (decide (((((List.length w.fActive) : Nat) : Int) : Int) ≤ 100))
  (cond (decide (((((List.length w.fVars) : Nat) : Int) : Int) ≤ 100))
   (cond (decide (((((List.length w.fWorks) : Nat) : Int) : Int) ≤ 100))
    (R = ((tb (decide (((((List.length w.fStack) : Nat) : Int) : Int) ≤ 300))), [.dead]))
    (R = ((tb false), [.dead])))
   (R = ((tb false), [.dead])))
  (R = ((tb false), [.dead]))) : Rn 18 [w.t] R := by
  refine fn_rule (ann := A18) (mv := MV) (fz := true) mixed Try.func18 (c := B18) (by kernel_rfl) (by decide) ?_
  all_goals revert h
  all_goals refine via ?_
  all_goals kernel_rfl
/- slices.Equal[[]int,int] -/
noncomputable def A19 : Ann := mkAnn [] [(99432, [.ex Int fun w => .done (i64 w)]), (99688, [.ex Int fun w => .done (i64 w)])] [] [(116, [0, 1, 12, 13])]
noncomputable abbrev B19 : Code := Try.f19.body.getD .skip
def L19_0 (s1 : List T) (s2 : List T) (n : Int) (n1 : Int) (R : T × List T) : Prop := CutL Try.prog Try.f19 B19 true [1, 1, 0, 1, 0, 0] (mkSt 26 [(0, (.sl 1 s1)), (1, (.sl 1 s2)), (12, (i64 n)), (13, (i64 n1))] []) [.dead, .dead] R
set_option maxRecDepth 100000 in
theorem l19_0 (s1 : List T) (s2 : List T) (n : Int) (n1 : Int) (R : T × List T) (h : cond (decide ((n1 : Int) < n))
  (∃ n2 : Int, (0 ≤ n1 ∧ s1[(Int.toNat n1)]? = some (i64 n2)) ∧
   (∃ n3 : Int, (0 ≤ n1 ∧ s2[(Int.toNat n1)]? = some (i64 n3)) ∧
    (cond (!(decide ((n2 : Int) = n3)))
     (R = ((tb false), [.dead, .dead]))
     (L19_0 s1 s2 n (IntKind.wrap .i64 (n1 + 1)) R))))
  (R = ((tb true), [.dead, .dead]))) : L19_0 s1 s2 n n1 R := by
  unfold L19_0
  refine cutL_rule (ann := A19) (mv := MV) mixed (by kernel_rfl) ?_
  all_goals revert h
  all_goals refine via ?_
  all_goals kernel_rfl
set_option maxRecDepth 100000 in
theorem f19 (s1 : List T) (s2 : List T) (R : T × List T) (h : cond (!(decide (((((List.length s1) : Nat) : Int) : Int) = (((List.length s2) : Nat) : Int))))
  (R = ((tb false), [.dead, .dead]))
  (L19_0 s1 s2 (((List.length s1) : Nat) : Int) 0 R)) : Rn 19 [(.sl 1 s1), (.sl 1 s2)] R := by
  refine fn_rule (ann := A19) (mv := MV) (fz := true) mixed Try.func19 (c := B19) (by kernel_rfl) (by decide) ?_
  all_goals revert h
  all_goals refine via ?_
  all_goals kernel_rfl
/- slices.Equal[[]int64,int64] -/
noncomputable def A20 : Ann := mkAnn [] [(99432, [.ex Int fun w => .done (i64 w)]), (99688, [.ex Int fun w => .done (i64 w)])] [] [(116, [0, 1, 12, 13])]
noncomputable abbrev B20 : Code := Try.f20.body.getD .skip
def L20_0 (s1 : List T) (s2 : List T) (n : Int) (n1 : Int) (R : T × List T) : Prop := CutL Try.prog Try.f20 B20 true [1, 1, 0, 1, 0, 0] (mkSt 26 [(0, (.sl 1 s1)), (1, (.sl 1 s2)), (12, (i64 n)), (13, (i64 n1))] []) [.dead, .dead] R
set_option maxRecDepth 100000 in
theorem l20_0 (s1 : List T) (s2 : List T) (n : Int) (n1 : Int) (R : T × List T) (h : cond (decide ((n1 : Int) < n))
  (∃ n2 : Int, (0 ≤ n1 ∧ s1[(Int.toNat n1)]? = some (i64 n2)) ∧
   (∃ n3 : Int, (0 ≤ n1 ∧ s2[(Int.toNat n1)]? = some (i64 n3)) ∧
    (cond (!(decide ((n2 : Int) = n3)))
     (R = ((tb false), [.dead, .dead]))
     (L20_0 s1 s2 n (IntKind.wrap .i64 (n1 + 1)) R))))
  (R = ((tb true), [.dead, .dead]))) : L20_0 s1 s2 n n1 R := by
  unfold L20_0
  refine cutL_rule (ann := A20) (mv := MV) mixed (by kernel_rfl) ?_
  all_goals revert h
  all_goals refine via ?_
  all_goals kernel_rfl
set_option maxRecDepth 100000 in
theorem f20 (s1 : List T) (s2 : List T) (R : T × List T) (h : cond (!(decide (((((List.length s1) : Nat) : Int) : Int) = (((List.length s2) : Nat) : Int))))
  (R = ((tb false), [.dead, .dead]))
  (L20_0 s1 s2 (((List.length s1) : Nat) : Int) 0 R)) : Rn 20 [(.sl 1 s1), (.sl 1 s2)] R := by
  refine fn_rule (ann := A20) (mv := MV) (fz := true) mixed Try.func20 (c := B20) (by kernel_rfl) (by decide) ?_
  all_goals revert h
  all_goals refine via ?_
  all_goals kernel_rfl
/- slices.Equal[[]tumbrel/saga.Work,tumbrel/saga.Work] -/
noncomputable def A21 : Ann := mkAnn [] [(99432, [.ex W_saga_Work fun w => .done w.t]), (99688, [.ex W_saga_Work fun w => .done w.t])] [] [(116, [0, 1, 12, 13])]
noncomputable abbrev B21 : Code := Try.f21.body.getD .skip
def L21_0 (s1 : List T) (s2 : List T) (n : Int) (n1 : Int) (R : T × List T) : Prop := CutL Try.prog Try.f21 B21 true [1, 1, 0, 1, 0, 0] (mkSt 26 [(0, (.sl 4 s1)), (1, (.sl 4 s2)), (12, (i64 n)), (13, (i64 n1))] []) [.dead, .dead] R
set_option maxRecDepth 100000 in
theorem l21_0 (s1 : List T) (s2 : List T) (n : Int) (n1 : Int) (R : T × List T) (h : cond (decide ((n1 : Int) < n))
  (∃ w : W_saga_Work, (0 ≤ n1 ∧ s1[(Int.toNat n1)]? = some w.t) ∧
   (∃ w1 : W_saga_Work, (0 ≤ n1 ∧ s2[(Int.toNat n1)]? = some w1.t) ∧
    (cond (!(((w.fState : Int) == w1.fState) && (((w.fTurn : Int) == w1.fTurn) && (((w.fAttempt : Int) == w1.fAttempt) && ((w.fSent == w1.fSent) && true)))))
     (R = ((tb false), [.dead, .dead]))
     (L21_0 s1 s2 n (IntKind.wrap .i64 (n1 + 1)) R))))
  (R = ((tb true), [.dead, .dead]))) : L21_0 s1 s2 n n1 R := by
  unfold L21_0
  refine cutL_rule (ann := A21) (mv := MV) mixed (by kernel_rfl) ?_
  all_goals revert h
  all_goals refine via ?_
  all_goals kernel_rfl
set_option maxRecDepth 100000 in
theorem f21 (s1 : List T) (s2 : List T) (R : T × List T) (h : cond (!(decide (((((List.length s1) : Nat) : Int) : Int) = (((List.length s2) : Nat) : Int))))
  (R = ((tb false), [.dead, .dead]))
  (L21_0 s1 s2 (((List.length s1) : Nat) : Int) 0 R)) : Rn 21 [(.sl 4 s1), (.sl 4 s2)] R := by
  refine fn_rule (ann := A21) (mv := MV) (fz := true) mixed Try.func21 (c := B21) (by kernel_rfl) (by decide) ?_
  all_goals revert h
  all_goals refine via ?_
  all_goals kernel_rfl
/- slices.Equal[[]tumbrel/saga.Entry,tumbrel/saga.Entry] -/
noncomputable def A22 : Ann := mkAnn [] [(99432, [.ex W_saga_Entry fun w => .done w.t]), (99688, [.ex W_saga_Entry fun w => .done w.t])] [] [(116, [0, 1, 12, 13])]
noncomputable abbrev B22 : Code := Try.f22.body.getD .skip
def L22_0 (s1 : List T) (s2 : List T) (n : Int) (n1 : Int) (R : T × List T) : Prop := CutL Try.prog Try.f22 B22 true [1, 1, 0, 1, 0, 0] (mkSt 26 [(0, (.sl 3 s1)), (1, (.sl 3 s2)), (12, (i64 n)), (13, (i64 n1))] []) [.dead, .dead] R
set_option maxRecDepth 100000 in
theorem l22_0 (s1 : List T) (s2 : List T) (n : Int) (n1 : Int) (R : T × List T) (h : cond (decide ((n1 : Int) < n))
  (∃ w : W_saga_Entry, (0 ≤ n1 ∧ s1[(Int.toNat n1)]? = some w.t) ∧
   (∃ w1 : W_saga_Entry, (0 ≤ n1 ∧ s2[(Int.toNat n1)]? = some w1.t) ∧
    (cond (!(((w.fTurn : Int) == w1.fTurn) && ((decide (w.fUndo = w1.fUndo)) && (((w.fWhere : Int) == w1.fWhere) && true))))
     (R = ((tb false), [.dead, .dead]))
     (L22_0 s1 s2 n (IntKind.wrap .i64 (n1 + 1)) R))))
  (R = ((tb true), [.dead, .dead]))) : L22_0 s1 s2 n n1 R := by
  unfold L22_0
  refine cutL_rule (ann := A22) (mv := MV) mixed (by kernel_rfl) ?_
  all_goals revert h
  all_goals refine via ?_
  all_goals kernel_rfl
set_option maxRecDepth 100000 in
theorem f22 (s1 : List T) (s2 : List T) (R : T × List T) (h : cond (!(decide (((((List.length s1) : Nat) : Int) : Int) = (((List.length s2) : Nat) : Int))))
  (R = ((tb false), [.dead, .dead]))
  (L22_0 s1 s2 (((List.length s1) : Nat) : Int) 0 R)) : Rn 22 [(.sl 3 s1), (.sl 3 s2)] R := by
  refine fn_rule (ann := A22) (mv := MV) (fz := true) mixed Try.func22 (c := B22) (by kernel_rfl) (by decide) ?_
  all_goals revert h
  all_goals refine via ?_
  all_goals kernel_rfl
/- tumbrel/tumbrelref09.Ints -/
noncomputable def A23 : Ann := mkAnn [] [(99432, [.ex Int fun w => .done (i64 w)]), (99688, [.ex Int fun w => .done (i64 w)])] [] [(116, [0, 1, 12, 13])]
noncomputable abbrev B23 : Code := Try.f23.body.getD .skip
def L23_0 (l : List T) (b : List T) (n : Int) (n1 : Int) (R : T × List T) : Prop := CutL Try.prog Try.f23 B23 true [1, 1, 0, 1, 0, 0] (mkSt 26 [(0, (.sl 1 l)), (1, (.sl 1 b)), (12, (i64 n)), (13, (i64 n1))] []) [.dead, .dead] R
set_option maxRecDepth 100000 in
theorem l23_0 (l : List T) (b : List T) (n : Int) (n1 : Int) (R : T × List T) (h : cond (decide ((n1 : Int) < n))
  (∃ n2 : Int, (0 ≤ n1 ∧ l[(Int.toNat n1)]? = some (i64 n2)) ∧
   (∃ n3 : Int, (0 ≤ n1 ∧ b[(Int.toNat n1)]? = some (i64 n3)) ∧
    (cond (!(decide ((n2 : Int) = n3)))
     (R = ((tb false), [.dead, .dead]))
     (L23_0 l b n (IntKind.wrap .i64 (n1 + 1)) R))))
  (R = ((tb true), [.dead, .dead]))) : L23_0 l b n n1 R := by
  unfold L23_0
  refine cutL_rule (ann := A23) (mv := MV) mixed (by kernel_rfl) ?_
  all_goals revert h
  all_goals refine via ?_
  all_goals kernel_rfl
set_option maxRecDepth 100000 in
theorem f23 (l : List T) (b : List T) (R : T × List T) (h : cond (!(decide (((((List.length l) : Nat) : Int) : Int) = (((List.length b) : Nat) : Int))))
  (R = ((tb false), [.dead, .dead]))
  (L23_0 l b (((List.length l) : Nat) : Int) 0 R)) : Rn 23 [(.sl 1 l), (.sl 1 b)] R := by
  refine fn_rule (ann := A23) (mv := MV) (fz := true) mixed Try.func23 (c := B23) (by kernel_rfl) (by decide) ?_
  all_goals revert h
  all_goals refine via ?_
  all_goals kernel_rfl
/- slices.ContainsFunc[[]tumbrel/saga.Work,tumbrel/saga.Work] -/
noncomputable def A35 : Ann := mkAnn [(17512, [.ex (Int) fun n => .done ((i64 n), [.dead, .dead])])] [] [] []
noncomputable abbrev B35 : Code := Try.f35.body.getD .skip
set_option maxRecDepth 100000 in
theorem f35 (s : List T) (R : T × List T) (h : ∃ n : Int, (Rn 57 [(.sl 4 s), (.s (.func (.func 36) #[] #[]))] ((i64 n), [.dead, .dead])) ∧
  (R = ((tb (decide ((0 : Int) ≤ n))), [.dead, .dead]))) : Rn 35 [(.sl 4 s), (.s (.func (.func 36) #[] #[]))] R := by
  refine fn_rule (ann := A35) (mv := MV) (fz := true) mixed Try.func35 (c := B35) (by kernel_rfl) (by decide) ?_
  all_goals revert h
  all_goals refine via ?_
  all_goals kernel_rfl
/- tumbrel/tumbrelref06.small -/
noncomputable def A37 : Ann := mkAnn [(230696, [.ex (Bool) fun b => .done ((tb b), [.dead])]), (312680, [.ex (Bool) fun b => .done ((tb b), [.dead])]), (378344, [.ex (Int) fun n => .done ((i64 n), [.dead, .dead, .dead])])] [(99560, [.ex W_tumbrelref06_State fun w => .done w.t]), (100008, [.ex W_tumbrelref06_State fun w => .done w.t]), (100520, [.ex W_tumbrelref06_State fun w => .done w.t]), (101032, [.ex W_tumbrelref06_State fun w => .done w.t]), (148584, [.ex W_tumbrelref06_State fun w => .done w.t]), (197736, [.ex W_tumbrelref06_State fun w => .done w.t]), (197992, [.ex W_tumbrelref06_On fun w => .done w.t]), (312488, [.ex W_tumbrelref06_Set fun w => .done w.t]), (313064, [.ex W_tumbrelref06_Set fun w => .done w.t]), (377960, [.ex W_tumbrelref06_State fun w => .done w.t])] [] [(116, [0, 1, 2, 14, 15]), (239220, [0, 1, 2, 7, 14, 15, 58, 59]), (489924220, [0, 1, 2, 7, 9, 14, 15, 58, 59, 88, 89, 90, 91, 95, 96])]
noncomputable abbrev B37 : Code := Try.f37.body.getD .skip
def L37_0 (l : List T) (depth : Int) (left : Int) (n : Int) (n1 : Int) (R : T × List T) : Prop := CutL Try.prog Try.f37 B37 true [1, 1, 0, 1, 0, 0] (mkSt 132 [(0, (.sl 11 l)), (1, (i64 depth)), (2, (i64 left)), (14, (i64 n)), (15, (i64 n1))] []) [.dead, .dead, .dead] R
def L37_1 (l : List T) (depth : Int) (left : Int) (i : Int) (n : Int) (n1 : Int) (n2 : Int) (n3 : Int) (R : T × List T) : Prop := CutL Try.prog Try.f37 B37 true [1, 1, 0, 1, 0, 0, 1, 1, 0, 0, 1, 1, 1, 0, 1, 0, 0] (mkSt 132 [(0, (.sl 11 l)), (1, (i64 depth)), (2, (i64 left)), (7, (i64 i)), (14, (i64 n)), (15, (i64 n1)), (58, (i64 n2)), (59, (i64 n3))] []) [.dead, .dead, .dead] R
def L37_2 (l : List T) (depth : Int) (left : Int) (i : Int) (n : Int) (n1 : Int) (n2 : Int) (n3 : Int) (n4 : Int) (n5 : Int) (s : ByteArray) (l1 : List T) (b : Bool) (b1 : Bool) (n6 : Int) (n7 : Int) (w : W_tumbrelref06_On) (R : T × List T) : Prop := CutL Try.prog Try.f37 B37 true [1, 1, 0, 1, 0, 0, 1, 1, 0, 0, 1, 1, 1, 0, 1, 0, 0, 1, 1, 0, 0, 1, 1, 1, 1, 1, 0, 0] (mkSt 132 [(0, (.sl 11 l)), (1, (i64 depth)), (2, (i64 left)), (7, (i64 i)), (9, (.ptr (1000000010, 0) 0)), (14, (i64 n)), (15, (i64 n1)), (58, (i64 n2)), (59, (i64 n3)), (88, (.ptr (1000000010, 0) 2)), (89, (.agg [(i64 n4), (i64 n5), (st s), (.sl 4 l1)])), (90, (tb b)), (91, (tb b1)), (95, (i64 n6)), (96, (i64 n7))] [((1000000010, 0), .box 138 [(st w.fEvent), (tb w.fHas), (i64 w.fGuard_Kind), (i64 w.fGuard_N), (st w.fGuard_S), (.sl 4 w.fGuard_Parts), (st w.fTarget), (.sl 5 w.fSets), (i64 w.fAt_Line), (i64 w.fAt_Col)])]) [.dead, .dead, .dead] R
set_option maxRecDepth 100000 in
theorem l37_0 (l : List T) (depth : Int) (left : Int) (n : Int) (n1 : Int) (R : T × List T) (h : cond (decide ((n1 : Int) < n))
  (∃ w : W_tumbrelref06_State, (0 ≤ n1 ∧ l[(Int.toNat n1)]? = some w.t) ∧
   (∃ w1 : W_tumbrelref06_State, (0 ≤ n1 ∧ l[(Int.toNat n1)]? = some w1.t) ∧
    (∃ w2 : W_tumbrelref06_State, (0 ≤ n1 ∧ l[(Int.toNat n1)]? = some w2.t) ∧
     (∃ w3 : W_tumbrelref06_State, (0 ≤ n1 ∧ l[(Int.toNat n1)]? = some w3.t) ∧
      (cond (decide (((IntKind.wrap .i64 ((IntKind.wrap .i64 ((IntKind.wrap .i64 ((IntKind.wrap .i64 ((IntKind.wrap .i64 (left - 1)) - (((List.length w.fOns) : Nat) : Int))) - (IntKind.wrap .i64 (Int.tdiv (((ByteArray.size w1.fName) : Nat) : Int) 50)))) - (IntKind.wrap .i64 (Int.tdiv (((ByteArray.size w2.fDo) : Nat) : Int) 50)))) - (IntKind.wrap .i64 (Int.tdiv (((ByteArray.size w3.fUndo) : Nat) : Int) 50)))) : Int) < 0))
       (R = ((i64 (-1)), [.dead, .dead, .dead]))
       (∃ w4 : W_tumbrelref06_State, (0 ≤ n1 ∧ l[(Int.toNat n1)]? = some w4.t) ∧
        (L37_1 l depth ((IntKind.wrap .i64 ((IntKind.wrap .i64 ((IntKind.wrap .i64 ((IntKind.wrap .i64 ((IntKind.wrap .i64 (left - 1)) - (((List.length w.fOns) : Nat) : Int))) - (IntKind.wrap .i64 (Int.tdiv (((ByteArray.size w1.fName) : Nat) : Int) 50)))) - (IntKind.wrap .i64 (Int.tdiv (((ByteArray.size w2.fDo) : Nat) : Int) 50)))) - (IntKind.wrap .i64 (Int.tdiv (((ByteArray.size w3.fUndo) : Nat) : Int) 50))))) n1 n n1 (((List.length w4.fOns) : Nat) : Int) 0 R)))))))
  (R = ((i64 left), [.dead, .dead, .dead]))) : L37_0 l depth left n n1 R := by
  unfold L37_0
  refine cutL_rule (ann := A37) (mv := MV) mixed (by kernel_rfl) ?_
  all_goals revert h
  all_goals refine via ?_
  all_goals kernel_rfl
set_option maxRecDepth 100000 in
theorem l37_1 (l : List T) (depth : Int) (left : Int) (i : Int) (n : Int) (n1 : Int) (n2 : Int) (n3 : Int) (R : T × List T) (h : cond (decide ((n3 : Int) < n2))
  (∃ w : W_tumbrelref06_State, (0 ≤ i ∧ l[(Int.toNat i)]? = some w.t) ∧
   (∃ w1 : W_tumbrelref06_On, (0 ≤ n3 ∧ w.fOns[(Int.toNat n3)]? = some w1.t) ∧
    (cond (decide (((IntKind.wrap .i64 ((IntKind.wrap .i64 ((IntKind.wrap .i64 (left - (((List.length w1.fSets) : Nat) : Int))) - (IntKind.wrap .i64 (Int.tdiv (((ByteArray.size w1.fEvent) : Nat) : Int) 50)))) - (IntKind.wrap .i64 (Int.tdiv (((ByteArray.size w1.fTarget) : Nat) : Int) 50)))) : Int) < 0))
     (R = ((i64 (-1)), [.dead, .dead, .dead]))
     (∃ b : Bool, (Rn 11 [(.agg [(i64 w1.fGuard_Kind), (i64 w1.fGuard_N), (st w1.fGuard_S), (.sl 4 w1.fGuard_Parts)])] ((tb b), [.dead])) ∧
      (cond (!b)
       (R = ((i64 (-1)), [.dead, .dead, .dead]))
       (L37_2 l depth ((IntKind.wrap .i64 ((IntKind.wrap .i64 ((IntKind.wrap .i64 (left - (((List.length w1.fSets) : Nat) : Int))) - (IntKind.wrap .i64 (Int.tdiv (((ByteArray.size w1.fEvent) : Nat) : Int) 50)))) - (IntKind.wrap .i64 (Int.tdiv (((ByteArray.size w1.fTarget) : Nat) : Int) 50))))) i n n1 n2 n3 w1.fGuard_Kind w1.fGuard_N w1.fGuard_S w1.fGuard_Parts b (!b) (((List.length w1.fSets) : Nat) : Int) 0 w1 R))))))
  (∃ w2 : W_tumbrelref06_State, (0 ≤ i ∧ l[(Int.toNat i)]? = some w2.t) ∧
   (∃ n4 : Int, (Rn 37 [(.sl 11 w2.fInner), (i64 (IntKind.wrap .i64 (depth + 1))), (i64 left)] ((i64 n4), [.dead, .dead, .dead])) ∧
    (cond (decide ((n4 : Int) < 0))
     (R = ((i64 (-1)), [.dead, .dead, .dead]))
     (L37_0 l depth n4 n (IntKind.wrap .i64 (n1 + 1)) R))))) : L37_1 l depth left i n n1 n2 n3 R := by
  unfold L37_1
  refine cutL_rule (ann := A37) (mv := MV) mixed (by kernel_rfl) ?_
  all_goals revert h
  all_goals refine via ?_
  all_goals kernel_rfl
set_option maxRecDepth 100000 in
theorem l37_2 (l : List T) (depth : Int) (left : Int) (i : Int) (n : Int) (n1 : Int) (n2 : Int) (n3 : Int) (n4 : Int) (n5 : Int) (s : ByteArray) (l1 : List T) (b : Bool) (b1 : Bool) (n6 : Int) (n7 : Int) (w : W_tumbrelref06_On) (R : T × List T) (h : cond (decide ((n7 : Int) < n6))
  (∃ w1 : W_tumbrelref06_Set, (0 ≤ n7 ∧ w.fSets[(Int.toNat n7)]? = some w1.t) ∧
   (∃ b2 : Bool, (Rn 11 [(.agg [(i64 w1.fTo_Kind), (i64 w1.fTo_N), (st w1.fTo_S), (.sl 4 w1.fTo_Parts)])] ((tb b2), [.dead])) ∧
    (cond (!b2)
     (R = ((i64 (-1)), [.dead, .dead, .dead]))
     (∃ w2 : W_tumbrelref06_Set, (0 ≤ n7 ∧ w.fSets[(Int.toNat n7)]? = some w2.t) ∧
      (cond (decide ((1000 : Int) < (((ByteArray.size w2.fName) : Nat) : Int)))
       (R = ((i64 (-1)), [.dead, .dead, .dead]))
       (L37_2 l depth left i n n1 n2 n3 n4 n5 s l1 b b1 n6 (IntKind.wrap .i64 (n7 + 1)) w R))))))
  (L37_1 l depth left i n n1 n2 (IntKind.wrap .i64 (n3 + 1)) R)) : L37_2 l depth left i n n1 n2 n3 n4 n5 s l1 b b1 n6 n7 w R := by
  unfold L37_2
  refine cutL_rule (ann := A37) (mv := MV) mixed (by kernel_rfl) ?_
  all_goals revert h
  all_goals refine via ?_
  all_goals kernel_rfl
set_option maxRecDepth 100000 in
theorem f37 (l : List T) (depth : Int) (left : Int) (R : T × List T) (h : cond (decide ((15 : Int) < depth))
  (R = ((i64 (-1)), [.dead, .dead, .dead]))
  (L37_0 l depth left (((List.length l) : Nat) : Int) 0 R)) : Rn 37 [(.sl 11 l), (i64 depth), (i64 left)] R := by
  refine fn_rule (ann := A37) (mv := MV) (fz := true) mixed Try.func37 (c := B37) (by kernel_rfl) (by decide) ?_
  all_goals revert h
  all_goals refine via ?_
  all_goals kernel_rfl
/- slices.IndexFunc[[]tumbrel/saga.Work,tumbrel/saga.Work] -/
noncomputable def A57 : Ann := mkAnn [(66856, [.ex (Bool) fun b => .done ((tb b), [.dead])])] [(66728, [.ex W_saga_Work fun w => .done w.t])] [] [(52, [0, 1, 7, 8])]
noncomputable abbrev B57 : Code := Try.f57.body.getD .skip
def L57_0 (s : List T) (n : Int) (n1 : Int) (R : T × List T) : Prop := CutL Try.prog Try.f57 B57 true [1, 0, 1, 0, 0] (mkSt 19 [(0, (.sl 4 s)), (1, (.s (.func (.func 36) #[] #[]))), (7, (i64 n)), (8, (i64 n1))] []) [.dead, .dead] R
set_option maxRecDepth 100000 in
theorem l57_0 (s : List T) (n : Int) (n1 : Int) (R : T × List T) (h : cond (decide ((n1 : Int) < n))
  (∃ w : W_saga_Work, (0 ≤ n1 ∧ s[(Int.toNat n1)]? = some w.t) ∧
   (∃ b : Bool, (Rn 36 [w.t] ((tb b), [.dead])) ∧
    (cond b
     (R = ((i64 n1), [.dead, .dead]))
     (L57_0 s n (IntKind.wrap .i64 (n1 + 1)) R))))
  (R = ((i64 (-1)), [.dead, .dead]))) : L57_0 s n n1 R := by
  unfold L57_0
  refine cutL_rule (ann := A57) (mv := MV) mixed (by kernel_rfl) ?_
  all_goals revert h
  all_goals refine via ?_
  all_goals kernel_rfl
set_option maxRecDepth 100000 in
theorem f57 (s : List T) (R : T × List T) (h : L57_0 s (((List.length s) : Nat) : Int) 0 R) : Rn 57 [(.sl 4 s), (.s (.func (.func 36) #[] #[]))] R := by
  refine fn_rule (ann := A57) (mv := MV) (fz := true) mixed Try.func57 (c := B57) (by kernel_rfl) (by decide) ?_
  all_goals revert h
  all_goals refine via ?_
  all_goals kernel_rfl
/- tumbrel/tumbrelref04.Small -/
noncomputable def A11 : Ann := mkAnn [(17448, [.ex (Int) fun n => .done ((i64 n), [.dead, .dead, .dead])])] [] [] []
noncomputable abbrev B11 : Code := Try.f11.body.getD .skip
set_option maxRecDepth 100000 in
theorem f11 (w : W_tumbrelref04_Node) (R : T × List T) (h : ∃ n : Int, (Rn 24 [w.t, (i64 0), (i64 200)] ((i64 n), [.dead, .dead, .dead])) ∧
  (R = ((tb (decide ((0 : Int) ≤ n))), [.dead]))) : Rn 11 [w.t] R := by
  refine fn_rule (ann := A11) (mv := MV) (fz := true) mixed Try.func11 (c := B11) (by kernel_rfl) (by decide) ?_
  all_goals revert h
  all_goals refine via ?_
  all_goals kernel_rfl
/- tumbrel/saga.Rest$1 -/
noncomputable def A36 : Ann := mkAnn [] [] [] []
noncomputable abbrev B36 : Code := Try.f36.body.getD .skip
set_option maxRecDepth 100000 in
theorem f36 (w : W_saga_Work) (R : T × List T) (h : R = ((tb w.fSent), [.dead])) : Rn 36 [w.t] R := by
  refine fn_rule (ann := A36) (mv := MV) (fz := true) mixed Try.func36 (c := B36) (by kernel_rfl) (by decide) ?_
  all_goals revert h
  all_goals refine via ?_
  all_goals kernel_rfl
/- tumbrel/tumbrelref04.small -/
noncomputable def A24 : Ann := mkAnn [(116200, [.ex (Int) fun n => .done ((i64 n), [.dead, .dead, .dead])])] [(115880, [.ex W_tumbrelref04_Node fun w => .done w.t])] [] [(244, [1, 2, 3, 24, 25])]
noncomputable abbrev B24 : Code := Try.f24.body.getD .skip
def L24_0 (depth : Int) (left : Int) (n : Int) (n1 : Int) (w : W_tumbrelref04_Node) (R : T × List T) : Prop := CutL Try.prog Try.f24 B24 true [1, 1, 1, 0, 1, 0, 0] (mkSt 41 [(1, (i64 depth)), (2, (i64 left)), (3, (.ptr (1000000004, 0) 0)), (24, (i64 n)), (25, (i64 n1))] [((1000000004, 0), .box 46 [(i64 w.fKind), (i64 w.fN), (st w.fS), (.sl 4 w.fParts)])]) [.dead, .dead, .dead] R
set_option maxRecDepth 100000 in
theorem l24_0 (depth : Int) (left : Int) (n : Int) (n1 : Int) (w : W_tumbrelref04_Node) (R : T × List T) (h : cond (decide ((n1 : Int) < n))
  (∃ w1 : W_tumbrelref04_Node, (0 ≤ n1 ∧ w.fParts[(Int.toNat n1)]? = some w1.t) ∧
   (∃ n2 : Int, (Rn 24 [w1.t, (i64 (IntKind.wrap .i64 (depth + 1))), (i64 left)] ((i64 n2), [.dead, .dead, .dead])) ∧
    (cond (decide ((n2 : Int) < 0))
     (R = ((i64 (-1)), [.dead, .dead, .dead]))
     (L24_0 depth n2 n (IntKind.wrap .i64 (n1 + 1)) w R))))
  (R = ((i64 left), [.dead, .dead, .dead]))) : L24_0 depth left n n1 w R := by
  unfold L24_0
  refine cutL_rule (ann := A24) (mv := MV) mixed (by kernel_rfl) ?_
  all_goals revert h
  all_goals refine via ?_
  all_goals kernel_rfl
set_option maxRecDepth 100000 in
theorem f24 (w : W_tumbrelref04_Node) (depth : Int) (left : Int) (R : T × List T) (h : cond (decide ((60 : Int) < depth))
  (R = ((i64 (-1)), [.dead, .dead, .dead]))
  (cond (decide (((IntKind.wrap .i64 (left - 1)) : Int) < 0))
   (R = ((i64 (-1)), [.dead, .dead, .dead]))
   (cond (decide ((1000 : Int) < (((ByteArray.size w.fS) : Nat) : Int)))
    (R = ((i64 (-1)), [.dead, .dead, .dead]))
    (L24_0 depth (IntKind.wrap .i64 (left - 1)) (((List.length w.fParts) : Nat) : Int) 0 w R)))) : Rn 24 [w.t, (i64 depth), (i64 left)] R := by
  refine fn_rule (ann := A24) (mv := MV) (fz := true) mixed Try.func24 (c := B24) (by kernel_rfl) (by decide) ?_
  all_goals revert h
  all_goals refine via ?_
  all_goals kernel_rfl
end Go.Proofs.YthcaodlfnlhfbaaT
