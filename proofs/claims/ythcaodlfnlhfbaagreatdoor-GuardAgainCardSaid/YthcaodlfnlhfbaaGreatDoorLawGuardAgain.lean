/- The row of the law GuardAgain, and its card, the listed variables tied to the program's text: for every input the law returns true, and the input reads behind the call as it did. Conditions: the listed package-level variables hold what the program's text lays; none else beyond the given statement. -/
import Derived.Test.YthcaodlfnlhfbaaGreatDoorCards
import Derived.Test.YthcaodlfnlhfbaaGreatDoorTie
import Derived.Test.YthcaodlfnlhfbaaGreatDoorT25
import Derived.Test.YthcaodlfnlhfbaaGreatDoorM1
import Derived.Test.YthcaodlfnlhfbaaGreatDoorPureGuardBack
import Derived.Test.YthcaodlfnlhfbaaGreatDoorD
import Derived.WalkKit
import Derived.ProofKit
import Derived.OpenShut
import Derived.ShutString
import Derived.ChangeOld
import Derived.Below
import Derived.SizedLaws
import Derived.Carry
import Derived.Lay
import Derived.LaidOnce
import Derived.SevenTiedAt
import Derived.Lib.LaidU8
namespace Go.Proofs.YthcaodlfnlhfbaaGreatDoor.guardAgain
open Go.ChangeShapes Go.WideShapes Go.ChangeAt Go.RowKit Go.Proofs.YthcaodlfnlhfbaaGreatDoorT
open Go.ChangeMaps (open_string shut_string)
set_option linter.unusedVariables false
theorem own : ownKnob Tryz.prog.godebug = none := by kernel_rfl
theorem laidOut : laidOutB Tryz.prog = true := by kernel_rfl
def kids (P : Program) (t : TypeId) : List TypeId := match P.underlying t with
  | some (.slice e) => [e]
  | some (.struct fs) => fs.toList.map (·.type)
  | some (.array _ e) => [e]
  | _ => []
def clo (P : Program) : Nat → List TypeId → List TypeId → List TypeId
  | 0, _, seen => seen
  | n + 1, todo, seen => match todo with
    | [] => seen
    | t :: r => if seen.contains t then clo P n r seen else clo P n (r ++ kids P t) (seen ++ [t])
noncomputable def L : List TypeId := clo Tryz.prog 400 [9] []
theorem types : tyOk Tryz.prog L = true := by kernel_rfl
set_option maxRecDepth 100000 in
theorem lifted (os : Os) (started : os.Started) (H : Type) (enc : TypeId × Value → H) :
    ReturnsInHanded {} Tryz.checked os 4 .any (fun w args => (Rows.guardAgainSpec.pre enc Tryz.prog Tryz.f4 [] false w args ∧ laidMetH Tryz.prog Rows.guardAgainRow.laid w) ∧ sizedMet enc Tryz.prog Tryz.f4 (OpenSpec.ofChange Rows.guardAgainSpec) false w args) (Rows.guardAgainSpec.post enc Tryz.prog Tryz.f4 false true false false) := by
  refine returnsInHanded_of_change_and (C := Tryz.checked) (X := fun w _ => laidMetH Tryz.prog Rows.guardAgainRow.laid w) (fun _ _ _ hh h => h.of_heap hh) own started (by kernel_rfl) Tryz.func4
    (ChangeSpec.witness_shaped (enc := enc) (C := Tryz.checked) (os := os) (X := fun w _ => laidMetH Tryz.prog Rows.guardAgainRow.laid w) false (World.laidAll Tryz.prog os Rows.guardAgainRow.laid) #[((Tryz.prog.info? 9).bind (·.zero)).getD (.bool false)] 8 (World.laidAll_os _ _ _)
      (World.shaped_of_ZipB (by kernel_rfl) (by kernel_rfl)) (by kernel_rfl) (by kernel_rfl) (by kernel_rfl)
      (by rw [MakeChecks.laidMetH_plain _ _ _ (by kernel_rfl)]; exact laidMet_laidAll _ (by kernel_rfl) (by kernel_rfl))) ?_
  intro W base args ds gs before hval0 hW _ _ hL _
  have hval : ∀ (j : Nat) t v, Tryz.f4.params[j]? = some t → args[j]? = some v → Value.okWide Tryz.prog W .any base t v := hval0
  have hW' := hW
  obtain ⟨p, q, hA0, hV, rfl, _, _⟩ := hW
  have hA : DataW.TrodAll enc Tryz.prog W 0 (fun _ => true) true Tryz.f4.params.toList args.toList ds p := hA0
  rw [Tryz.params4] at hA hval
  obtain ⟨v0, vs0, d0, ds0, p0, q0, hargs, rfl, rfl, h0, r0⟩ := trodAll_cons hA
  obtain ⟨rfl, rfl, rfl⟩ := trodAll_nil r0
  obtain rfl : args = #[v0] := by cases args; simp_all
  obtain ⟨rfl, rfl⟩ := trodVars_none hV
  rw [MakeChecks.laidMetH_plain _ _ _ (by kernel_rfl)] at hL
  have hG := glob_laid (Lib.laidMet.reads hL (.tail _ (.tail _ (.head _)))) (Lib.laidMet.reads hL (.tail _ (.tail _ (.tail _ (.tail _ (.head _)))))) (Lib.laidMet.reads hL (.tail _ (.tail _ (.tail _ (.head _)))))
  have lt0 : ∀ x ∈ p0, x.block < W.heap.size := by obtain ⟨m, hm⟩ := h0; exact DataW.trod_lt m _ _ _ hm
  obtain ⟨n0, t0, y0, x0⟩ := open_arg types (t := 9) (by kernel_rfl) (hval 0 9 v0 rfl rfl) h0
  have hev := Go.Proofs.YthcaodlfnlhfbaaGreatDoorT.guardAgain_pure y0
  refine (row_calls hev (XL_cons x0 XL_nil) hG).mono fun e W' ⟨he, bel⟩ => ?_
  subst he
  exact ⟨_, rfl, _, _, _, [], _, [], hW', trodAll_mk1 (shut_bool Tryz.underlying4 _), (trodAll_cons_mk (Below.trod laidOut (by kernel_rfl) (of_decide_eq_true (by kernel_rfl)) h0 bel lt0) trodAll_mk0), rfl, bel.frame _, fun h => by cases h⟩
theorem over : Rows.guardAgainRow.holds Tryz.pinned (OpenSpec.ofChange Rows.guardAgainSpec) :=
  OpenClaim.holds_of_wide 4 Tryz.f4 rfl rfl rfl rfl rfl rfl rfl ⟨rfl, rfl, rfl, rfl, rfl⟩ rfl rfl rfl rfl rfl (by kernel_rfl) Tryz.func4 (by kernel_rfl)
    (of_decide_eq_true (by kernel_rfl)) (by unfold Func.isWrapper; first | (rw [if_pos (by decide +kernel)]; kernel_rfl) | (rw [if_neg (by decide +kernel)]; exact ⟨rfl, rfl⟩))
    (fun os started H enc _ => lifted os started H enc)
theorem card : Rows.GuardAgainCardSaid :=
  Claim7.holds_tied_plain_at .later [] [.data, .data, .data, .sentinel, .sentinel] true (true, "f578e8efe899e55096e493540b5d26e729986eb7543ea2bb69542d723e395ac3") true over (fun _ h => by cases h) (by kernel_rfl) (fun _ h => by cases h) guardAgain_row_tie rfl ⟨rfl, rfl⟩ (by kernel_rfl) rfl
    (fun f fn hf hfn => by
      obtain rfl : f = 4 := Option.some.inj ((show Tryz.prog.funcNamed "tumbrel/tumbrellaw05.GuardAgain" = some 4 by kernel_rfl).symm.trans hf) |>.symm
      obtain rfl : fn = Tryz.f4 := (Option.some.inj (Tryz.func4.symm.trans hfn)).symm
      exact ⟨by kernel_rfl, fun j t ht => by
        rw [Tryz.params4] at ht
        have hm : t ∈ [9] := by simpa using Array.mem_of_getElem? ht
        have hall : ([9].all fun u => !Tryz.prog.wantsStandIn u) = true := by kernel_rfl
        exact (show Tryz.prog.wantsStandIn t = false by simpa using List.all_eq_true.1 hall t hm)⟩)
    (by kernel_rfl)
#print axioms card
end Go.Proofs.YthcaodlfnlhfbaaGreatDoor.guardAgain
namespace Go.Proofs.YthcaodlfnlhfbaaGreatDoor
/-- The card, under a short name, for the claim. -/
theorem guardAgain_holds : Rows.GuardAgainCardSaid := guardAgain.card
end Go.Proofs.YthcaodlfnlhfbaaGreatDoor

