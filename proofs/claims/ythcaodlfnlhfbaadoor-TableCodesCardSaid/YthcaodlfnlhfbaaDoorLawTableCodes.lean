/- The row of the law TableCodes, and its card, the listed variables tied to the program's text: for every input the law returns true, and the input reads behind the call as it did. Conditions: the listed package-level variables hold what the program's text lays; none else beyond the given statement. -/
import Derived.Test.YthcaodlfnlhfbaaDoorCards
import Derived.Test.YthcaodlfnlhfbaaDoorTie
import Derived.Test.YthcaodlfnlhfbaaDoorT25
import Derived.Test.YthcaodlfnlhfbaaDoorX6
import Derived.Test.YthcaodlfnlhfbaaDoorPureTable
import Derived.Test.YthcaodlfnlhfbaaDoorD
import Derived.WalkKit
import Derived.ProofKit
import Derived.OpenShut
import Derived.ShutString
import Derived.ChangeOld
import Derived.Below
import Derived.SizedLaws
import Derived.Carry
import Derived.Lay
import Derived.LaidOnce
import Derived.SevenTiedAt
import Derived.Lib.LaidU8
namespace Go.Proofs.YthcaodlfnlhfbaaDoor.tableCodes
open Go.ChangeShapes Go.WideShapes Go.ChangeAt Go.RowKit Go.Proofs.YthcaodlfnlhfbaaDoorT
open Go.ChangeMaps (open_string shut_string)
set_option linter.unusedVariables false
theorem own : ownKnob Tryd.prog.godebug = none := by kernel_rfl
theorem laidOut : laidOutB Tryd.prog = true := by kernel_rfl
def kids (P : Program) (t : TypeId) : List TypeId := match P.underlying t with
  | some (.slice e) => [e]
  | some (.struct fs) => fs.toList.map (·.type)
  | some (.array _ e) => [e]
  | _ => []
def clo (P : Program) : Nat → List TypeId → List TypeId → List TypeId
  | 0, _, seen => seen
  | n + 1, todo, seen => match todo with
    | [] => seen
    | t :: r => if seen.contains t then clo P n r seen else clo P n (r ++ kids P t) (seen ++ [t])
noncomputable def L : List TypeId := clo Tryd.prog 400 [37, 38] []
theorem types : tyOk Tryd.prog L = true := by kernel_rfl
set_option maxRecDepth 100000 in
theorem lifted (os : Os) (started : os.Started) (H : Type) (enc : TypeId × Value → H) :
    ReturnsInHanded {} Tryd.checked os 6 .any (fun w args => (Rows.tableCodesSpec.pre enc Tryd.prog Tryd.f6 [] false w args ∧ laidMetH Tryd.prog Rows.tableCodesRow.laid w) ∧ sizedMet enc Tryd.prog Tryd.f6 (OpenSpec.ofChange Rows.tableCodesSpec) false w args) (Rows.tableCodesSpec.post enc Tryd.prog Tryd.f6 false true false false) := by
  refine returnsInHanded_of_change_and (C := Tryd.checked) (X := fun w _ => laidMetH Tryd.prog Rows.tableCodesRow.laid w) (fun _ _ _ hh h => h.of_heap hh) own started (by kernel_rfl) Tryd.func6
    (ChangeSpec.witness_shaped (enc := enc) (C := Tryd.checked) (os := os) (X := fun w _ => laidMetH Tryd.prog Rows.tableCodesRow.laid w) false (World.laidAll Tryd.prog os Rows.tableCodesRow.laid) #[((Tryd.prog.info? 37).bind (·.zero)).getD (.bool false), ((Tryd.prog.info? 38).bind (·.zero)).getD (.bool false)] 8 (World.laidAll_os _ _ _)
      (World.shaped_of_ZipB (by kernel_rfl) (by kernel_rfl)) (by kernel_rfl) (by kernel_rfl) (by kernel_rfl)
      (by rw [MakeChecks.laidMetH_plain _ _ _ (by kernel_rfl)]; exact laidMet_laidAll _ (by kernel_rfl) (by kernel_rfl))) ?_
  intro W base args ds gs before hval0 hW _ _ hL _
  have hval : ∀ (j : Nat) t v, Tryd.f6.params[j]? = some t → args[j]? = some v → Value.okWide Tryd.prog W .any base t v := hval0
  have hW' := hW
  obtain ⟨p, q, hA0, hV, rfl, _, _⟩ := hW
  have hA : DataW.TrodAll enc Tryd.prog W 0 (fun _ => true) true Tryd.f6.params.toList args.toList ds p := hA0
  rw [Tryd.params6] at hA hval
  obtain ⟨v0, vs0, d0, ds0, p0, q0, hargs, rfl, rfl, h0, r0⟩ := trodAll_cons hA
  obtain ⟨v1, vs1, d1, ds1, p1, q1, rfl, rfl, rfl, h1, r1⟩ := trodAll_cons r0
  obtain ⟨rfl, rfl, rfl⟩ := trodAll_nil r1
  obtain rfl : args = #[v0, v1] := by cases args; simp_all
  obtain ⟨rfl, rfl⟩ := trodVars_none hV
  rw [MakeChecks.laidMetH_plain _ _ _ (by kernel_rfl)] at hL
  have hG := glob_laid (Lib.laidMet.reads hL (.tail _ (.head _))) (Lib.laidMet.reads hL (.head _))
  have lt0 : ∀ x ∈ p0, x.block < W.heap.size := by obtain ⟨m, hm⟩ := h0; exact DataW.trod_lt m _ _ _ hm
  obtain ⟨n0, t0, y0, x0⟩ := open_arg types (t := 37) (by kernel_rfl) (hval 0 37 v0 rfl rfl) h0
  have lt1 : ∀ x ∈ p1, x.block < W.heap.size := by obtain ⟨m, hm⟩ := h1; exact DataW.trod_lt m _ _ _ hm
  obtain ⟨n1, t1, y1, x1⟩ := open_arg types (t := 38) (by kernel_rfl) (hval 1 38 v1 rfl rfl) h1
  have hev := Go.Proofs.YthcaodlfnlhfbaaDoorT.tableCodes_pure y0 y1
  refine (row_calls hev (XL_cons x0 (XL_cons x1 XL_nil)) hG).mono fun e W' ⟨he, bel⟩ => ?_
  subst he
  exact ⟨_, rfl, _, _, _, [], _, [], hW', trodAll_mk1 (shut_bool Tryd.underlying4 _), (trodAll_cons_mk (Below.trod laidOut (by kernel_rfl) (of_decide_eq_true (by kernel_rfl)) h0 bel lt0) (trodAll_cons_mk (Below.trod laidOut (by kernel_rfl) (of_decide_eq_true (by kernel_rfl)) h1 bel lt1) trodAll_mk0)), rfl, bel.frame _, fun h => by cases h⟩
theorem over : Rows.tableCodesRow.holds Tryd.pinned (OpenSpec.ofChange Rows.tableCodesSpec) :=
  OpenClaim.holds_of_wide 6 Tryd.f6 rfl rfl rfl rfl rfl rfl rfl ⟨rfl, rfl, rfl, rfl, rfl⟩ rfl rfl rfl rfl rfl (by kernel_rfl) Tryd.func6 (by kernel_rfl)
    (of_decide_eq_true (by kernel_rfl)) (by unfold Func.isWrapper; first | (rw [if_pos (by decide +kernel)]; kernel_rfl) | (rw [if_neg (by decide +kernel)]; exact ⟨rfl, rfl⟩))
    (fun os started H enc _ => lifted os started H enc)
theorem card : Rows.TableCodesCardSaid :=
  Claim7.holds_tied_plain_at .later [] [.data, .pinned] true (true, "47a81c2ca1dac4c19d7bf74b359d29b21512a8e170be8fefb8c8866afeb583a8") true over (fun _ h => by cases h) (by kernel_rfl) (fun _ h => by cases h) tableCodes_row_tie rfl ⟨rfl, rfl⟩ (by kernel_rfl) rfl
    (fun f fn hf hfn => by
      obtain rfl : f = 6 := Option.some.inj ((show Tryd.prog.funcNamed "tumbrel/tumbrellaw12.TableCodes" = some 6 by kernel_rfl).symm.trans hf) |>.symm
      obtain rfl : fn = Tryd.f6 := (Option.some.inj (Tryd.func6.symm.trans hfn)).symm
      exact ⟨by kernel_rfl, fun j t ht => by
        rw [Tryd.params6] at ht
        have hm : t ∈ [37, 38] := by simpa using Array.mem_of_getElem? ht
        have hall : ([37, 38].all fun u => !Tryd.prog.wantsStandIn u) = true := by kernel_rfl
        exact (show Tryd.prog.wantsStandIn t = false by simpa using List.all_eq_true.1 hall t hm)⟩)
    (by kernel_rfl)
#print axioms card
end Go.Proofs.YthcaodlfnlhfbaaDoor.tableCodes
namespace Go.Proofs.YthcaodlfnlhfbaaDoor
/-- The card, under a short name, for the claim. -/
theorem tableCodes_holds : Rows.TableCodesCardSaid := tableCodes.card
end Go.Proofs.YthcaodlfnlhfbaaDoor

