/- The row of the law ShowPrints, and its card, the listed variables tied to the program's text: for every input the law returns true, and the input reads behind the call as it did. Conditions: the listed package-level variables hold what the program's text lays; none else beyond the given statement. -/
import Derived.Test.YtfknpnkdedckhaaGreatDoorCards
import Derived.Test.YtfknpnkdedckhaaGreatDoorTie
import Derived.Test.YtfknpnkdedckhaaGreatDoorT25
import Derived.Test.YtfknpnkdedckhaaGreatDoorM1
import Derived.Test.YtfknpnkdedckhaaGreatDoorPureShowPrints
import Derived.Test.YtfknpnkdedckhaaGreatDoorD
import Derived.Test.YtfknpnkdedckhaaGreatDoorLawAShowPrints
import Derived.Test.YtfknpnkdedckhaaGreatDoorLawBShowPrints
import Derived.WalkKit
import Derived.ProofKit
import Derived.OpenShut
import Derived.ShutString
import Derived.ChangeOld
import Derived.Below
import Derived.SizedLaws
import Derived.Carry
import Derived.Lay
import Derived.LaidOnce
import Derived.SevenTiedAt
import Derived.Lib.LaidU8
namespace Go.Proofs.YtfknpnkdedckhaaGreatDoor.showPrints
open Go.ChangeShapes Go.WideShapes Go.ChangeAt Go.RowKit Go.Proofs.YtfknpnkdedckhaaGreatDoorT
open Go.ChangeMaps (open_string shut_string)
set_option linter.unusedVariables false
theorem own : ownKnob Tryz.prog.godebug = none := by kernel_rfl
theorem laidOut : laidOutB Tryz.prog = true := by kernel_rfl
def kids (P : Program) (t : TypeId) : List TypeId := match P.underlying t with
  | some (.slice e) => [e]
  | some (.struct fs) => fs.toList.map (·.type)
  | some (.array _ e) => [e]
  | _ => []
def clo (P : Program) : Nat → List TypeId → List TypeId → List TypeId
  | 0, _, seen => seen
  | n + 1, todo, seen => match todo with
    | [] => seen
    | t :: r => if seen.contains t then clo P n r seen else clo P n (r ++ kids P t) (seen ++ [t])
noncomputable def L : List TypeId := clo Tryz.prog 400 [27] []
theorem types : tyOk Tryz.prog L = true := by kernel_rfl
set_option maxRecDepth 100000 in
theorem lifted (os : Os) (started : os.Started) (H : Type) (enc : TypeId × Value → H) :
    ReturnsInHanded {} Tryz.checked os 7 .any (fun w args => (Rows.showPrintsSpec.pre enc Tryz.prog Tryz.f7 [] false w args ∧ laidMetH Tryz.prog Rows.showPrintsRow.laid w) ∧ sizedMet enc Tryz.prog Tryz.f7 (OpenSpec.ofChange Rows.showPrintsSpec) false w args) (Rows.showPrintsSpec.post enc Tryz.prog Tryz.f7 false true false false) := by
  refine returnsInHanded_of_change_and (C := Tryz.checked) (X := fun w _ => laidMetH Tryz.prog Rows.showPrintsRow.laid w) (fun _ _ _ hh h => h.of_heap hh) own started (by kernel_rfl) Tryz.func7
    (ChangeSpec.witness_shaped (enc := enc) (C := Tryz.checked) (os := os) (X := fun w _ => laidMetH Tryz.prog Rows.showPrintsRow.laid w) false (World.laidAll Tryz.prog os Rows.showPrintsRow.laid) #[((Tryz.prog.info? 27).bind (·.zero)).getD (.bool false)] 8 (World.laidAll_os _ _ _)
      (World.shaped_of_ZipB (by kernel_rfl) (by kernel_rfl)) (by kernel_rfl) (by kernel_rfl) (by kernel_rfl)
      (by rw [MakeChecks.laidMetH_plain _ _ _ (by kernel_rfl)]; exact laidMet_laidAll _ (by kernel_rfl) (by kernel_rfl))) ?_
  intro W base args ds gs before hval0 hW _ hSz hL _
  have hval : ∀ (j : Nat) t v, Tryz.f7.params[j]? = some t → args[j]? = some v → Value.okWide Tryz.prog W .any base t v := hval0
  have hW' := hW
  obtain ⟨p, q, hA0, hV, rfl, _, _⟩ := hW
  have hA : DataW.TrodAll enc Tryz.prog W 0 (fun _ => true) true Tryz.f7.params.toList args.toList ds p := hA0
  rw [Tryz.params7] at hA hval
  obtain ⟨v0, vs0, d0, ds0, p0, q0, hargs, rfl, rfl, h0, r0⟩ := trodAll_cons hA
  obtain ⟨rfl, rfl, rfl⟩ := trodAll_nil r0
  obtain rfl : args = #[v0] := by cases args; simp_all
  obtain ⟨rfl, rfl⟩ := trodVars_none hV
  rw [MakeChecks.laidMetH_plain _ _ _ (by kernel_rfl)] at hL
  have hG := glob_laid (Lib.laidMet.reads hL (.tail _ (.tail _ (.tail _ (.tail _ (.tail _ (.tail _ (.head _)))))))) (Lib.laidMet.reads hL (.tail _ (.tail _ (.tail _ (.head _))))) (Lib.laidMet.reads hL (.tail _ (.tail _ (.head _)))) (Lib.laidMet.reads hL (.tail _ (.tail _ (.tail _ (.tail _ (.tail _ (.head _))))))) (Lib.laidMet.reads hL (.tail _ (.tail _ (.tail _ (.tail _ (.head _))))))
  have lt0 : ∀ x ∈ p0, x.block < W.heap.size := by obtain ⟨m, hm⟩ := h0; exact DataW.trod_lt m _ _ _ hm
  obtain ⟨n0, t0, y0, x0⟩ := open_arg types (t := 27) (by kernel_rfl) (hval 0 27 v0 rfl rfl) h0 (fun k hk => by have hz := List.all_eq_true.1 hSz k (DataW.weights_mem_each (j := 0) (by rw [Tryz.params7]; rfl) rfl k hk); simpa using hz)
  have hev := Go.Proofs.YtfknpnkdedckhaaGreatDoorT.showPrints_pure y0
  refine (row_calls hev (XL_cons x0 XL_nil) hG).mono fun e W' ⟨he, bel⟩ => ?_
  subst he
  exact ⟨_, rfl, _, _, _, [], _, [], hW', trodAll_mk1 (shut_bool Tryz.underlying4 _), (trodAll_cons_mk (Below.trod laidOut (by kernel_rfl) (of_decide_eq_true (by kernel_rfl)) h0 bel lt0) trodAll_mk0), rfl, bel.frame _, fun h => by cases h⟩
theorem aa {a b : Bool} (h : a = true) (h' : b = true) : (a && b) = true := by rw [h, h']; rfl
set_option maxRecDepth 1000000 in
theorem joined : joinedFacts Tryz.pinned.checked.prog 7 Tryz.f7 Rows.showPrintsSpec Rows.showPrintsRow = true := (aa (aa (aa (aa (aa (aa (aa (aa (aa (aa (aa (aa (aa (aa (aa (aa (aa (aa (aa (aa (aa (aa (aa (aa (aa (aa (aa (aa (aa (aa (aa j0 j1) j2) j3) j4) j5) j6) j7) j8) j9) j10) j11) j12) j13) j14) j15) j16) j17) j18) j19) j20) j21) j22) j23) j24) j25) j26) j27) j28) j29) j30) j31)
theorem over : Rows.showPrintsRow.holds Tryz.pinned (OpenSpec.ofChange Rows.showPrintsSpec) :=
  OpenClaim.holds_of_wide 7 Tryz.f7 rfl rfl rfl rfl rfl rfl rfl ⟨rfl, rfl, rfl, rfl, rfl⟩ rfl rfl rfl rfl rfl k1 Tryz.func7 joined k2 k3
    (fun os started H enc _ => lifted os started H enc)
theorem card : Rows.ShowPrintsCardSaid :=
  Claim7.holds_tied_plain_at .later [] [.data, .data, .data, .data, .sentinel, .sentinel, .pinned] true (true, "cf8681e3ebd6a9356f5abc332886b7654c14603ff7b109931657916136fc0184") true over (fun _ h => by cases h) k4 (fun _ h => by cases h) showPrints_row_tie rfl ⟨rfl, rfl⟩ k5 rfl
    (fun f fn hf hfn => by
      obtain rfl : f = 7 := Option.some.inj (k1.symm.trans hf) |>.symm
      obtain rfl : fn = Tryz.f7 := (Option.some.inj (Tryz.func7.symm.trans hfn)).symm
      exact ⟨k6, fun j t ht => by
        rw [Tryz.params7] at ht
        have hm : t ∈ [27] := by simpa using Array.mem_of_getElem? ht
        have hall : ([27].all fun u => !Tryz.prog.wantsStandIn u) = true := by kernel_rfl
        exact (show Tryz.prog.wantsStandIn t = false by simpa using List.all_eq_true.1 hall t hm)⟩)
    k7
#print axioms card
end Go.Proofs.YtfknpnkdedckhaaGreatDoor.showPrints
namespace Go.Proofs.YtfknpnkdedckhaaGreatDoor
/-- The card, under a short name, for the claim. -/
theorem showPrints_holds : Rows.ShowPrintsCardSaid := showPrints.card
end Go.Proofs.YtfknpnkdedckhaaGreatDoor
