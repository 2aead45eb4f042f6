/- The row of the law SagaSame: for every input it returns true, and the input reads behind the call as it did. Conditions: none beyond the given statement. -/
import Derived.Test.YthcaodlfnlhfbaaRows
import Derived.Test.YthcaodlfnlhfbaaT25
import Derived.Test.YthcaodlfnlhfbaaPureSagaSame
import Derived.WalkKit
import Derived.ProofKit
import Derived.OpenShut
import Derived.ShutString
import Derived.ChangeOld
import Derived.Below
import Derived.SizedLaws
import Derived.Carry
namespace Go.Proofs.Ythcaodlfnlhfbaa.sagaSame
open Go.ChangeShapes Go.WideShapes Go.ChangeAt Go.RowKit Go.Proofs.YthcaodlfnlhfbaaT
open Go.ChangeMaps (open_string shut_string)
set_option linter.unusedVariables false
theorem own : ownKnob Try.prog.godebug = none := by kernel_rfl
theorem laidOut : laidOutB Try.prog = true := by kernel_rfl
def kids (P : Program) (t : TypeId) : List TypeId := match P.underlying t with
  | some (.slice e) => [e]
  | some (.struct fs) => fs.toList.map (·.type)
  | some (.array _ e) => [e]
  | _ => []
def clo (P : Program) : Nat → List TypeId → List TypeId → List TypeId
  | 0, _, seen => seen
  | n + 1, todo, seen => match todo with
    | [] => seen
    | t :: r => if seen.contains t then clo P n r seen else clo P n (r ++ kids P t) (seen ++ [t])
noncomputable def L : List TypeId := clo Try.prog 400 [27, 33] []
theorem types : tyOk Try.prog L = true := by kernel_rfl
set_option maxRecDepth 100000 in
theorem lifted (os : Os) (started : os.Started) (H : Type) (enc : TypeId × Value → H) :
    ReturnsInHanded {} Try.checked os 3 .any (Rows.sagaSameSpec.pre6 enc Try.prog Try.f3 Rows.sagaSameRow.domain false) (Rows.sagaSameSpec.post enc Try.prog Try.f3 false true false false) := by
  refine returnsInHanded_of_change_sized (C := Try.checked) own started (by kernel_rfl) Try.func3
    (ChangeSpec.witness6 (enc := enc) (C := Try.checked) false ⟨#[], #[((Try.prog.info? 27).bind (·.zero)).getD (.bool false), ((Try.prog.info? 33).bind (·.zero)).getD (.bool false), ((Try.prog.info? 33).bind (·.zero)).getD (.bool false)], []⟩ 8 (by kernel_rfl) (by kernel_rfl) (by kernel_rfl) (by kernel_rfl)) ?_
  intro W base args ds gs before hval0 hW hcnd hsz0 _
  have hval : ∀ (j : Nat) t v, Try.f3.params[j]? = some t → args[j]? = some v → Value.okWide Try.prog W .any base t v := hval0
  have hW' := hW
  obtain ⟨p, q, hA0, hV, rfl, hfz, hnd⟩ := hW
  have hA : DataW.TrodAll enc Try.prog W 0 (fun _ => true) true Try.f3.params.toList args.toList ds p := hA0
  rw [Try.params3] at hA hval
  obtain ⟨v0, vs0, d0, ds0, p0, q0, hargs, rfl, rfl, h0, r0⟩ := trodAll_cons hA
  obtain ⟨v1, vs1, d1, ds1, p1, q1, rfl, rfl, rfl, h1, r1⟩ := trodAll_cons r0
  obtain ⟨v2, vs2, d2, ds2, p2, q2, rfl, rfl, rfl, h2, r2⟩ := trodAll_cons r1
  obtain ⟨rfl, rfl, rfl⟩ := trodAll_nil r2
  obtain rfl : args = #[v0, v1, v2] := by cases args; simp_all
  obtain ⟨rfl, rfl⟩ := trodVars_none hV
  have lt0 : ∀ x ∈ p0, x.block < W.heap.size := by obtain ⟨m, hm⟩ := h0; exact DataW.trod_lt m _ _ _ hm
  obtain ⟨n0, t0, y0, x0⟩ := open_arg types (t := 27) (by kernel_rfl) (hval 0 27 v0 rfl rfl) h0
  have lt1 : ∀ x ∈ p1, x.block < W.heap.size := by obtain ⟨m, hm⟩ := h1; exact DataW.trod_lt m _ _ _ hm
  obtain ⟨n1, t1, y1, x1⟩ := open_arg types (t := 33) (by kernel_rfl) (hval 1 33 v1 rfl rfl) h1
  have lt2 : ∀ x ∈ p2, x.block < W.heap.size := by obtain ⟨m, hm⟩ := h2; exact DataW.trod_lt m _ _ _ hm
  obtain ⟨n2, t2, y2, x2⟩ := open_arg types (t := 33) (by kernel_rfl) (hval 2 33 v2 rfl rfl) h2
  obtain ⟨outs, hev⟩ := Go.Proofs.YthcaodlfnlhfbaaT.sagaSame_pure n0 t0 n1 t1 n2 t2 y0 y1 y2
  refine (row_calls hev (XL_cons x0 (XL_cons x1 (XL_cons x2 XL_nil)))).mono fun e W' ⟨he, bel⟩ => ?_
  subst he
  exact ⟨_, rfl, _, _, _, [], _, [], hW', trodAll_mk1 (shut_bool Try.underlying4 _), (trodAll_cons_mk (Below.trod laidOut (by kernel_rfl) (of_decide_eq_true (by kernel_rfl)) h0 bel lt0) (trodAll_cons_mk (Below.trod laidOut (by kernel_rfl) (of_decide_eq_true (by kernel_rfl)) h1 bel lt1) (trodAll_cons_mk (Below.trod laidOut (by kernel_rfl) (of_decide_eq_true (by kernel_rfl)) h2 bel lt2) trodAll_mk0))), rfl, bel.frame _, fun h => by cases h⟩
theorem over : Rows.sagaSameRow.holds Try.pinned (OpenSpec.ofChange Rows.sagaSameSpec) :=
  OpenClaim.holds_of_wide 3 Try.f3 rfl rfl rfl rfl rfl rfl rfl ⟨rfl, rfl, rfl, rfl, rfl⟩ rfl rfl rfl rfl rfl (by kernel_rfl) Try.func3 (by kernel_rfl)
    (of_decide_eq_true (by kernel_rfl)) (by unfold Func.isWrapper; first | (rw [if_pos (by decide +kernel)]; kernel_rfl) | (rw [if_neg (by decide +kernel)]; exact ⟨rfl, rfl⟩))
    (fun os started H enc _ => lifted os started H enc)
theorem proved : Rows.SagaSameSaid := over
#print axioms proved
end Go.Proofs.Ythcaodlfnlhfbaa.sagaSame
namespace Go.Proofs.Ythcaodlfnlhfbaa
/-- The row, under a short name, for the claim. -/
theorem sagaSame_holds : Rows.SagaSameSaid := sagaSame.proved
end Go.Proofs.Ythcaodlfnlhfbaa

