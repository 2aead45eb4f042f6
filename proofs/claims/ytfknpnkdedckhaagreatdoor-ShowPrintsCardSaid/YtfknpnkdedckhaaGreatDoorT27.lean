/- The interpreter over trees: a function that was walked by hand, or by the guide's shelf, at plain arguments. -/
import Derived.Test.YtfknpnkdedckhaaGreatDoorT26
import Derived.Test.YtfknpnkdedckhaaGreatDoorT24
namespace Go.Proofs.YtfknpnkdedckhaaGreatDoorT
open Go Go.RowKit
set_option linter.unusedVariables false
/-- Plain results: values without an address. -/
def flatS (x : T) : Prop := ∃ u, x = .s u ∧ plainV u = true
theorem X_s {w : World} {ok : Nat → Prop} {u : Value} (h : plainV u = true) : RepX w ok (.s u) u [] := ⟨rfl, .s h⟩
theorem XL_s {w : World} {ok : Nat → Prop} : ∀ {us : List Value}, (∀ u ∈ us, plainV u = true) → RepXL w ok (us.map .s) us []
  | [], _ => ⟨rfl, rfl⟩
  | u :: us, h => ⟨u, us, [], [], rfl, rfl, X_s (h u (List.mem_cons_self ..)), XL_s (fun v hv => h v (List.mem_cons_of_mem _ hv))⟩
theorem XL_s_inv {w : World} {ok : Nat → Prop} : ∀ {us vs : List Value} {b : List Nat}, RepXL w ok (us.map .s) vs b → vs = us ∧ b = []
  | [], vs, b, h => ⟨h.1, h.2⟩
  | u :: us, vs, b, ⟨v, vs', b1, b2, e1, e2, ⟨h1, h2⟩, h3⟩ => by
    obtain ⟨rfl, rfl⟩ := XL_s_inv h3
    subst e1 e2 h1
    cases h2
    exact ⟨rfl, rfl⟩
theorem XL_dead {w : World} {ok : Nat → Prop} : ∀ {us : List Value}, RepXL w ok (us.map fun _ => T.dead) us []
  | [] => ⟨rfl, rfl⟩
  | u :: us => ⟨u, us, [], [], rfl, rfl, rfl, XL_dead⟩
/-- What is told of a call at plain arguments: nothing that was there has turned; the result has no address of what is one's own. -/
theorem runs_of_calls {P : Program} {f : FuncId} {us : List Value} {res : T} (he : Enters P f) (hp : ∀ u ∈ us, plainV u = true)
    (h : ∀ w : World, Glob w (fun k => k < w.heap.size) → Calls P f us.toArray w (fun e w' => Below w.heap.size w w' ∧ ∃ v, e = .returned v ∧ ∀ ok, RepX w' ok res v [])) : Runs P f (us.map .s) (res, us.map fun _ => .dead) := by
  refine ⟨he, fun w ok vals b hx hnd hb hok hG => ?_⟩
  obtain ⟨rfl, rfl⟩ := XL_s_inv hx
  refine (h w (hG.mono fun k hk => ⟨hok k hk, rfl⟩)).mono ?_
  rintro e w' ⟨hbel, v, rfl, hr⟩
  exact ⟨v, [], [], rfl, .nil, by simp, ⟨hbel.os, hbel.tape, hbel.output, hbel.size, fun k hk _ => hbel.block k hk⟩, hr _, XL_dead⟩
/-- A pair. -/
theorem X_pair {w : World} {ok : Nat → Prop} {x y : T} {u v : Value} (hx : RepX w ok x u []) (hy : RepX w ok y v []) : RepX w ok (.tup [x, y]) (.tuple #[u, v]) [] :=
  ⟨[u, v], rfl, u, [v], [], [], rfl, rfl, hx, v, [], [], [], rfl, rfl, hy, rfl, rfl⟩
/-- nil of an interface. -/
theorem X_nilI {w : World} {ok : Nat → Prop} : RepX w ok nilI .nilIface [] := ⟨rfl, .ifn⟩
/-- An interface value, not looked into. -/
theorem X_if {w : World} {ok : Nat → Prop} {t : TypeId} (h : t ≠ 0) (u : Value) : RepX w ok (.ifc t .dead) (.iface t u) [] := ⟨rfl, .ifc h .dead⟩
/-- A variable's cells. -/
theorem glob_at {w : World} {ok : Nat → Prop} (h : Glob w ok) {g : Nat} {p : Array Value → Prop} (hm : (g, p) ∈ GL) : ∃ (cs : Array Value) (t : TypeId) (z : Nat × Nat), w.heap[g]? = some (.cells cs t z) ∧ p cs := (h _ hm).2
theorem cell_at {w : World} {g : Nat} {cs : Array Value} {t : TypeId} {z : Nat × Nat} (h : w.heap[g]? = some (.cells cs t z)) (i : Nat) : w.cell? ⟨g, i, none⟩ = cs[i]? := by
  simp [World.cell?, h]
end Go.Proofs.YtfknpnkdedckhaaGreatDoorT
