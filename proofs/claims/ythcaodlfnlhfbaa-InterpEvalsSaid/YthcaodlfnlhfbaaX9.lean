/- expr.Refs: the names are collected in a map by a closure that calls itself. -/
import Derived.Test.YthcaodlfnlhfbaaX8
import Derived.Maps.Own
import Derived.Maps.OwnSet
import Derived.Maps.Views
import Derived.Maps.AppendAt
import Derived.OneCell
import Derived.WalkKit
namespace Go.Proofs.YthcaodlfnlhfbaaT
open Go Go.Proofs Go.RowKit Go.Maps
set_option linter.unusedVariables false
abbrev DU := DataW Unit
def kyOf (s : ByteArray) : Lit := .string s.data.toList
def Dn (l : List ByteArray) : DU := setOf (.lit (.bool true)) (l.map kyOf)
theorem Dn_snoc (l : List ByteArray) (s : ByteArray) : (Dn l).put (kyOf s) (.lit (.bool true)) = Dn (l ++ [s]) := by
  unfold Dn
  rw [List.map_append, List.map_cons, List.map_nil, setOf_snoc]
abbrev pt (b : Nat) : Value := .pointer (some ⟨b, 0, none⟩)
/-- What is there while the names are collected. -/
structure I65 (w : World) (bn bw mb n : Nat) (l : List ByteArray) : Prop where
  gl : Glob w (fun k => k < w.heap.size)
  hn : w.heap[bn]? = some (.cells #[.map (some mb)] 113 (0, 0))
  hw : w.heap[bw]? = some (.cells #[.func (.func 41) #[] #[pt bn, pt bw]] 87 (0, 0))
  hm : w.ownsMap Try.prog 9 (plainElem (H := Unit) Try.prog 4) mb n (Dn l)
theorem I65.below {w w' : World} {bn bw mb n : Nat} {l : List ByteArray} (h : I65 w bn bw mb n l) (b : Below w.heap.size w w') : I65 w' bn bw mb n l where
  gl := h.gl.mono fun k hk => ⟨Nat.lt_of_lt_of_le hk b.size, b.block k hk⟩
  hn := (b.block _ (lt_of_block h.hn)).trans h.hn
  hw := (b.block _ (lt_of_block h.hw)).trans h.hw
  hm := by
    have := h.hm.lt
    obtain ⟨es, cl, h1, h2⟩ := h.hm
    exact ⟨es, cl, (b.block _ this).trans h1, h2⟩
theorem ne_map {w : World} {b mb n : Nat} {l : List ByteArray} {cs : Array Value} {t : TypeId} {z : Nat × Nat} (h : w.heap[b]? = some (.cells cs t z)) (hm : w.ownsMap Try.prog 9 (plainElem (H := Unit) Try.prog 4) mb n (Dn l)) : some b ≠ some mb := by
  intro e
  obtain ⟨es, cl, h1, _⟩ := hm
  rw [← Option.some.inj e, h] at h1
  simp at h1
theorem I65.grown {w w' : World} {bn bw mb n n' : Nat} {l l' : List ByteArray} (h : I65 w bn bw mb n l) (g : w.grownBy w' (some mb)) (hm : w'.ownsMap Try.prog 9 (plainElem (H := Unit) Try.prog 4) mb n' (Dn l')) : I65 w' bn bw mb n' l' where
  gl := by
    intro e he
    obtain ⟨h1, cs, t, z, h2, h3⟩ := h.gl e he
    exact ⟨Nat.lt_of_lt_of_le h1 g.size, cs, t, z, (g.block _ h1 (ne_map h2 h.hm)).trans h2, h3⟩
  hn := (g.block _ (lt_of_block h.hn) (ne_map h.hn h.hm)).trans h.hn
  hw := (g.block _ (lt_of_block h.hw) (ne_map h.hw h.hm)).trans h.hw
  hm := hm
theorem grown_of_below {w w' : World} {row : Option Nat} (b : Below w.heap.size w w') : w.grownBy w' row := ⟨b.os, b.tape, b.output, b.size, fun k hk _ => b.block k hk⟩
def W65 (x : E) : Prop := ∀ (w : World) (bn bw mb n : Nat) (l : List ByteArray), I65 w bn bw mb n l → n + x.names.length < maxLen →
  Calls Try.prog 41 #[x.val, pt bn, pt bw] w fun e w' => e = .returned (.tuple #[]) ∧ I65 w' bn bw mb (n + x.names.length) (l ++ x.names) ∧ w.grownBy w' (some mb)
theorem law9 : Keyed Try.prog 9 := string_keyed Try.underlying9
theorem taN {t : TypeId} (ht : t ≠ 92) (v : Value) (w : World) : (Instr.typeAssert (.iface t v) 56 92 true).run Try.prog w = .ok (.tuple #[.agg #[.string { data := #[] }], .bool false]) w :=
  ((run_assert (P := Try.prog) (xt := 56) (v := v) (w := w) (tt := t) Try.underlying92 (by simp)).2 _ (Try.zeroValue92 w)).1 ht
theorem ta0 (w : World) : (Instr.typeAssert .nilIface 56 92 true).run Try.prog w = .ok (.tuple #[.agg #[.string { data := #[] }], .bool false]) w :=
  ((run_assert (P := Try.prog) (xt := 56) (v := .nilIface) (w := w) (tt := 0) Try.underlying92 (by simp)).2 _ (Try.zeroValue92 w)).2
theorem ta96 (v : Value) (w : World) : (Instr.typeAssert (.iface 92 v) 56 92 true).run Try.prog w = .ok (.tuple #[v, .bool true]) w :=
  (run_assert (P := Try.prog) (xt := 56) (v := v) (w := w) (tt := 92) Try.underlying92 (by simp)).1 true rfl
end Go.Proofs.YthcaodlfnlhfbaaT
