/- expr.Refs' closure: its walks. -/
import Derived.Test.YthcaodlfnlhfbaaX9
import Derived.RangeFuncOwn
import Derived.StringKeys
namespace Go.Proofs.YthcaodlfnlhfbaaT
open Go Go.Proofs Go.RowKit Go.Maps
set_option linter.unusedVariables false
theorem cell_kept' {w w' : World} {mb n : Nat} {l : List ByteArray} {a : Addr} {v : Value} (h : w.cell? a = some v) (g : w.grownBy w' (some mb)) (hm : w.ownsMap Try.prog 9 (plainElem (H := Unit) Try.prog 4) mb n (Dn l)) : w'.cell? a = some v := by
  obtain ⟨es, cl, h1, _⟩ := hm
  exact cell_kept h g fun r hr => ⟨.map es cl, by rw [← Option.some.inj hr]; exact h1, rfl⟩
set_option maxRecDepth 100000 in
set_option maxHeartbeats 4000000 in
theorem w65_not (y : E) (ih : W65 y) : W65 (.not y) := by
  intro w bn bw mb n l hI hn
  have cN := cell_of_one hI.hn
  have cW := cell_of_one hI.hw
  have hta := taN (t := 94) (by decide)
  simp only [E.val]
  go_enter Try.func41, Try.ntmps41
  go_wp2_with fail
  have b0 : Below w.heap.size w (w.alloc (Obj.cells #[Value.string { data := #[] }] 92)) := (Below.refl _ _).alloc (Nat.le_refl _) _
  have hI0 := hI.below b0
  refine (ops_calls (.not y) _ hI0.gl).mono ?_
  rintro e w1 ⟨hb, A, c, rfl, ho⟩
  have b1 : Below w.heap.size w w1 := b0.trans (hb.mono (by simp))
  have hI1 := hI.below b1
  simp only [E.ops, List.length_cons, List.length_nil, Nat.zero_add] at ho ⊢
  obtain ⟨⟨blk, off, sp⟩, rfl, hsp, hlt, hcell⟩ := ho.resolve_left (by simp)
  simp only at hsp hlt hcell
  subst hsp
  have c0 : w1.cell? ⟨blk, off, none⟩ = some y.val := by simpa using hcell 0 y rfl
  have cN1 := cell_of_one hI1.hn
  have cW1 := cell_of_one hI1.hw
  go_wp2
  refine wp_loop_rounds 2 ?_
  rw [rounds_succ]
  go_wp2_with fail
  simp only [E.names] at hn ⊢
  refine (ih w1 bn bw mb n l hI1 hn).mono ?_
  rintro e w2 ⟨rfl, hI2, g2⟩
  go_wp2
  rw [rounds_succ]
  go_wp2
  go_end0
  exact ⟨rfl, hI2, (grown_of_below b1).trans g2⟩
set_option maxRecDepth 100000 in
set_option maxHeartbeats 4000000 in
theorem w65_neg (y : E) (ih : W65 y) : W65 (.neg y) := by
  intro w bn bw mb n l hI hn
  have cN := cell_of_one hI.hn
  have cW := cell_of_one hI.hw
  have hta := taN (t := 95) (by decide)
  simp only [E.val]
  go_enter Try.func41, Try.ntmps41
  go_wp2_with fail
  have b0 : Below w.heap.size w (w.alloc (Obj.cells #[Value.string { data := #[] }] 92)) := (Below.refl _ _).alloc (Nat.le_refl _) _
  have hI0 := hI.below b0
  refine (ops_calls (.neg y) _ hI0.gl).mono ?_
  rintro e w1 ⟨hb, A, c, rfl, ho⟩
  have b1 : Below w.heap.size w w1 := b0.trans (hb.mono (by simp))
  have hI1 := hI.below b1
  simp only [E.ops, List.length_cons, List.length_nil, Nat.zero_add] at ho ⊢
  obtain ⟨⟨blk, off, sp⟩, rfl, hsp, hlt, hcell⟩ := ho.resolve_left (by simp)
  simp only at hsp hlt hcell
  subst hsp
  have c0 : w1.cell? ⟨blk, off, none⟩ = some y.val := by simpa using hcell 0 y rfl
  have cN1 := cell_of_one hI1.hn
  have cW1 := cell_of_one hI1.hw
  go_wp2
  refine wp_loop_rounds 2 ?_
  rw [rounds_succ]
  go_wp2_with fail
  simp only [E.names] at hn ⊢
  refine (ih w1 bn bw mb n l hI1 hn).mono ?_
  rintro e w2 ⟨rfl, hI2, g2⟩
  go_wp2
  rw [rounds_succ]
  go_wp2
  go_end0
  exact ⟨rfl, hI2, (grown_of_below b1).trans g2⟩
set_option maxRecDepth 100000 in
set_option maxHeartbeats 4000000 in
theorem w65_bin (op : ByteArray) (y z : E) (ih : W65 y) (ihz : W65 z) : W65 (.bin op y z) := by
  intro w bn bw mb n l hI hn
  have cN := cell_of_one hI.hn
  have cW := cell_of_one hI.hw
  have hta := taN (t := 97) (by decide)
  simp only [E.val]
  go_enter Try.func41, Try.ntmps41
  go_wp2_with fail
  have b0 : Below w.heap.size w (w.alloc (Obj.cells #[Value.string { data := #[] }] 92)) := (Below.refl _ _).alloc (Nat.le_refl _) _
  have hI0 := hI.below b0
  refine (ops_calls (.bin op y z) _ hI0.gl).mono ?_
  rintro e w1 ⟨hb, A, c, rfl, ho⟩
  have b1 : Below w.heap.size w w1 := b0.trans (hb.mono (by simp))
  have hI1 := hI.below b1
  simp only [E.ops, List.length_cons, List.length_nil, Nat.zero_add] at ho ⊢
  obtain ⟨⟨blk, off, sp⟩, rfl, hsp, hlt, hcell⟩ := ho.resolve_left (by simp)
  simp only at hsp hlt hcell
  subst hsp
  have c0 : w1.cell? ⟨blk, off, none⟩ = some y.val := by simpa using hcell 0 y rfl
  have c1 : w1.cell? ⟨blk, off + 1, none⟩ = some z.val := hcell 1 z rfl
  have cN1 := cell_of_one hI1.hn
  have cW1 := cell_of_one hI1.hw
  go_wp2
  refine wp_loop_rounds 3 ?_
  rw [rounds_succ]
  go_wp2_with fail
  simp only [E.names, List.length_append] at hn ⊢
  refine (ih w1 bn bw mb n l hI1 (by omega)).mono ?_
  rintro e w2 ⟨rfl, hI2, g2⟩
  have c2 := cell_kept' c1 g2 hI1.hm
  have cN2 := cell_of_one hI2.hn
  have cW2 := cell_of_one hI2.hw
  go_wp2
  rw [rounds_succ]
  go_wp2_with fail
  refine (ihz w2 bn bw mb _ _ hI2 (by omega)).mono ?_
  rintro e w3 ⟨rfl, hI3, g3⟩
  go_wp2
  rw [rounds_succ]
  go_wp2
  go_end0
  show _ ∧ I65 w3 bn bw mb (n + (y.names ++ z.names).length) (l ++ (y.names ++ z.names)) ∧ _
  rw [List.length_append, ← List.append_assoc, ← Nat.add_assoc]
  exact ⟨rfl, hI3, ((grown_of_below b1).trans g2).trans g3⟩
set_option maxRecDepth 100000 in
set_option maxHeartbeats 4000000 in
theorem w65_lit (m : Int) : W65 (.lit m) := by
  intro w bn bw mb n l hI hn
  have cN := cell_of_one hI.hn
  have cW := cell_of_one hI.hw
  have hta := taN (t := 90) (by decide)
  simp only [E.val]
  go_enter Try.func41, Try.ntmps41
  go_wp2_with fail
  have b0 : Below w.heap.size w (w.alloc (Obj.cells #[Value.string { data := #[] }] 92)) := (Below.refl _ _).alloc (Nat.le_refl _) _
  have hI0 := hI.below b0
  refine (ops_calls (.lit m) _ hI0.gl).mono ?_
  rintro e w1 ⟨hb, A, c, rfl, ho⟩
  have b1 : Below w.heap.size w w1 := b0.trans (hb.mono (by simp))
  have hI1 := hI.below b1
  simp only [E.ops, List.length_nil] at ⊢
  go_wp2
  refine wp_loop_rounds 1 ?_
  rw [rounds_succ]
  go_wp2
  go_end0
  exact ⟨rfl, by simpa [E.names] using hI1, grown_of_below b1⟩
set_option maxRecDepth 100000 in
set_option maxHeartbeats 4000000 in
theorem w65_non : W65 .non := by
  intro w bn bw mb n l hI hn
  have cN := cell_of_one hI.hn
  have cW := cell_of_one hI.hw
  have hta := ta0
  simp only [E.val]
  go_enter Try.func41, Try.ntmps41
  go_wp2_with fail
  have b0 : Below w.heap.size w (w.alloc (Obj.cells #[Value.string { data := #[] }] 92)) := (Below.refl _ _).alloc (Nat.le_refl _) _
  have hI0 := hI.below b0
  refine (ops_calls .non _ hI0.gl).mono ?_
  rintro e w1 ⟨hb, A, c, rfl, ho⟩
  have b1 : Below w.heap.size w w1 := b0.trans (hb.mono (by simp))
  have hI1 := hI.below b1
  simp only [E.ops, List.length_nil] at ⊢
  go_wp2
  refine wp_loop_rounds 1 ?_
  rw [rounds_succ]
  go_wp2
  go_end0
  exact ⟨rfl, by simpa [E.names] using hI1, grown_of_below b1⟩
set_option maxRecDepth 100000 in
set_option maxHeartbeats 4000000 in
theorem w65_ref (s : ByteArray) (hs : s.size ≤ maxLen) : W65 (.ref s) := by
  intro w bn bw mb n l hI hn
  have b0 : Below w.heap.size w (w.alloc (Obj.cells #[Value.string s] 92)) := (Below.refl _ _).alloc (Nat.le_refl _) _
  have hI0 := hI.below b0
  have cN := cell_of_one hI.hn
  have cW := cell_of_one hI.hw
  have cN0 := cell_of_one hI0.hn
  have hta := ta96
  have hkey : keyOf Try.prog 9 (.string s) = some (kyOf s) := WideMaps.keyOf_string_mk Try.underlying9 hs
  have hn' : n < maxLen := by simp only [E.names, List.length_cons, List.length_nil] at hn; omega
  simp only [E.val]
  go_enter Try.func41, Try.ntmps41
  go_wp2_with (at_mapUpdate; refine wpList_mapUpdate_own _ rfl _ _ _ 113 rfl 9 4 law9 Try.underlying113 (plainElem (H := Unit) Try.prog 4) mb n _ rfl hI0.hm hn' _ _ _ rfl rfl hkey _ [] (plainElem_bool Try.underlying4 true) ?_)
  intro w1 hm1 g1
  rw [Dn_snoc] at hm1
  have hI1 := hI0.grown g1 hm1
  go_wp2_with fail
  refine (ops_calls (.ref s) _ hI1.gl).mono ?_
  rintro e w2 ⟨hb, A, c, rfl, ho⟩
  have hI2 := hI1.below hb
  simp only [E.ops, List.length_nil] at ⊢
  go_wp2
  refine wp_loop_rounds 1 ?_
  rw [rounds_succ]
  go_wp2
  go_end0
  exact ⟨rfl, by simpa [E.names] using hI2, ((grown_of_below b0).trans g1).trans (grown_of_below hb)⟩
theorem w65 : ∀ x : E, x.wf → W65 x := by
  intro x
  induction x with
  | non => intro _; exact w65_non
  | lit n => intro _; exact w65_lit n
  | ref s => intro h; exact w65_ref s h
  | not x ih => intro h; exact w65_not x (ih h)
  | neg x ih => intro h; exact w65_neg x (ih h)
  | bin op l r ih1 ih2 => intro h; exact w65_bin op l r (ih1 h.1) (ih2 h.2)
end Go.Proofs.YthcaodlfnlhfbaaT
