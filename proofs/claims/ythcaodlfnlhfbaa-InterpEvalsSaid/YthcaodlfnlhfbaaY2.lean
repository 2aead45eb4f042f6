/- The machine's push. -/
import Derived.Test.YthcaodlfnlhfbaaY1
namespace Go.Proofs.YthcaodlfnlhfbaaT
open Go Go.Proofs Go.RowKit
set_option linter.unusedVariables false
theorem push_end {w w1 W : World} {B : Nat} {s : List Int} {n e : Int} {v v' : Value} (b0 : FrM B w W) (hW : W.heap[B]? = some (.cells #[v, vi e] 104 (0, 0)))
    (hv : v.ownBlock ≠ some B) (hr : ∀ k, v.ownBlock = some k → B ≤ k ∧ ∃ cs, W.heap[k]? = some (.cells cs 2 (0, 0))) (hsz : B ≤ W.heap.size) (ho : w1.ownsRow (B + 1) 2 1 v' (s.length + 1) (s.reverse.map vi ++ [vi n])) (g : W.grownBy w1 v.ownBlock) :
    M (w1.setCell ⟨B, 0, none⟩ v') B (n :: s) e ∧ FrM B w (w1.setCell ⟨B, 0, none⟩ v') := by
  have hb : w1.heap[B]? = some (.cells #[v, vi e] 104 (0, 0)) := (g.block _ (lt_of_block hW) (fun h => hv h.symm)).trans hW
  exact ⟨⟨v', two_set0 hb, ownsRow_setCell_other (by simpa using ho) (own_ne ho) _⟩, (b0.trans (FrM.grown g hsz hr)).trans (FrM.set hb)⟩
theorem own_le {w : World} {base : Nat} {size : Nat} {v : Value} {n : Nat} {xs : List Value} (h : w.ownsRow (base + 1) 2 size v n xs) : ∀ k, v.ownBlock = some k → base ≤ k ∧ ∃ cs, w.heap[k]? = some (.cells cs 2 (0, 0)) := by
  obtain ⟨_, ⟨rfl, _⟩ | ⟨g, c, cur, rfl, hg, hh, _⟩⟩ := h
  · intro k h; simp [Value.ownBlock] at h
  · intro k h
    simp only [Value.ownBlock, Option.some.injEq] at h
    subst h
    exact ⟨by omega, _, hh⟩
theorem own_some {w : World} {base : Nat} {e : TypeId} {size : Nat} {v : Value} {n : Nat} {xs : List Value} (h : w.ownsRow base e size v (n + 1) xs) : ∃ g c, v = .slice (some ⟨g, 0, none⟩) (n + 1) c := by
  obtain ⟨_, ⟨_, h⟩ | ⟨g, c, cur, rfl, hg, _⟩⟩ := h
  · omega
  · exact ⟨g, c, rfl⟩
theorem b_alloc {w : World} {B : Nat} {o x : Obj} (h : w.heap[B]? = some o) : (w.alloc x).heap[B]? = some o := (Below.heap_alloc _ _ _ (lt_of_block h)).trans h
set_option maxRecDepth 100000 in
set_option maxHeartbeats 4000000 in
theorem push52 (w : World) (B : Nat) (s : List Int) (n : Int) (h : M w B s 0) (hl : s.length ≤ 2000) :
    Calls Try.prog 52 #[pt B, vi n] w fun ex w' => ex = .returned (.tuple #[]) ∧ M w' B (n :: s) (bad n) ∧ FrM B w w' := by
  obtain ⟨i0, hi, hz0, hz1, hz2⟩ : ∃ i, Try.prog.info? 2 = some i ∧ i.zero = some (vi 0) ∧ i.size = 1 ∧ i.bytes = 8 := ⟨_, rfl, rfl, rfl, rfl⟩
  by_cases hb : n < -1000000000 ∨ 1000000000 < n
  · have he : bad n = 3 := if_pos hb
    have h34 := fail34 w B s 3 h
    rw [he]
    go_enter Try.func52, Try.ntmps52
    go_wp2_with fail
    all_goals refine h34.mono ?_
    all_goals rintro ex w1 ⟨rfl, ⟨v, h1, h2⟩, b1⟩
    all_goals have k0 := c0 h1
    all_goals have g0 := f0 h1
    all_goals have hlt := lt_of_block h1
    all_goals go_wp2_with (at_builtin; refine wpList_append_own _ rfl _ _ 29 rfl (B + 1) 2 i0 (vi 0) 1 8 Try.underlying29 hi hz0 hz1 hz2 rfl (by decide) _ _ _ rfl (h2.alloc _) ⟨w1.heap.size, 0, none⟩ 1 1 [vi n] rfl rfl (cell_one_new _ _ _) (fun x hx => by simp at hx; subst hx; rfl) (by unfold maxLen; omega) (by omega) (by simp; omega) ?_; intro v' w3 ho hg hnil; obtain ⟨g', c', rfl⟩ := own_some ho; have hb3 := (hg.block _ (lt_of_block (b_alloc h1)) (fun h => own_ne h2 h.symm)).trans (b_alloc h1); have k3 := c0 hb3; have g3 := f0 hb3)
    all_goals go_end0
    all_goals have := push_end (b1.trans (FrM.alloc _ _ (by omega) _)) (b_alloc h1) (own_ne h2) (own_le (h2.alloc _)) (by simp; omega) ho hg
    all_goals exact ⟨rfl, this.1, this.2⟩
  · have he : bad n = 0 := if_neg hb
    rw [he]
    obtain ⟨v, h1, h2⟩ := h
    have k0 := c0 h1
    have g0 := f0 h1
    have hlt := lt_of_block h1
    go_enter Try.func52, Try.ntmps52
    go_wp2_with (at_builtin; refine wpList_append_own _ rfl _ _ 29 rfl (B + 1) 2 i0 (vi 0) 1 8 Try.underlying29 hi hz0 hz1 hz2 rfl (by decide) _ _ _ rfl (h2.alloc _) ⟨w.heap.size, 0, none⟩ 1 1 [vi n] rfl rfl (cell_one_new _ _ _) (fun x hx => by simp at hx; subst hx; rfl) (by unfold maxLen; omega) (by omega) (by simp; omega) ?_; intro v' w3 ho hg hnil; obtain ⟨g', c', rfl⟩ := own_some ho; have hb3 := (hg.block _ (lt_of_block (b_alloc h1)) (fun h => own_ne h2 h.symm)).trans (b_alloc h1); have k3 := c0 hb3; have g3 := f0 hb3)
    all_goals go_end0
    all_goals have := push_end (FrM.alloc _ _ (by omega) _) (b_alloc h1) (own_ne h2) (own_le (h2.alloc _)) (by simp; omega) ho hg
    all_goals exact ⟨rfl, this.1, this.2⟩
end Go.Proofs.YthcaodlfnlhfbaaT
