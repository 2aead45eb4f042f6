/- interp.Run's machine: a box of a stack and an error; what its functions do. -/
import Derived.Test.YthcaodlfnlhfbaaX12
import Derived.Laws.AppendOwn
import Derived.OwnWalk
import Derived.WalkKit
import Derived.Maps.AppendAt
namespace Go.Proofs.YthcaodlfnlhfbaaT
open Go Go.Proofs Go.RowKit
set_option linter.unusedVariables false
abbrev vi (n : Int) : Value := .int .i64 n
/-- The machine in block B: its stack, the top first, and its error. -/
def M (w : World) (B : Nat) (s : List Int) (e : Int) : Prop :=
  ∃ v, w.heap[B]? = some (.cells #[v, vi e] 104 (0, 0)) ∧ w.ownsRow (B + 1) 2 1 v s.length (s.reverse.map vi)
theorem M.lt {w : World} {B : Nat} {s : List Int} {e : Int} (h : M w B s e) : B < w.heap.size := by
  obtain ⟨v, h, _⟩ := h
  exact lt_of_block h
theorem c0 {w : World} {b : Nat} {v u : Value} {t : TypeId} (h : w.heap[b]? = some (.cells #[v, u] t (0, 0))) : w.cell? ⟨b, 0, none⟩ = some v := by simp [World.cell?, h]
theorem c1 {w : World} {b : Nat} {v u : Value} {t : TypeId} (h : w.heap[b]? = some (.cells #[v, u] t (0, 0))) : w.cell? ⟨b, 1, none⟩ = some u := by simp [World.cell?, h]
theorem f0 {w : World} {b : Nat} {v u : Value} {t : TypeId} (h : w.heap[b]? = some (.cells #[v, u] t (0, 0))) : w.frozen? ⟨b, 0, none⟩ = false := by simp [World.frozen?, h]
theorem f1 {w : World} {b : Nat} {v u : Value} {t : TypeId} (h : w.heap[b]? = some (.cells #[v, u] t (0, 0))) : w.frozen? ⟨b, 1, none⟩ = false := by simp [World.frozen?, h]
theorem two_set0 {w : World} {b : Nat} {v u x : Value} {t : TypeId} (h : w.heap[b]? = some (.cells #[v, u] t (0, 0))) : (w.setCell ⟨b, 0, none⟩ x).heap[b]? = some (.cells #[x, u] t (0, 0)) := by
  have hlt := lt_of_block h
  have h' : w.heap[b] = .cells #[v, u] t (0, 0) := by simpa [Array.getElem?_eq_getElem hlt] using h
  show (w.heap.modify b _)[b]? = _
  rw [Array.getElem?_eq_getElem (by simpa using hlt), Array.getElem_modify_self, h']
  rfl
theorem two_set1 {w : World} {b : Nat} {v u x : Value} {t : TypeId} (h : w.heap[b]? = some (.cells #[v, u] t (0, 0))) : (w.setCell ⟨b, 1, none⟩ x).heap[b]? = some (.cells #[v, x] t (0, 0)) := by
  have hlt := lt_of_block h
  have h' : w.heap[b] = .cells #[v, u] t (0, 0) := by simpa [Array.getElem?_eq_getElem hlt] using h
  show (w.heap.modify b _)[b]? = _
  rw [Array.getElem?_eq_getElem (by simpa using hlt), Array.getElem_modify_self, h']
  rfl
theorem own_ne {w : World} {base : Nat} {e : TypeId} {size : Nat} {v : Value} {n : Nat} {xs : List Value} (h : w.ownsRow (base + 1) e size v n xs) : v.ownBlock ≠ some base := by
  obtain ⟨_, ⟨rfl, _⟩ | ⟨g, c, cur, rfl, hg, _⟩⟩ := h
  · simp [Value.ownBlock]
  · simp only [Value.ownBlock, ne_eq, Option.some.injEq]; omega
/-- What lies below stays; what the machine is stays behind what changes nothing of it. -/
theorem M.below {w w' : World} {B : Nat} {s : List Int} {e : Int} (h : M w B s e) (b : Below w.heap.size w w') : M w' B s e := by
  obtain ⟨v, h1, h2, h3⟩ := h
  refine ⟨v, (b.block _ (lt_of_block h1)).trans h1, h2, ?_⟩
  rcases h3 with h3 | ⟨g, c, cur, hv, hg, hh, r⟩
  · exact .inl h3
  · exact .inr ⟨g, c, cur, hv, hg, (b.block _ (lt_of_block hh)).trans hh, r⟩
/-- What stays: all below, and the boxes of instructions. -/
structure FrM (B : Nat) (w w' : World) : Prop where
  b : Below B w w'
  k : ∀ (k : Nat) (cs : Array Value), w.heap[k]? = some (.cells cs 76 (0, 0)) → w'.heap[k]? = some (.cells cs 76 (0, 0))
theorem FrM.trans {B : Nat} {a b c : World} (h : FrM B a b) (h' : FrM B b c) : FrM B a c := ⟨h.b.trans h'.b, fun k cs hk => h'.k k cs (h.k k cs hk)⟩
theorem FrM.set {w : World} {B i : Nat} {v : Value} {cs : Array Value} (h : w.heap[B]? = some (.cells cs 104 (0, 0))) : FrM B w (w.setCell ⟨B, i, none⟩ v) :=
  ⟨(Below.refl B w).setCell (p := ⟨B, i, none⟩) (Nat.le_refl B) _, fun k cs' hk => (Below.heap_setCell w ⟨B, i, none⟩ v k (by
    show k ≠ B
    rintro rfl
    rw [h] at hk
    simp at hk)).trans hk⟩
theorem FrM.drew {w w' : World} {B : Nat} (h : FrM B w w') : FrM B w w'.drew := ⟨h.b.drew, h.k⟩
theorem FrM.alloc (w : World) (B : Nat) (hB : B ≤ w.heap.size) (o : Obj) : FrM B w (w.alloc o) := ⟨(Below.refl B w).alloc hB _, fun k cs hk => (Below.heap_alloc _ _ _ (lt_of_block hk)).trans hk⟩
theorem FrM.grown {w w' : World} {B : Nat} {row : Option Nat} (g : w.grownBy w' row) (hB : B ≤ w.heap.size) (hr : ∀ k, row = some k → B ≤ k ∧ ∃ cs, w.heap[k]? = some (.cells cs 2 (0, 0))) : FrM B w w' :=
  ⟨(Below.refl B w).grown g hB (fun k hk => (hr k hk).1), fun k cs hk => (g.block k (lt_of_block hk) (fun e => by
    obtain ⟨cs', h⟩ := (hr k e.symm).2
    rw [h] at hk
    simp at hk)).trans hk⟩
set_option maxRecDepth 100000 in
set_option maxHeartbeats 1000000 in
theorem fail34 (w : World) (B : Nat) (s : List Int) (e1 : Int) (h : M w B s 0) :
    Calls Try.prog 34 #[pt B, vi e1] w fun ex w' => ex = .returned (.tuple #[]) ∧ M w' B s e1 ∧ FrM B w w' := by
  obtain ⟨v, h1, h2⟩ := h
  have k0 := c0 h1
  have k1 := c1 h1
  have g1 := f1 h1
  go_enter Try.func34, Try.ntmps34
  go_wp2
  go_end0
  exact ⟨rfl, ⟨v, two_set1 h1, ownsRow_setCell_other h2 (own_ne h2) _⟩, FrM.set h1⟩
def bad (n : Int) : Int := if n < -1000000000 ∨ 1000000000 < n then 3 else 0
theorem M.own {w : World} {B : Nat} {s : List Int} {n e : Int} (h : M w B (n :: s) e) : ∃ g cap cur, w.heap[B]? = some (.cells #[.slice (some ⟨g, 0, none⟩) (s.length + 1) cap, vi e] 104 (0, 0)) ∧ B + 1 ≤ g ∧ w.heap[g]? = some (.cells cur 2 (0, 0)) ∧ s.length + 1 ≤ cap ∧ cap ≤ maxLen ∧
    cur.size = cap ∧ cur.toList.take s.length = s.reverse.map vi ∧ w.cell? ⟨g, s.length, none⟩ = some (vi n) := by
  obtain ⟨v, h1, h2, ⟨_, h3⟩ | ⟨g, cap, cur, rfl, hg, hh, hn, hc, hs, ht⟩⟩ := h
  · simp at h3
  · simp only [List.length_cons, Nat.mul_one, List.reverse_cons, List.map_append, List.map_cons, List.map_nil] at h1 hn hs ht
    refine ⟨g, cap, cur, h1, hg, hh, hn, hc, hs, ?_, ?_⟩
    · have := congrArg (List.take s.length) ht
      rw [List.take_take, Nat.min_eq_left (by omega), List.take_append_of_le_length (by simp)] at this
      rw [this]
      exact List.take_of_length_le (by simp)
    · have h5 : (cur.toList.take (s.length + 1))[s.length]? = some (vi n) := by rw [ht, List.getElem?_append_right (by simp)]; simp
      rw [List.getElem?_take, if_pos (by omega)] at h5
      simp [World.cell?, hh]
      simpa using h5
set_option maxRecDepth 100000 in
set_option maxHeartbeats 2000000 in
theorem pop54 (w : World) (B : Nat) (s : List Int) (n e : Int) (h : M w B (n :: s) e) (hl : s.length ≤ 2000) :
    Calls Try.prog 54 #[pt B] w fun ex w' => ex = .returned (vi n) ∧ M w' B s e ∧ FrM B w w' := by
  obtain ⟨g, cap, cur, h1, hg, hh, hn, hc, hs, ht, hcell⟩ := h.own
  have k0 := c0 h1
  have k1 := c1 h1
  have g0 := f0 h1
  go_enter Try.func54, Try.ntmps54
  go_wp2
  go_region
  all_goals (try go_wp2)
  all_goals (try go_ret)
  all_goals refine ⟨rfl, ?_, ?_⟩
  all_goals first
    | exact ⟨_, two_set0 h1, by simp, .inr ⟨g, cap, cur, rfl, hg, (Below.heap_setCell _ _ _ _ (by show g ≠ B; omega)).trans hh, by omega, hc, by omega, by simpa using ht⟩⟩
    | exact FrM.set h1
    | exact (FrM.set h1).drew
end Go.Proofs.YthcaodlfnlhfbaaT
