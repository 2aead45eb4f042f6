/- The machine's steps. -/
import Derived.Test.YthcaodlfnlhfbaaY3
namespace Go.Proofs.YthcaodlfnlhfbaaT
open Go Go.Proofs Go.RowKit
set_option linter.unusedVariables false
theorem bad_tr (b : Bool) : bad (tr b) = 0 := by cases b <;> rfl
theorem cell_box {w : World} {g : Nat} {u v : Value} {t : TypeId} (h : w.heap[g]? = some (.cells #[u, v] t (0, 0))) : w.cell? ⟨g, 1, none⟩ = some v := by simp [World.cell?, h]
theorem jump_on {B : Nat} {s : List Int} {x : Int} {o : Bool} {ex : Ending} {w' : World} (hx : decide (x ≠ 0) = !o) (h : Jumped B s x o ex w') : ex = .returned (.bool false) ∧ M w' B s 0 := by
  rcases h with ⟨h, _⟩ | ⟨_, h⟩
  · rw [hx] at h; cases o <;> cases h
  · exact h
theorem jump_over {B : Nat} {s : List Int} {x : Int} {o : Bool} {ex : Ending} {w' : World} (hx : decide (x ≠ 0) = o) (h : Jumped B s x o ex w') : ex = .returned (.bool true) ∧ M w' B (tr o :: s) 0 := by
  rcases h with ⟨_, h⟩ | ⟨h, _⟩
  · exact h
  · rw [hx] at h; cases o <;> cases h
/-- The variables can be read, below the machine. -/
def VR (w : World) (B : Nat) (A : Option Addr) (vs : List Int) : Prop :=
  vs = [] ∨ ∃ b o : Nat, A = some ⟨b, o, none⟩ ∧ b < B ∧ ∀ (k : Nat) (x : Int), vs[k]? = some x → w.cell? ⟨b, o + k, none⟩ = some (vi x)
/-- What a step does. -/
def S33 (op : ByteArray) (n : Int) (vs : List Int) (left : Int) (s s' : List Int) (e' k : Int) : Prop :=
  ∀ (w : World) (B : Nat) (A : Option Addr) (c : Nat), M w B s 0 → VR w B A vs →
    Calls Try.prog 33 #[pt B, .agg #[.string op, vi n], .slice A vs.length c, vi left] w fun ex w' => ex = .returned (vi k) ∧ M w' B s' e' ∧ FrM B w w'
theorem b_new {w : World} {B : Nat} {s : List Int} {e : Int} (h : M w B s e) (o : Obj) : M (w.alloc o) B s e ∧ FrM B w (w.alloc o) :=
  ⟨h.below ((Below.refl _ _).alloc (Nat.le_refl _) _), FrM.alloc _ _ (by have := h.lt; omega) _⟩
set_option maxRecDepth 100000 in
set_option maxHeartbeats 4000000 in
theorem st_push (n : Int) (vs : List Int) (left : Int) (s : List Int) (hl : s.length ≤ 1900) (hn : 0 ≤ n) : S33 { data := #[112, 117, 115, 104] } n vs left s (n :: s) (bad n) 0 := by
  intro w B A c h hv
  obtain ⟨h0, b0⟩ := b_new h (Obj.cells #[.string { data := #[112, 117, 115, 104] }, vi n] 76)
  go_enter Try.func33, Try.ntmps33
  go_wp2_with (go_at_call 52; refine (push52 _ B s _ h0 (by omega)).mono ?_; rintro ex w3 ⟨rfl, h3, b3⟩)
  all_goals go_ret
  all_goals exact ⟨rfl, h3, b0.trans b3⟩
set_option maxRecDepth 100000 in
set_option maxHeartbeats 4000000 in
theorem st_not (n : Int) (vs : List Int) (left : Int) (s : List Int) (x : Int) (hl : s.length ≤ 1900) : S33 { data := #[110, 111, 116] } n vs left (x :: s) (tr (decide (x = 0)) :: s) 0 0 := by
  intro w B A c h hv
  obtain ⟨h0, b0⟩ := b_new h (Obj.cells #[.string { data := #[110, 111, 116] }, vi n] 76)
  go_enter Try.func33, Try.ntmps33
  go_wp2_with fail
  refine (pop54 _ B s x 0 h0 (by omega)).mono ?_
  rintro ex w1 ⟨rfl, h1, b1⟩
  go_wp2_with (first
    | (go_at_call 53; refine (truth53 _ _).mono ?_; rintro ex w' ⟨rfl, rfl⟩)
    | (go_at_call 52; refine (push52 _ B s _ h1 (by omega)).mono ?_; rintro ex w3 ⟨rfl, h3, b3⟩))
  all_goals go_ret
  all_goals exact ⟨rfl, by rw [bad_tr] at h3; simpa [beq_to, bne] using h3, b0.trans (b1.trans b3)⟩
set_option maxRecDepth 100000 in
set_option maxHeartbeats 4000000 in
theorem st_neg (n : Int) (vs : List Int) (left : Int) (s : List Int) (x : Int) (hl : s.length ≤ 1900) : S33 { data := #[110, 101, 103] } n vs left (x :: s) (wrap64 (-x) :: s) (bad (wrap64 (-x))) 0 := by
  intro w B A c h hv
  obtain ⟨h0, b0⟩ := b_new h (Obj.cells #[.string { data := #[110, 101, 103] }, vi n] 76)
  go_enter Try.func33, Try.ntmps33
  go_wp2_with fail
  refine (pop54 _ B s x 0 h0 (by omega)).mono ?_
  rintro ex w1 ⟨rfl, h1, b1⟩
  go_wp2_with (first
    | (go_at_call 53; refine (truth53 _ _).mono ?_; rintro ex w' ⟨rfl, rfl⟩)
    | (go_at_call 52; refine (push52 _ B s _ h1 (by omega)).mono ?_; rintro ex w3 ⟨rfl, h3, b3⟩))
  all_goals go_ret
  all_goals exact ⟨rfl, h3, b0.trans (b1.trans b3)⟩
set_option maxRecDepth 100000 in
set_option maxHeartbeats 4000000 in
theorem st_bool (n : Int) (vs : List Int) (left : Int) (s : List Int) (x : Int) (hl : s.length ≤ 1900) : S33 { data := #[98, 111, 111, 108] } n vs left (x :: s) (tr (!decide (x = 0)) :: s) 0 0 := by
  intro w B A c h hv
  obtain ⟨h0, b0⟩ := b_new h (Obj.cells #[.string { data := #[98, 111, 111, 108] }, vi n] 76)
  go_enter Try.func33, Try.ntmps33
  go_wp2_with fail
  refine (pop54 _ B s x 0 h0 (by omega)).mono ?_
  rintro ex w1 ⟨rfl, h1, b1⟩
  go_wp2_with (first
    | (go_at_call 53; refine (truth53 _ _).mono ?_; rintro ex w' ⟨rfl, rfl⟩)
    | (go_at_call 52; refine (push52 _ B s _ h1 (by omega)).mono ?_; rintro ex w3 ⟨rfl, h3, b3⟩))
  all_goals go_ret
  all_goals exact ⟨rfl, by rw [bad_tr] at h3; simpa [beq_to, bne] using h3, b0.trans (b1.trans b3)⟩
set_option maxRecDepth 100000 in
set_option maxHeartbeats 4000000 in
theorem st_load (k : Nat) (x : Int) (vs : List Int) (left : Int) (s : List Int) (hl : s.length ≤ 1900) (hk : vs[k]? = some x) (hvl : vs.length ≤ 1000) : S33 { data := #[108, 111, 97, 100] } (k : Int) vs left s (x :: s) (bad x) 0 := by
  intro w B A c h hv
  have hlt : k < vs.length := (List.getElem?_eq_some_iff.1 hk).1
  obtain ⟨b, o, rfl, hb, hcell⟩ : ∃ b o : Nat, A = some ⟨b, o, none⟩ ∧ b < B ∧ ∀ (k : Nat) (x : Int), vs[k]? = some x → w.cell? ⟨b, o + k, none⟩ = some (vi x) := hv.resolve_left (fun e => by rw [e] at hlt; simp at hlt)
  obtain ⟨h0, b0⟩ := b_new h (Obj.cells #[.string { data := #[108, 111, 97, 100] }, vi (k : Int)] 76)
  go_enter Try.func33, Try.ntmps33
  have ck : (w.alloc (Obj.cells #[.string { data := #[108, 111, 97, 100] }, vi (k : Int)] 76)).cell? ⟨b, o + k, none⟩ = some (vi x) := (b0.b.cell (p := ⟨b, o + k, none⟩) hb).trans (hcell k x hk)
  go_wp2_with (go_at_call 52; refine (push52 _ B s _ h0 (by omega)).mono ?_; rintro ex w3 ⟨rfl, h3, b3⟩)
  all_goals go_ret
  all_goals exact ⟨rfl, h3, b0.trans b3⟩
set_option maxRecDepth 100000 in
set_option maxHeartbeats 4000000 in
theorem st_and_go (n : Int) (vs : List Int) (left : Int) (s : List Int) (x : Int) (hl : s.length ≤ 1900) (h0n : 0 ≤ n) (hnl : n ≤ left) (hx : decide (x ≠ 0) = !false) : S33 { data := #[97, 110, 100] } n vs left (x :: s) s 0 0 := by
  intro w B A c h hv
  obtain ⟨h0, b0⟩ := b_new h (Obj.cells #[.string { data := #[97, 110, 100] }, vi n] 76)
  go_enter Try.func33, Try.ntmps33
  go_wp2_with (go_at_call 55; refine (jump55 _ B s x false h0 (by omega)).mono ?_; rintro ex w3 ⟨hj, b3⟩; obtain ⟨rfl, h3⟩ := (jump_on hx) hj; have ck := cell_box (b3.k _ _ (heap_alloc_new w _)))
  all_goals go_ret
  all_goals exact ⟨rfl, h3, b0.trans b3⟩
set_option maxRecDepth 100000 in
set_option maxHeartbeats 4000000 in
theorem st_and_over (n : Int) (vs : List Int) (left : Int) (s : List Int) (x : Int) (hl : s.length ≤ 1900) (h0n : 0 ≤ n) (hnl : n ≤ left) (hx : decide (x ≠ 0) = false) : S33 { data := #[97, 110, 100] } n vs left (x :: s) (0 :: s) 0 n := by
  intro w B A c h hv
  obtain ⟨h0, b0⟩ := b_new h (Obj.cells #[.string { data := #[97, 110, 100] }, vi n] 76)
  go_enter Try.func33, Try.ntmps33
  go_wp2_with (go_at_call 55; refine (jump55 _ B s x false h0 (by omega)).mono ?_; rintro ex w3 ⟨hj, b3⟩; obtain ⟨rfl, h3⟩ := (jump_over hx) hj; have ck := cell_box (b3.k _ _ (heap_alloc_new w _)))
  all_goals go_ret
  all_goals exact ⟨rfl, h3, b0.trans b3⟩
set_option maxRecDepth 100000 in
set_option maxHeartbeats 4000000 in
theorem st_or_go (n : Int) (vs : List Int) (left : Int) (s : List Int) (x : Int) (hl : s.length ≤ 1900) (h0n : 0 ≤ n) (hnl : n ≤ left) (hx : decide (x ≠ 0) = !true) : S33 { data := #[111, 114] } n vs left (x :: s) s 0 0 := by
  intro w B A c h hv
  obtain ⟨h0, b0⟩ := b_new h (Obj.cells #[.string { data := #[111, 114] }, vi n] 76)
  go_enter Try.func33, Try.ntmps33
  go_wp2_with (go_at_call 55; refine (jump55 _ B s x true h0 (by omega)).mono ?_; rintro ex w3 ⟨hj, b3⟩; obtain ⟨rfl, h3⟩ := (jump_on hx) hj; have ck := cell_box (b3.k _ _ (heap_alloc_new w _)))
  all_goals go_ret
  all_goals exact ⟨rfl, h3, b0.trans b3⟩
set_option maxRecDepth 100000 in
set_option maxHeartbeats 4000000 in
theorem st_or_over (n : Int) (vs : List Int) (left : Int) (s : List Int) (x : Int) (hl : s.length ≤ 1900) (h0n : 0 ≤ n) (hnl : n ≤ left) (hx : decide (x ≠ 0) = true) : S33 { data := #[111, 114] } n vs left (x :: s) (1 :: s) 0 n := by
  intro w B A c h hv
  obtain ⟨h0, b0⟩ := b_new h (Obj.cells #[.string { data := #[111, 114] }, vi n] 76)
  go_enter Try.func33, Try.ntmps33
  go_wp2_with (go_at_call 55; refine (jump55 _ B s x true h0 (by omega)).mono ?_; rintro ex w3 ⟨hj, b3⟩; obtain ⟨rfl, h3⟩ := (jump_over hx) hj; have ck := cell_box (b3.k _ _ (heap_alloc_new w _)))
  all_goals go_ret
  all_goals exact ⟨rfl, h3, b0.trans b3⟩
set_option maxRecDepth 100000 in
set_option maxHeartbeats 4000000 in
theorem st_bin0 (n : Int) (vs : List Int) (left : Int) (s : List Int) (x y : Int) (hl : s.length ≤ 1900) : S33 { data := #[43] } n vs left (y :: x :: s) (bz { data := #[43] } x y :: s) (bad (bz { data := #[43] } x y)) 0 := by
  intro w B A c h hv
  obtain ⟨h0, b0⟩ := b_new h (Obj.cells #[.string { data := #[43] }, vi n] 76)
  go_enter Try.func33, Try.ntmps33
  go_wp2_with (go_at_call 56; refine (bin56 _ B s x y _ h0 (by omega)).mono ?_; rintro ex w3 ⟨rfl, h3, b3⟩)
  all_goals go_ret
  all_goals exact ⟨rfl, h3, b0.trans b3⟩
set_option maxRecDepth 100000 in
set_option maxHeartbeats 4000000 in
theorem st_bin1 (n : Int) (vs : List Int) (left : Int) (s : List Int) (x y : Int) (hl : s.length ≤ 1900) : S33 { data := #[45] } n vs left (y :: x :: s) (bz { data := #[45] } x y :: s) (bad (bz { data := #[45] } x y)) 0 := by
  intro w B A c h hv
  obtain ⟨h0, b0⟩ := b_new h (Obj.cells #[.string { data := #[45] }, vi n] 76)
  go_enter Try.func33, Try.ntmps33
  go_wp2_with (go_at_call 56; refine (bin56 _ B s x y _ h0 (by omega)).mono ?_; rintro ex w3 ⟨rfl, h3, b3⟩)
  all_goals go_ret
  all_goals exact ⟨rfl, h3, b0.trans b3⟩
set_option maxRecDepth 100000 in
set_option maxHeartbeats 4000000 in
theorem st_bin2 (n : Int) (vs : List Int) (left : Int) (s : List Int) (x y : Int) (hl : s.length ≤ 1900) : S33 { data := #[42] } n vs left (y :: x :: s) (bz { data := #[42] } x y :: s) (bad (bz { data := #[42] } x y)) 0 := by
  intro w B A c h hv
  obtain ⟨h0, b0⟩ := b_new h (Obj.cells #[.string { data := #[42] }, vi n] 76)
  go_enter Try.func33, Try.ntmps33
  go_wp2_with (go_at_call 56; refine (bin56 _ B s x y _ h0 (by omega)).mono ?_; rintro ex w3 ⟨rfl, h3, b3⟩)
  all_goals go_ret
  all_goals exact ⟨rfl, h3, b0.trans b3⟩
set_option maxRecDepth 100000 in
set_option maxHeartbeats 4000000 in
theorem st_bin3 (n : Int) (vs : List Int) (left : Int) (s : List Int) (x y : Int) (hl : s.length ≤ 1900) : S33 { data := #[60] } n vs left (y :: x :: s) (bz { data := #[60] } x y :: s) (bad (bz { data := #[60] } x y)) 0 := by
  intro w B A c h hv
  obtain ⟨h0, b0⟩ := b_new h (Obj.cells #[.string { data := #[60] }, vi n] 76)
  go_enter Try.func33, Try.ntmps33
  go_wp2_with (go_at_call 56; refine (bin56 _ B s x y _ h0 (by omega)).mono ?_; rintro ex w3 ⟨rfl, h3, b3⟩)
  all_goals go_ret
  all_goals exact ⟨rfl, h3, b0.trans b3⟩
set_option maxRecDepth 100000 in
set_option maxHeartbeats 4000000 in
theorem st_bin4 (n : Int) (vs : List Int) (left : Int) (s : List Int) (x y : Int) (hl : s.length ≤ 1900) : S33 { data := #[60, 61] } n vs left (y :: x :: s) (bz { data := #[60, 61] } x y :: s) (bad (bz { data := #[60, 61] } x y)) 0 := by
  intro w B A c h hv
  obtain ⟨h0, b0⟩ := b_new h (Obj.cells #[.string { data := #[60, 61] }, vi n] 76)
  go_enter Try.func33, Try.ntmps33
  go_wp2_with (go_at_call 56; refine (bin56 _ B s x y _ h0 (by omega)).mono ?_; rintro ex w3 ⟨rfl, h3, b3⟩)
  all_goals go_ret
  all_goals exact ⟨rfl, h3, b0.trans b3⟩
set_option maxRecDepth 100000 in
set_option maxHeartbeats 4000000 in
theorem st_bin5 (n : Int) (vs : List Int) (left : Int) (s : List Int) (x y : Int) (hl : s.length ≤ 1900) : S33 { data := #[61, 61] } n vs left (y :: x :: s) (bz { data := #[61, 61] } x y :: s) (bad (bz { data := #[61, 61] } x y)) 0 := by
  intro w B A c h hv
  obtain ⟨h0, b0⟩ := b_new h (Obj.cells #[.string { data := #[61, 61] }, vi n] 76)
  go_enter Try.func33, Try.ntmps33
  go_wp2_with (go_at_call 56; refine (bin56 _ B s x y _ h0 (by omega)).mono ?_; rintro ex w3 ⟨rfl, h3, b3⟩)
  all_goals go_ret
  all_goals exact ⟨rfl, h3, b0.trans b3⟩
set_option maxRecDepth 100000 in
set_option maxHeartbeats 4000000 in
theorem st_bin6 (n : Int) (vs : List Int) (left : Int) (s : List Int) (x y : Int) (hl : s.length ≤ 1900) : S33 { data := #[33, 61] } n vs left (y :: x :: s) (bz { data := #[33, 61] } x y :: s) (bad (bz { data := #[33, 61] } x y)) 0 := by
  intro w B A c h hv
  obtain ⟨h0, b0⟩ := b_new h (Obj.cells #[.string { data := #[33, 61] }, vi n] 76)
  go_enter Try.func33, Try.ntmps33
  go_wp2_with (go_at_call 56; refine (bin56 _ B s x y _ h0 (by omega)).mono ?_; rintro ex w3 ⟨rfl, h3, b3⟩)
  all_goals go_ret
  all_goals exact ⟨rfl, h3, b0.trans b3⟩
end Go.Proofs.YthcaodlfnlhfbaaT
