/- interp.Run, along a trace of steps. -/
import Derived.Test.YthcaodlfnlhfbaaY4
namespace Go.Proofs.YthcaodlfnlhfbaaT
open Go Go.Proofs Go.RowKit
set_option linter.unusedVariables false
/-- From a place in the code, and a stack, to a stack, and an error. -/
inductive Tr (code : List In) (vs : List Int) (s2 : List Int) (e2 : Int) : Nat → List Int → Prop
  | fin (h : e2 = 0) : Tr code vs s2 e2 code.length s2
  | err {p : Nat} {s : List Int} {i : In} (hi : code[p]? = some i) (h : S33 i.fOp i.fN vs ((code.length : Int) - p - 1) s s2 e2 0) (he : e2 ≠ 0) : Tr code vs s2 e2 p s
  | step {p k : Nat} {s s1 : List Int} {i : In} (hi : code[p]? = some i) (h : S33 i.fOp i.fN vs ((code.length : Int) - p - 1) s s1 0 k) (hk : p + k + 1 ≤ code.length) (ht : Tr code vs s2 e2 (p + k + 1) s1) : Tr code vs s2 e2 p s
theorem M.sl {w : World} {B : Nat} {s : List Int} {e : Int} (h : M w B s e) : ∃ A c, w.heap[B]? = some (.cells #[.slice A s.length c, vi e] 104 (0, 0)) := by
  obtain ⟨v, h1, _, ⟨rfl, h0⟩ | ⟨g, cap, cur, rfl, _⟩⟩ := h
  · exact ⟨none, 0, by rw [h0]; exact h1⟩
  · exact ⟨_, _, h1⟩
theorem VR.below {w w' : World} {B : Nat} {A : Option Addr} {vs : List Int} (h : VR w B A vs) (b : Below B w w') : VR w' B A vs := by
  rcases h with h | ⟨g, o, rfl, hg, hc⟩
  · exact .inl h
  · exact .inr ⟨g, o, rfl, hg, fun k x hk => (b.cell (p := ⟨g, o + k, none⟩) hg).trans (hc k x hk)⟩
set_option maxRecDepth 100000 in
set_option maxHeartbeats 1000000 in
theorem fail34' (w : World) (B : Nat) (s : List Int) (e e1 : Int) (he : e ≠ 0) (h : M w B s e) :
    Calls Try.prog 34 #[pt B, vi e1] w fun ex w' => ex = .returned (.tuple #[]) ∧ w' = w := by
  obtain ⟨v, h1, h2⟩ := h
  have k1 := c1 h1
  go_enter Try.func34, Try.ntmps34
  go_wp2
  go_end0
  exact ⟨rfl, rfl⟩
set_option maxRecDepth 100000 in
set_option maxHeartbeats 8000000 in
theorem run15 (code : List In) (vs s2 : List Int) (e2 : Int) (hT : Tr code vs s2 e2 0 []) (hlen : code.length ≤ 1000) (h1 : e2 = 0 → s2.length = 1) (w : World) (b o cc : Nat)
    (hcells : ∀ (k : Nat) (i : In), code[k]? = some i → w.cell? ⟨b, o + k * 2, none⟩ = some (.string i.fOp) ∧ w.cell? ⟨b, o + k * 2 + 1, none⟩ = some (vi i.fN)) (hb : b < w.heap.size) (A : Option Addr) (c : Nat) (hv : VR w w.heap.size A vs) :
    Calls Try.prog 15 #[.slice (some ⟨b, o, none⟩) code.length cc, .slice A vs.length c] w fun ex w' =>
      ex = .returned (.tuple #[vi (if e2 = 0 then s2.headD 0 else 0), vi e2]) ∧ Below w.heap.size w w' := by
  have hM : M (w.alloc (Obj.cells #[.slice none 0 0, vi 0] 104)) w.heap.size [] 0 := ⟨_, heap_alloc_new _ _, rfl, .inl ⟨rfl, rfl⟩⟩
  have b0 : Below w.heap.size w (w.alloc (Obj.cells #[.slice none 0 0, vi 0] 104)) := (Below.refl _ _).alloc (Nat.le_refl _) _
  obtain ⟨out, hout⟩ : ∃ x, x = vi (if e2 = 0 then s2.headD 0 else 0) := ⟨_, rfl⟩
  rw [← hout]
  go_enter Try.func15, Try.ntmps15
  go_wp2
  go_loopw [7] (fun v wr => ∃ p : Nat, p ≤ code.length ∧ v = vi p ∧ Below w.heap.size w wr ∧ ((∃ s, M wr w.heap.size s 0 ∧ Tr code vs s2 e2 p s) ∨ (e2 ≠ 0 ∧ M wr w.heap.size s2 e2))) (fun v _ => code.length - (intOf v).toNat)
  case atStart => exact ⟨0, Nat.zero_le _, rfl, b0, .inl ⟨_, hM, hT⟩⟩
  case round =>
    obtain ⟨p, hp, rfl, hbl, hst⟩ := hrel
    rcases hst with ⟨s, hMs, hTs⟩ | ⟨he, hMs⟩
    · have k1 := hMs.k1
      cases hTs with
      | fin h0 =>
        obtain ⟨n, rfl⟩ := List.length_eq_one_iff.1 (h1 h0)
        obtain ⟨g, cap, cur, hh1, _, _, _, _, _, _, hg0⟩ := hMs.own
        have k0 := c0 hh1
        simp only [List.length_nil] at k0 hg0
        subst h0
        go_wp2
        go_ret2
        subst hout
        exact ⟨rfl, hbl⟩
      | err hi h he =>
        rename_i i
        have hlt : p < code.length := (List.getElem?_eq_some_iff.1 hi).1
        obtain ⟨q1, q2⟩ := hcells p i hi
        have ck1 := (hbl.cell (p := ⟨b, o + p * 2, none⟩) hb).trans q1
        have ck2 := (hbl.cell (p := ⟨b, o + p * 2 + 1, none⟩) hb).trans q2
        have h33 := h wr w.heap.size A c hMs (hv.below hbl)
        go_wp2_with (go_at_call 33; refine h33.mono ?_; rintro ex w3 ⟨rfl, h3, f3⟩)
        go_roundw
        case rel => exact ⟨p + 1, by omega, by go_num, hbl.trans f3.b, .inr ⟨he, h3⟩⟩
        case measure => simp [intOf]; omega
      | step hi h hk ht =>
        rename_i k s1 i
        have hlt : p < code.length := (List.getElem?_eq_some_iff.1 hi).1
        obtain ⟨q1, q2⟩ := hcells p i hi
        have ck1 := (hbl.cell (p := ⟨b, o + p * 2, none⟩) hb).trans q1
        have ck2 := (hbl.cell (p := ⟨b, o + p * 2 + 1, none⟩) hb).trans q2
        have h33 := h wr w.heap.size A c hMs (hv.below hbl)
        go_wp2_with (go_at_call 33; refine h33.mono ?_; rintro ex w3 ⟨rfl, h3, f3⟩)
        go_roundw
        case rel => exact ⟨p + k + 1, by omega, by go_num, hbl.trans f3.b, .inl ⟨_, h3, ht⟩⟩
        case measure => simp [intOf]; omega
    · have k1 := hMs.k1
      obtain ⟨A2, c2, hh1⟩ := hMs.sl
      have k0 := c0 hh1
      have k1 := c1 hh1
      go_wp2_with (go_at_call 34; refine (fail34' _ _ _ _ _ he hMs).mono ?_; rintro ex w3 ⟨rfl, rfl⟩)
      all_goals (try go_region)
      all_goals (try go_wp2)
      all_goals go_ret2
      all_goals (rw [if_neg he] at hout; subst hout; exact ⟨rfl, by first | exact hbl | exact hbl.drew⟩)
end Go.Proofs.YthcaodlfnlhfbaaT
