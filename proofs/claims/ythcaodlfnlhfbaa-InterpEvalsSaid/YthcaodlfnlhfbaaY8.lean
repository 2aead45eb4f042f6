/- The evaluator, and its answer. -/
import Derived.Test.YthcaodlfnlhfbaaY7
import Derived.Laws.BitsLemmas
namespace Go.Proofs.YthcaodlfnlhfbaaT
open Go Go.Proofs Go.RowKit
set_option linter.unusedVariables false
theorem wrapEq (n : Int) : IntKind.wrap .i64 n = wrap64 n := by rw [IntKind.wrap_i64]; unfold wrap64; rfl
theorem ix_or (s : ByteArray) : ∀ (l : List W_api_Var) (k : Nat), ix s k l = -1 ∨ ∃ j v, l[j]? = some v ∧ ix s k l = ((k + j : Nat) : Int)
  | [], k => .inl rfl
  | v :: r, k => by
    rw [ix]
    split
    · exact .inr ⟨0, v, rfl, by simp⟩
    · rcases ix_or s r (k + 1) with h | ⟨j, v', h1, h2⟩
      · exact .inl h
      · exact .inr ⟨j + 1, v', h1, by rw [h2]; congr 1; omega⟩
theorem ix_get {s : ByteArray} {V : List W_api_Var} (h : ¬ ix s 0 V < 0) : ∃ (j : Nat) (v : W_api_Var), V[j]? = some v ∧ ix s 0 V = (j : Int) := by
  rcases ix_or s V 0 with h' | ⟨j, v, h1, h2⟩
  · rw [h'] at h; omega
  · exact ⟨j, v, h1, by simpa using h2⟩
def good : Except Int Int → Int → Int → Prop
  | .ok m, n, e => n = m ∧ e = 0
  | .error c, n, e => e = c
abbrev cbv (V : List W_api_Var) (e : Int) : T := .cbox 100 [vv V, i64 e]
section
variable (V : List W_api_Var) (hV : V.length ≤ 1000)
include hV
theorem rv45 (s : ByteArray) : Rn 45 [vv V, .fn (.func 67) [] [.cbox 9 [st s]]] (i64 (ix s 0 V), [.dead, .fn (.func 67) [] [.cbox 9 [st s]]]) :=
  f45b _ _ _ (ix_loop V hV (s := s) (L := fun n k R => L45b_0 (V.map W_api_Var.t) n k s R) (D := fun z => (i64 z, [.dead, .fn (.func 67) [] [.cbox 9 [st s]]])) (fun n k R h => by
    refine l45b_0 _ _ _ _ _ ?_
    cases hk : decide (k < n) with
    | false => rw [hk] at h; exact h
    | true =>
      rw [hk] at h
      obtain ⟨w, h1, h2⟩ := h
      exact ⟨w, h1, _, s, f67 _ _ _ rfl, h2⟩))
omit hV in
theorem rv50 (b : Bool) : Rn 50 [tb b] (i64 (tr b), [.dead]) := by
  cases b
  · exact f50 _ _ rfl
  · exact f50 _ _ rfl
omit hV in
theorem rv68 (n : Int) : Rn 68 [cbv V 0, i64 n] (i64 n, [cbv V (bad n), .dead]) := by
  unfold bad
  refine f68 _ _ _ _ (cd (fun h => cT rfl (by rw [if_pos (.inl h)])) (fun h => cd (fun h' => cT rfl (by rw [if_pos (.inr h')])) (fun h' => by rw [if_neg (by omega)])))
theorem rv49 {s : ByteArray} {j : Nat} {v : W_api_Var} (hj : V[j]? = some v) (hi : ix s 0 V = (j : Int)) : Rn 49 [cbv V 0, st s] (i64 v.fN, [cbv V (bad v.fN), .dead]) := by
  have h := rv45 V hV s
  rw [hi] at h
  exact f49 _ _ _ _ ⟨_, h, cF (by simp) ⟨v, ⟨by omega, by rw [toN, List.getElem?_map, hj]; rfl⟩, _, _, _, rv68 V v.fN, rfl⟩⟩
omit hV in
def EV (x : E) : Prop := ∃ n e, Rn 32 [cbv V 0, x.v.v] (i64 n, [cbv V e, .dead]) ∧ good (sem V x) n e
omit hV in
theorem ops_of {op : ByteArray} (h : lvl op ≠ 0) : op = bs [43] ∨ op = bs [45] ∨ op = bs [42] ∨ op = bs [60] ∨ op = bs [60, 61] ∨ op = bs [61, 61] ∨ op = bs [33, 61] ∨ op = bs [38, 38] ∨ op = bs [124, 124] := by
  have := ops_lvl op
  rw [decide_eq_true h] at this
  simpa [OPS] using this
omit hV in
theorem good_fits (z : Int) : good (fits z) z (bad z) := by
  rcases bad_cases z with ⟨h, _⟩ | ⟨h, _⟩
  · simp [fits, h, good]
  · simp [fits, h, good]
omit hV in
theorem good_ftr (b : Bool) (z : Int) (h : z = tr b := by rfl) : good (fits z) (tr b) 0 := by
  subst h
  simp [fits, bad_in (in_tr b), good]
omit hV in
theorem rv51 {op : ByteArray} (l r : E) (hop : lvl op ≠ 0) (hl : EV V l) (hr : EV V r) (hcl : ∀ c, sem V l = .error c → c ≠ 0) (hcr : ∀ c, sem V r = .error c → c ≠ 0) :
    ∃ n e, Rn 51 [cbv V 0, (⟨op, l.v, r.v⟩ : W_expr_Bin).t] (i64 n, [cbv V e, .dead]) ∧ good (sem V (.bin op l r)) n e := by
  obtain ⟨n1, e1, h1, g1⟩ := hl
  obtain ⟨n6, e6, h6, g6⟩ := hr
  cases hsl : sem V l with
  | error c =>
    have hc := hcl c hsl
    rw [hsl] at g1
    obtain rfl : e1 = c := g1
    exact ⟨_, _, f51 _ _ _ _ ⟨n1, _, e1, h1, cT (by simpa using hc) ⟨_, rv50 _, rfl⟩⟩, by simp [sem, hsl, good]⟩
  | ok m =>
    rw [hsl] at g1
    obtain ⟨rfl, rfl⟩ := g1
    rcases ops_of hop with rfl | rfl | rfl | rfl | rfl | rfl | rfl | rfl | rfl
    · cases hsr : sem V r with
      | error c =>
        have hc := hcr c hsr
        rw [hsr] at g6
        obtain rfl : e6 = c := g6
        exact ⟨_, _, f51 _ _ _ _ ⟨n1, _, 0, h1, cF rfl (cF rfl (cF rfl ⟨n6, _, e6, h6, cT (by simpa using hc) rfl⟩))⟩, by rw [sem, hsl]; simp only; rw [if_neg (fun h => absurd h.1 (by decide)), if_neg (fun h => absurd h.1 (by decide)), hsr]; simp [good]⟩
      | ok m =>
        rw [hsr] at g6
        obtain ⟨rfl, rfl⟩ := g6
        exact ⟨_, _, f51 _ _ _ _ ⟨n1, _, 0, h1, cF rfl (cF rfl (cF rfl ⟨n6, _, 0, h6, cF rfl (cT rfl ⟨_, _, _, rv68 V _, rfl⟩)⟩))⟩, by rw [sem, hsl]; simp only; rw [if_neg (fun h => absurd h.1 (by decide)), if_neg (fun h => absurd h.1 (by decide)), hsr]; simp only; rw [if_neg (by decide)]; simp only [wrapEq]; exact good_fits _⟩
    · cases hsr : sem V r with
      | error c =>
        have hc := hcr c hsr
        rw [hsr] at g6
        obtain rfl : e6 = c := g6
        exact ⟨_, _, f51 _ _ _ _ ⟨n1, _, 0, h1, cF rfl (cF rfl (cF rfl ⟨n6, _, e6, h6, cT (by simpa using hc) rfl⟩))⟩, by rw [sem, hsl]; simp only; rw [if_neg (fun h => absurd h.1 (by decide)), if_neg (fun h => absurd h.1 (by decide)), hsr]; simp [good]⟩
      | ok m =>
        rw [hsr] at g6
        obtain ⟨rfl, rfl⟩ := g6
        exact ⟨_, _, f51 _ _ _ _ ⟨n1, _, 0, h1, cF rfl (cF rfl (cF rfl ⟨n6, _, 0, h6, cF rfl (cF rfl (cT rfl ⟨_, _, _, rv68 V _, rfl⟩))⟩))⟩, by rw [sem, hsl]; simp only; rw [if_neg (fun h => absurd h.1 (by decide)), if_neg (fun h => absurd h.1 (by decide)), hsr]; simp only; rw [if_neg (by decide)]; simp only [wrapEq]; exact good_fits _⟩
    · cases hsr : sem V r with
      | error c =>
        have hc := hcr c hsr
        rw [hsr] at g6
        obtain rfl : e6 = c := g6
        exact ⟨_, _, f51 _ _ _ _ ⟨n1, _, 0, h1, cF rfl (cF rfl (cF rfl ⟨n6, _, e6, h6, cT (by simpa using hc) rfl⟩))⟩, by rw [sem, hsl]; simp only; rw [if_neg (fun h => absurd h.1 (by decide)), if_neg (fun h => absurd h.1 (by decide)), hsr]; simp [good]⟩
      | ok m =>
        rw [hsr] at g6
        obtain ⟨rfl, rfl⟩ := g6
        exact ⟨_, _, f51 _ _ _ _ ⟨n1, _, 0, h1, cF rfl (cF rfl (cF rfl ⟨n6, _, 0, h6, cF rfl (cF rfl (cF rfl (cT rfl ⟨_, _, _, rv68 V _, rfl⟩)))⟩))⟩, by rw [sem, hsl]; simp only; rw [if_neg (fun h => absurd h.1 (by decide)), if_neg (fun h => absurd h.1 (by decide)), hsr]; simp only; rw [if_neg (by decide)]; simp only [wrapEq]; exact good_fits _⟩
    · cases hsr : sem V r with
      | error c =>
        have hc := hcr c hsr
        rw [hsr] at g6
        obtain rfl : e6 = c := g6
        exact ⟨_, _, f51 _ _ _ _ ⟨n1, _, 0, h1, cF rfl (cF rfl (cF rfl ⟨n6, _, e6, h6, cT (by simpa using hc) rfl⟩))⟩, by rw [sem, hsl]; simp only; rw [if_neg (fun h => absurd h.1 (by decide)), if_neg (fun h => absurd h.1 (by decide)), hsr]; simp [good]⟩
      | ok m =>
        rw [hsr] at g6
        obtain ⟨rfl, rfl⟩ := g6
        exact ⟨_, _, f51 _ _ _ _ ⟨n1, _, 0, h1, cF rfl (cF rfl (cF rfl ⟨n6, _, 0, h6, cF rfl (cF rfl (cF rfl (cF rfl (cT rfl ⟨_, rv50 _, rfl⟩))))⟩))⟩, by rw [sem, hsl]; simp only; rw [if_neg (fun h => absurd h.1 (by decide)), if_neg (fun h => absurd h.1 (by decide)), hsr]; simp only; rw [if_neg (by decide)]; exact good_ftr _ _⟩
    · cases hsr : sem V r with
      | error c =>
        have hc := hcr c hsr
        rw [hsr] at g6
        obtain rfl : e6 = c := g6
        exact ⟨_, _, f51 _ _ _ _ ⟨n1, _, 0, h1, cF rfl (cF rfl (cF rfl ⟨n6, _, e6, h6, cT (by simpa using hc) rfl⟩))⟩, by rw [sem, hsl]; simp only; rw [if_neg (fun h => absurd h.1 (by decide)), if_neg (fun h => absurd h.1 (by decide)), hsr]; simp [good]⟩
      | ok m =>
        rw [hsr] at g6
        obtain ⟨rfl, rfl⟩ := g6
        exact ⟨_, _, f51 _ _ _ _ ⟨n1, _, 0, h1, cF rfl (cF rfl (cF rfl ⟨n6, _, 0, h6, cF rfl (cF rfl (cF rfl (cF rfl (cF rfl (cT rfl ⟨_, rv50 _, rfl⟩)))))⟩))⟩, by rw [sem, hsl]; simp only; rw [if_neg (fun h => absurd h.1 (by decide)), if_neg (fun h => absurd h.1 (by decide)), hsr]; simp only; rw [if_neg (by decide)]; exact good_ftr _ _⟩
    · cases hsr : sem V r with
      | error c =>
        have hc := hcr c hsr
        rw [hsr] at g6
        obtain rfl : e6 = c := g6
        exact ⟨_, _, f51 _ _ _ _ ⟨n1, _, 0, h1, cF rfl (cF rfl (cF rfl ⟨n6, _, e6, h6, cT (by simpa using hc) rfl⟩))⟩, by rw [sem, hsl]; simp only; rw [if_neg (fun h => absurd h.1 (by decide)), if_neg (fun h => absurd h.1 (by decide)), hsr]; simp [good]⟩
      | ok m =>
        rw [hsr] at g6
        obtain ⟨rfl, rfl⟩ := g6
        exact ⟨_, _, f51 _ _ _ _ ⟨n1, _, 0, h1, cF rfl (cF rfl (cF rfl ⟨n6, _, 0, h6, cF rfl (cF rfl (cF rfl (cF rfl (cF rfl (cF rfl (cT rfl ⟨_, rv50 _, rfl⟩))))))⟩))⟩, by rw [sem, hsl]; simp only; rw [if_neg (fun h => absurd h.1 (by decide)), if_neg (fun h => absurd h.1 (by decide)), hsr]; simp only; rw [if_neg (by decide)]; exact good_ftr _ _⟩
    · cases hsr : sem V r with
      | error c =>
        have hc := hcr c hsr
        rw [hsr] at g6
        obtain rfl : e6 = c := g6
        exact ⟨_, _, f51 _ _ _ _ ⟨n1, _, 0, h1, cF rfl (cF rfl (cF rfl ⟨n6, _, e6, h6, cT (by simpa using hc) rfl⟩))⟩, by rw [sem, hsl]; simp only; rw [if_neg (fun h => absurd h.1 (by decide)), if_neg (fun h => absurd h.1 (by decide)), hsr]; simp [good]⟩
      | ok m =>
        rw [hsr] at g6
        obtain ⟨rfl, rfl⟩ := g6
        exact ⟨_, _, f51 _ _ _ _ ⟨n1, _, 0, h1, cF rfl (cF rfl (cF rfl ⟨n6, _, 0, h6, cF rfl (cF rfl (cF rfl (cF rfl (cF rfl (cF rfl (cF rfl (cT rfl ⟨_, rv50 _, rfl⟩)))))))⟩))⟩, by rw [sem, hsl]; simp only; rw [if_neg (fun h => absurd h.1 (by decide)), if_neg (fun h => absurd h.1 (by decide)), hsr]; simp only; rw [if_neg (by decide)]; exact good_ftr _ _⟩
    · by_cases h0 : n1 = 0
      · exact ⟨_, _, f51 _ _ _ _ ⟨n1, _, 0, h1, cF rfl (cT rfl (cT (by simpa using h0) ⟨_, rv50 _, rfl⟩))⟩, by simp [sem, hsl, good, h0, tr]⟩
      · cases hsr : sem V r with
        | error c =>
          have hc := hcr c hsr
          rw [hsr] at g6
          obtain rfl : e6 = c := g6
          exact ⟨_, _, f51 _ _ _ _ ⟨n1, _, 0, h1, cF rfl (cT rfl (cF (by simpa using h0) (cF rfl ⟨n6, _, e6, h6, cT (by simpa using hc) rfl⟩)))⟩, by rw [sem, hsl]; simp only; rw [if_neg (fun h => h0 h.2), if_neg (fun h => absurd h.1 (by decide)), hsr]; simp [good]⟩
        | ok m =>
          rw [hsr] at g6
          obtain ⟨rfl, rfl⟩ := g6
          exact ⟨_, _, f51 _ _ _ _ ⟨n1, _, 0, h1, cF rfl (cT rfl (cF (by simpa using h0) (cF rfl ⟨n6, _, 0, h6, cF rfl (cF rfl (cF rfl (cF rfl (cF rfl (cF rfl (cF rfl (cF rfl ⟨_, rv50 _, rfl⟩)))))))⟩)))⟩, by rw [sem, hsl]; simp only; rw [if_neg (fun h => h0 h.2), if_neg (fun h => absurd h.1 (by decide)), hsr]; simp [good]⟩
    · by_cases h0 : n1 = 0
      case neg => exact ⟨_, _, f51 _ _ _ _ ⟨n1, _, 0, h1, cF rfl (cF rfl (cT rfl (cT (by simpa using h0) ⟨_, rv50 _, rfl⟩)))⟩, by rw [sem, hsl]; simp only; rw [if_neg (fun h => absurd h.1 (by decide)), if_pos ⟨trivial, h0⟩]; simp [good, h0, tr]⟩
      · cases hsr : sem V r with
        | error c =>
          have hc := hcr c hsr
          rw [hsr] at g6
          obtain rfl : e6 = c := g6
          exact ⟨_, _, f51 _ _ _ _ ⟨n1, _, 0, h1, cF rfl (cF rfl (cT rfl (cF (by simpa using h0) ⟨n6, _, e6, h6, cT (by simpa using hc) rfl⟩)))⟩, by rw [sem, hsl]; simp only; rw [if_neg (fun h => absurd h.1 (by decide)), if_neg (fun h => h.2 h0), hsr]; simp [good]⟩
        | ok m =>
          rw [hsr] at g6
          obtain ⟨rfl, rfl⟩ := g6
          exact ⟨_, _, f51 _ _ _ _ ⟨n1, _, 0, h1, cF rfl (cF rfl (cT rfl (cF (by simpa using h0) ⟨n6, _, 0, h6, cF rfl (cF rfl (cF rfl (cF rfl (cF rfl (cF rfl (cF rfl (cF rfl ⟨_, rv50 _, rfl⟩)))))))⟩)))⟩, by rw [sem, hsl]; simp only; rw [if_neg (fun h => absurd h.1 (by decide)), if_neg (fun h => h.2 h0), hsr]; simp [good]⟩
theorem rv32 : ∀ x : E, x.snd = true → (∀ s ∈ x.names, ¬ ix s 0 V < 0) → EV V x := by
  intro x
  induction x with
  | non => intro h; simp [E.snd] at h
  | lit n => intro _ _; exact ⟨n, 0, f32 _ _ _ _ (cT rfl ⟨⟨n⟩, rfl, rfl⟩), rfl, rfl⟩
  | ref s =>
    intro _ hn
    obtain ⟨j, v, h1, h2⟩ := ix_get (hn s (by simp [E.names]))
    refine ⟨_, _, f32 _ _ _ _ (cF rfl (cT rfl ⟨⟨s⟩, rfl, _, _, _, rv49 V hV h1 h2, rfl⟩)), ?_⟩
    rw [sem, h2, toN, h1]
    exact good_fits _
  | not x ih =>
    intro hx hn
    obtain ⟨n, e, h, g⟩ := ih hx hn
    refine ⟨_, _, f32 _ _ _ _ (cF rfl (cF rfl (cT rfl ⟨⟨x.v⟩, rfl, n, _, e, h, _, rv50 _, rfl⟩))), ?_⟩
    rw [sem]
    cases hs : sem V x with
    | ok m => rw [hs] at g; obtain ⟨rfl, rfl⟩ := g; exact ⟨rfl, rfl⟩
    | error c => rw [hs] at g; exact g
  | neg x ih =>
    intro hx hn
    obtain ⟨n, e, h, g⟩ := ih hx hn
    refine ⟨_, _, f32 _ _ _ _ (cF rfl (cF rfl (cF rfl (cT rfl ⟨⟨x.v⟩, rfl, n, _, e, h, rfl⟩)))), ?_⟩
    rw [sem]
    cases hs : sem V x with
    | ok m =>
      rw [hs] at g
      obtain ⟨rfl, rfl⟩ := g
      have := (sem_in V x hx).1 _ hs
      exact ⟨by rw [w64 (by unfold inR at this; omega)]; omega, rfl⟩
    | error c => rw [hs] at g; exact g
  | bin op l r ih1 ih2 =>
    intro hx hn
    simp only [E.snd, Bool.and_eq_true, decide_eq_true_eq] at hx
    have hl := ih1 hx.1.2 (fun s hs => hn s (by simp [E.names, hs]))
    have hr := ih2 hx.2 (fun s hs => hn s (by simp [E.names, hs]))
    obtain ⟨n, e, h, g⟩ := rv51 V l r hx.1.1 hl hr (sem_in V l hx.1.2).2 (sem_in V r hx.2).2
    exact ⟨_, _, f32 _ _ _ _ (cF rfl (cF rfl (cF rfl (cF rfl (cT rfl ⟨⟨op, l.v, r.v⟩, rfl, n, _, e, h, rfl⟩))))), g⟩
/-- The evaluator's answer. -/
theorem rv14 (x : E) (hw : x.wf) (hk : x.ok = true) (hn : ∀ s ∈ x.names, ¬ ix s 0 V < 0) : Rn 14 [x.v.v, vv V] (.tup [i64 (match sem V x with | .ok n => n | .error _ => 0), i64 (match sem V x with | .ok _ => 0 | .error c => c)], [.dead, .dead]) := by
  obtain ⟨_, hs⟩ := ok_parts hk
  obtain ⟨n, e, h, g⟩ := rv32 V hV x hs hn
  have h25 := r25 x hw
  rw [hk] at h25
  refine f14 _ _ _ ⟨_, h25, cF rfl ⟨n, _, e, h, ?_⟩⟩
  cases hx : sem V x with
  | ok m => rw [hx] at g; obtain ⟨rfl, rfl⟩ := g; exact cF rfl rfl
  | error c =>
    rw [hx] at g
    obtain rfl : e = c := g
    exact cT (by simpa using (sem_in V x hs).2 e hx) rfl
end
end Go.Proofs.YthcaodlfnlhfbaaT
