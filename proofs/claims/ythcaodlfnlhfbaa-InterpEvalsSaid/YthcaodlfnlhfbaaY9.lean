/- An expression's code, run step by step, comes to its value, or to its error. -/
import Derived.Test.YthcaodlfnlhfbaaY8
namespace Go.Proofs.YthcaodlfnlhfbaaT
open Go Go.Proofs Go.RowKit
set_option linter.unusedVariables false
def At (C : List In) (p : Nat) (l : List In) : Prop := ∀ (k : Nat) (i : In), l[k]? = some i → C[p + k]? = some i
theorem At.left {C : List In} {p : Nat} {a b : List In} (h : At C p (a ++ b)) : At C p a := fun k i hi => h k i (by
  rw [List.getElem?_append_left (List.getElem?_eq_some_iff.1 hi).1]; exact hi)
theorem At.right {C : List In} {p : Nat} {a b : List In} (h : At C p (a ++ b)) : At C (p + a.length) b := fun k i hi => by
  rw [Nat.add_assoc]
  exact h _ i (by rw [List.getElem?_append_right (by omega), Nat.add_sub_cancel_left]; exact hi)
theorem At.head {C : List In} {p : Nat} {a : In} {b : List In} (h : At C p (a :: b)) : C[p]? = some a := h 0 a rfl
theorem At.tail {C : List In} {p : Nat} {a : In} {b : List In} (h : At C p (a :: b)) : At C (p + 1) b := fun k i hi => by
  rw [show p + 1 + k = p + (k + 1) by omega]
  exact h (k + 1) i hi
/-- From a place to a place: a value on the stack, or the error. -/
def TG (C : List In) (vs : List Int) (r : Except Int Int) (p q : Nat) (s s0 : List Int) : Prop :=
  match r with
  | .ok n => ∀ s2 e2, Tr C vs s2 e2 q (n :: s0) → Tr C vs s2 e2 p s
  | .error c => ∃ s2, Tr C vs s2 c p s
section
variable {C : List In} {vs : List Int}
theorem TG.ok1 {p : Nat} {i : In} {z : Int} {s s0 : List Int} (hi : C[p]? = some i) (h : S33 i.fOp i.fN vs ((C.length : Int) - p - 1) s (z :: s0) 0 0) : TG C vs (.ok z) p (p + 1) s s0 := by
  have hlt := (List.getElem?_eq_some_iff.1 hi).1
  exact fun s2 e2 ht => Tr.step (k := 0) hi h (by omega) ht
theorem TG.fits1 {p : Nat} {i : In} {z : Int} {s s0 : List Int} (hi : C[p]? = some i) (h : S33 i.fOp i.fN vs ((C.length : Int) - p - 1) s (z :: s0) (bad z) 0) : TG C vs (fits z) p (p + 1) s s0 := by
  unfold fits
  rcases bad_cases z with ⟨hb, _⟩ | ⟨hb, _⟩
  · rw [if_pos hb]; rw [hb] at h; exact TG.ok1 hi h
  · rw [if_neg (by rw [hb]; decide)]; rw [hb] at h; exact ⟨_, Tr.err hi h (by decide)⟩
theorem TG.bind {r1 r : Except Int Int} {p q q' : Nat} {s s0 s1 : List Int} (h1 : TG C vs r1 p q s s0) (he : ∀ c, r1 = .error c → r = .error c) (h2 : ∀ n, r1 = .ok n → TG C vs r q q' (n :: s0) s1) : TG C vs r p q' s s1 := by
  cases r1 with
  | error c => rw [he c rfl]; exact h1
  | ok n =>
    have h2 := h2 n rfl
    cases hr : r with
    | ok m => rw [hr] at h2; exact fun s2 e2 ht => h1 _ _ (h2 _ _ ht)
    | error c => rw [hr] at h2; obtain ⟨s2, h⟩ := h2; exact ⟨s2, h1 _ _ h⟩
theorem st_bin {op : ByteArray} (hop : lvl op ≠ 0) (h1 : op ≠ bs [38, 38]) (h2 : op ≠ bs [124, 124]) (n left : Int) (s : List Int) (x y : Int) (hl : s.length ≤ 1900) : S33 op n vs left (y :: x :: s) (bz op x y :: s) (bad (bz op x y)) 0 := by
  rcases ops_of hop with rfl | rfl | rfl | rfl | rfl | rfl | rfl | rfl | rfl
  · exact st_bin0 n vs left s x y hl
  · exact st_bin1 n vs left s x y hl
  · exact st_bin2 n vs left s x y hl
  · exact st_bin3 n vs left s x y hl
  · exact st_bin4 n vs left s x y hl
  · exact st_bin5 n vs left s x y hl
  · exact st_bin6 n vs left s x y hl
  · exact absurd rfl h1
  · exact absurd rfl h2
end
theorem trace (V : List W_api_Var) (hV : V.length ≤ 1000) (C : List In) : ∀ (x : E), x.snd = true → (∀ s ∈ x.names, ¬ ix s 0 V < 0) → ∀ (p : Nat) (s : List Int), At C p (cde V x) → p + (cde V x).length ≤ C.length → s.length + x.nodes ≤ 1800 →
    TG C (V.map fun v => v.fN) (sem V x) p (p + (cde V x).length) s s := by
  intro x
  induction x with
  | non => intro h; simp [E.snd] at h
  | lit n =>
    intro h _ p s ha hp hs
    simp only [E.snd, decide_eq_true_eq] at h
    have hb : bad n = 0 := bad_in (by unfold inR; omega)
    have h33 := st_push n (V.map fun v => v.fN) ((C.length : Int) - p - 1) s (by omega) h.1
    rw [hb] at h33
    exact TG.ok1 (At.head ha) h33
  | ref t =>
    intro _ hn p s ha hp hs
    obtain ⟨j, v, h1, h2⟩ := ix_get (hn t (by simp [E.names]))
    rw [sem, h2, toN, h1]
    have h33 := st_load j v.fN (V.map fun v => v.fN) ((C.length : Int) - p - 1) s (by omega) (by rw [List.getElem?_map, h1]; rfl) (by simpa using hV)
    rw [← h2] at h33
    exact TG.fits1 (At.head ha) h33
  | not x ih =>
    intro hx hn p s ha hp hs
    simp only [E.nodes] at hs
    simp only [cde] at ha hp ⊢
    rw [List.length_append] at hp ⊢
    have h := ih hx hn p s ha.left (by omega) (by omega)
    rw [sem]
    refine TG.bind h (fun c hc => by rw [hc]) fun n hn' => ?_
    rw [hn']
    simp only
    exact TG.ok1 (At.head ha.right) (st_not _ _ _ s n (by omega))
  | neg x ih =>
    intro hx hn p s ha hp hs
    simp only [E.nodes] at hs
    simp only [cde] at ha hp ⊢
    rw [List.length_append] at hp ⊢
    have h := ih hx hn p s ha.left (by omega) (by omega)
    rw [sem]
    refine TG.bind h (fun c hc => by rw [hc]) fun n hn' => ?_
    rw [hn']
    simp only
    have hr := (sem_in V x hx).1 n hn'
    have h33 := st_neg 0 (V.map fun v => v.fN) ((C.length : Int) - (p + (cde V x).length : Nat) - 1) s n (by omega)
    have hw : wrap64 (-n) = -n := by unfold wrap64; unfold inR at hr; omega
    rw [hw, bad_in (n := -n) (by unfold inR at hr ⊢; omega)] at h33
    exact TG.ok1 (At.head ha.right) h33
  | bin op l r ih1 ih2 =>
    intro hx hn p s ha hp hs
    simp only [E.nodes] at hs
    simp only [E.snd, Bool.and_eq_true, decide_eq_true_eq] at hx
    have hnl : ∀ s ∈ l.names, ¬ ix s 0 V < 0 := fun s hs => hn s (by simp [E.names, hs])
    have hnr : ∀ s ∈ r.names, ¬ ix s 0 V < 0 := fun s hs => hn s (by simp [E.names, hs])
    have hop := hx.1.1
    have jump : ∀ (o : Bool) (nm : ByteArray), At C p (cde V l ++ (⟨nm, ((cde V r).length + 1 : Nat)⟩ : In) :: (cde V r ++ [(⟨bs [98, 111, 111, 108], 0⟩ : In)])) → p + (cde V l ++ (⟨nm, ((cde V r).length + 1 : Nat)⟩ : In) :: (cde V r ++ [(⟨bs [98, 111, 111, 108], 0⟩ : In)])).length ≤ C.length →
        (∀ (n left x : Int) (s : List Int), s.length ≤ 1900 → 0 ≤ n → n ≤ left → decide (x ≠ 0) = (!o) → S33 nm n (V.map fun v => v.fN) left (x :: s) s 0 0) → (∀ (n left x : Int) (s : List Int), s.length ≤ 1900 → 0 ≤ n → n ≤ left → decide (x ≠ 0) = o → S33 nm n (V.map fun v => v.fN) left (x :: s) (tr o :: s) 0 n) →
        TG C (V.map fun v => v.fN) (match sem V l with | .ok n => if decide (n ≠ 0) = o then .ok (tr o) else (match sem V r with | .ok m => .ok (tr (!decide (m = 0))) | .error c => .error c) | .error c => .error c) p (p + (cde V l ++ (⟨nm, ((cde V r).length + 1 : Nat)⟩ : In) :: (cde V r ++ [(⟨bs [98, 111, 111, 108], 0⟩ : In)])).length) s s := by
      intro o nm ha hp hgo hover
      simp only [List.length_append, List.length_cons, List.length_nil] at hp ⊢
      refine TG.bind (q := p + (cde V l).length) (ih1 hx.1.2 hnl p s ha.left (by omega) (by omega)) (fun c hc => by rw [hc]) fun n hn' => ?_
      rw [hn']
      simp only
      have hi := At.head ha.right
      by_cases h0 : decide (n ≠ 0) = o
      · rw [if_pos h0]
        intro s2 e2 ht
        have h33 := hover ((cde V r).length + 1 : Nat) ((C.length : Int) - (p + (cde V l).length : Nat) - 1) n s (by omega) (by omega) (by omega) h0
        refine Tr.step (k := (cde V r).length + 1) hi h33 (by omega) ?_
        have e : p + (cde V l).length + ((cde V r).length + 1) + 1 = p + ((cde V l).length + ((cde V r).length + (0 + 1) + 1)) := by omega
        rw [e]
        exact ht
      · rw [if_neg h0]
        have h0' : decide (n ≠ 0) = !o := by cases hb : decide (n ≠ 0) <;> cases o <;> simp_all
        have h33 := hgo ((cde V r).length + 1 : Nat) ((C.length : Int) - (p + (cde V l).length : Nat) - 1) n s (by omega) (by omega) (by omega) h0'
        have hr := ih2 hx.2 hnr (p + (cde V l).length + 1) s ha.right.tail.left (by omega) (by omega)
        have hb : TG C (V.map fun v => v.fN) (match sem V r with | .ok m => .ok (tr (!decide (m = 0))) | .error c => .error c) (p + (cde V l).length + 1) (p + (cde V l).length + 1 + (cde V r).length + 1) s s := TG.bind hr (fun c hc => by rw [hc]) fun m hm => by
          rw [hm]
          exact TG.ok1 (At.head ha.right.tail.right) (st_bool _ _ _ s m (by omega))
        have e : p + ((cde V l).length + ((cde V r).length + (0 + 1) + 1)) = p + (cde V l).length + 1 + (cde V r).length + 1 := by omega
        rw [e]
        cases hsr : sem V r with
        | ok m => rw [hsr] at hb; exact fun s2 e2 ht => Tr.step (k := 0) hi h33 (by omega) (hb s2 e2 ht)
        | error c => rw [hsr] at hb; obtain ⟨s2, h⟩ := hb; exact ⟨s2, Tr.step (k := 0) hi h33 (by omega) h⟩
    by_cases h1 : op = bs [38, 38]
    · subst h1
      rw [cde, if_pos rfl] at ha hp ⊢
      have := jump false _ ha hp (fun n left x s a b c d => st_and_go n _ left s x a b c d) (fun n left x s a b c d => st_and_over n _ left s x a b c d)
      have e : sem V (.bin (bs [38, 38]) l r) = (match sem V l with | .ok n => if decide (n ≠ 0) = false then .ok (tr false) else (match sem V r with | .ok m => .ok (tr (!decide (m = 0))) | .error c => .error c) | .error c => .error c) := by
        rw [sem]
        cases sem V l with
        | error c => rfl
        | ok n =>
          simp only
          by_cases h0 : n = 0
          · rw [if_pos ⟨trivial, h0⟩, if_pos (by simp [h0])]; rfl
          · rw [if_neg (fun h => h0 h.2), if_neg (fun h => absurd h.1 (by decide)), if_neg (by simp [h0])]
            cases sem V r <;> simp
      rw [e]
      exact this
    by_cases h2 : op = bs [124, 124]
    · subst h2
      rw [cde, if_neg h1, if_pos rfl] at ha hp ⊢
      have := jump true _ ha hp (fun n left x s a b c d => st_or_go n _ left s x a b c d) (fun n left x s a b c d => st_or_over n _ left s x a b c d)
      have e : sem V (.bin (bs [124, 124]) l r) = (match sem V l with | .ok n => if decide (n ≠ 0) = true then .ok (tr true) else (match sem V r with | .ok m => .ok (tr (!decide (m = 0))) | .error c => .error c) | .error c => .error c) := by
        rw [sem]
        cases sem V l with
        | error c => rfl
        | ok n =>
          simp only
          rw [if_neg (fun h => absurd h.1 (by decide))]
          by_cases h0 : n = 0
          · rw [if_neg (fun h => h.2 h0), if_neg (by simp [h0])]
            cases sem V r <;> simp
          · rw [if_pos ⟨trivial, h0⟩, if_pos (by simp [h0])]; rfl
      rw [e]
      exact this
    · rw [cde, if_neg h1, if_neg h2] at ha hp ⊢
      simp only [List.length_append, List.length_cons, List.length_nil] at hp ⊢
      have hl := ih1 hx.1.2 hnl p s ha.left (by omega) (by omega)
      have e : sem V (.bin op l r) = (match sem V l with | .ok n => (match sem V r with | .ok m => fits (bz op n m) | .error c => .error c) | .error c => .error c) := by
        rw [sem]
        cases sem V l with
        | error c => rfl
        | ok n =>
          simp only
          rw [if_neg (fun h => h1 h.1), if_neg (fun h => h2 h.1)]
          cases sem V r with
          | error c => rfl
          | ok m => simp only; rw [if_neg (fun h => h.elim h1 h2)]
      rw [e]
      refine TG.bind hl (fun c hc => by rw [hc]) fun n hn' => ?_
      rw [hn']
      simp only
      have hr := ih2 hx.2 hnr (p + (cde V l).length) (n :: s) ha.right.left (by omega) (by simp only [List.length_cons]; omega)
      have e2 : p + ((cde V l).length + ((cde V r).length + (0 + 1))) = p + (cde V l).length + (cde V r).length + 1 := by omega
      rw [e2]
      refine TG.bind hr (fun c hc => by rw [hc]) fun m hm => ?_
      rw [hm]
      exact TG.fits1 (At.head ha.right.right) (st_bin hop h1 h2 _ _ s n m (by omega))
end Go.Proofs.YthcaodlfnlhfbaaT
