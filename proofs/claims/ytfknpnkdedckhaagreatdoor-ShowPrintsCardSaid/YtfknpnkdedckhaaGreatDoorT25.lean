/- The interpreter over trees: what a law is handed, opened; from what it comes to, to its row. -/
import Derived.Test.YtfknpnkdedckhaaGreatDoorT24
namespace Go.Proofs.YtfknpnkdedckhaaGreatDoorT
open Go Go.RowKit
set_option linter.unusedVariables false

section
variable {P : Program} {L : List TypeId}
def flatT (x : T) : Prop := (∃ v, x = .s v) ∨ ∃ sz xs, x = .sl sz xs
theorem Ty_flat : ∀ (n : Nat) (t : TypeId) (ts : List T), Ty P n t ts → ∀ x ∈ ts, flatT x
  | 0, t, ts, h => h.elim
  | n + 1, t, ts, h => by
    simp only [Ty] at h
    split at h
    · obtain ⟨b, rfl⟩ := h; intro x hx; rw [List.mem_singleton.1 hx]; exact .inl ⟨_, rfl⟩
    · obtain ⟨b, rfl, _⟩ := h; intro x hx; rw [List.mem_singleton.1 hx]; exact .inl ⟨_, rfl⟩
    · obtain ⟨b, rfl, _⟩ := h; intro x hx; rw [List.mem_singleton.1 hx]; exact .inl ⟨_, rfl⟩
    · obtain ⟨ys, rfl, _⟩ := h
      intro x hx; rw [List.mem_singleton.1 hx]; exact .inr ⟨_, _, rfl⟩
    · obtain ⟨yss, rfl, hl, hy⟩ := h
      intro x hx
      obtain ⟨y, hy1, hx⟩ := List.mem_flatten.1 hx
      obtain ⟨i, hi⟩ := List.getElem?_of_mem hy1
      have hil := (List.getElem?_eq_some_iff.1 hi).1
      exact Ty_flat n _ y (hy i _ y (Array.getElem?_eq_getElem (by omega)) hi).2 x hx
    · obtain ⟨yss, rfl, hl, hy⟩ := h
      intro x hx
      obtain ⟨y, hy1, hx⟩ := List.mem_flatten.1 hx
      exact Ty_flat n _ y (hy y hy1).2 x hx
    · exact h.elim
theorem flat_X {w : World} {ok : Nat → Prop} {x : T} {v : Value} (h : flatT x) (hr : Rep (cctx w ok) x v) : RepX w ok x v [] := by
  rcases h with ⟨u, rfl⟩ | ⟨sz, xs, rfl⟩
  · exact ⟨rfl, hr⟩
  · exact ⟨rfl, hr⟩
theorem flat_XL {w : World} {ok : Nat → Prop} : ∀ {xs : List T} {vs : List Value}, (∀ x ∈ xs, flatT x) → RepA (cctx w ok) xs vs → RepXL w ok xs vs []
  | [], vs, h, hr => by
    have : vs = [] := List.eq_nil_of_length_eq_zero hr.1.symm
    subst this
    exact ⟨rfl, rfl⟩
  | x :: xs, [], h, hr => absurd hr.1 (by simp)
  | x :: xs, v :: vs, h, hr => ⟨v, vs, [], [], rfl, rfl, flat_X (h x (List.mem_cons_self ..)) hr.head, flat_XL (fun y hy => h y (List.mem_cons_of_mem _ hy)) hr.tail⟩
/-- An argument of a law. -/
theorem open_arg (hL : tyOk P L = true) {H : Type} {enc : TypeId × Value → H} {w : World} {base : Nat} {r : Reach} {base' : Nat} {spare : Nat → Bool} {held : Bool} {t : TypeId} {v : Value} {d : DataW H} {ps : List MemPlace} (ht : L.contains t = true) (hok : Value.okWide P w r base' t v) (h : DataW.Trod enc P w base spare held t v d ps) (hwt : ∀ k ∈ d.weights P t, k ≤ reachBytes) :
    ∃ n ts, Ty P n t ts ∧ RepX w (fun k => k < w.heap.size) (valT P t ts) v [] := by
  obtain ⟨n, hn⟩ := h
  obtain ⟨ts, h1, h2, h3⟩ := open_trod hL n t _ _ ht hwt hn
  refine ⟨n, ts, h1, ?_⟩
  have hfl := Ty_flat n t ts h1
  have hl := List.all_eq_true.1 hL t (by simpa using ht)
  have agg : aggOf P t = some true → (∃ cs, v = .agg cs) → RepX w (fun k => k < w.heap.size) (valT P t ts) v [] := by
    intro ha hv
    obtain ⟨cs, rfl⟩ := hv
    unfold valT
    rw [if_pos ha]
    exact ⟨cs.toList, by simp, flat_XL hfl h2, h3⟩
  have one : aggOf P t = some false → v.cells = #[v] → RepX w (fun k => k < w.heap.size) (valT P t ts) v [] := by
    intro ha hv
    rw [hv] at h2
    unfold valT
    rw [if_neg (by rw [ha]; simp)]
    match ts, h2, hfl with
    | [x], h2, hfl => exact flat_X (hfl x (by simp)) h2.head
    | [], h2, _ => exact absurd h2.1 (by simp)
    | _ :: _ :: _, h2, _ => exact absurd h2.1 (by simp)
  cases hu : P.underlying t with
  | none => rw [hu] at hl; simp at hl
  | some dd =>
    rw [hu] at hl
    cases dd with
    | bool => obtain ⟨b, rfl⟩ := Go.WideShapes.okWide_bool hu hok; exact one (by simp [aggOf, hu]) rfl
    | int k => obtain ⟨b, rfl⟩ := Go.WideShapes.okWide_int hu hok; exact one (by simp [aggOf, hu]) rfl
    | string => obtain ⟨b, rfl⟩ := Go.WideShapes.okWide_string hu hok; exact one (by simp [aggOf, hu]) rfl
    | slice e => obtain ⟨a, b, c, rfl⟩ := Go.WideShapes.okWide_slice hu hok; exact one (by simp [aggOf, hu]) rfl
    | struct fs =>
      simp only [Value.okWide, hu] at hok
      obtain ⟨cs, hv, _⟩ := hok
      exact agg (by simp [aggOf, hu]) ⟨cs, hv⟩
    | array m e =>
      simp only [Value.okWide, hu] at hok
      obtain ⟨cs, hv, _⟩ := hok
      exact agg (by simp [aggOf, hu]) ⟨cs, hv⟩
    | _ => simp at hl
theorem XL_nil {w : World} {ok : Nat → Prop} : RepXL w ok [] [] [] := ⟨rfl, rfl⟩
theorem XL_cons {w : World} {ok : Nat → Prop} {x : T} {xs : List T} {v : Value} {vs : List Value} (h : RepX w ok x v []) (hs : RepXL w ok xs vs []) : RepXL w ok (x :: xs) (v :: vs) [] := ⟨v, vs, [], [], rfl, rfl, h, hs⟩
/-- A law that is true at trees is true at what they stand for. -/
theorem row_calls {f : FuncId} {ts outs : List T} {vals : List Value} {w : World} (he : Runs P f ts (tb true, outs)) (hx : RepXL w (fun k => k < w.heap.size) ts vals []) (hG : Glob w (fun k => k < w.heap.size)) :
    Calls P f vals.toArray w (fun e w' => e = .returned (.bool true) ∧ Below w.heap.size w w') := by
  refine (he.2 w _ vals [] hx .nil (by simp) (fun k hk => hk) hG).mono ?_
  rintro e w' ⟨v, b1, b2, rfl, _, _, hfr, hres, _⟩
  obtain ⟨_, hres⟩ := hres
  exact ⟨by rw [rep_s hres], (hfr.mono (fun i hi => by simp at hi)).below⟩
end
/-! ### What a law is handed, by its leaves -/
inductive Lk where
  | b
  | i (k : IntKind)
  | s
  | sl (e : TypeId) (sz : Nat)
section
variable (P : Program)
def catO {α : Type} : List (Option (List α)) → Option (List α)
  | [] => some []
  | some x :: r => match catO r with
    | some y => some (x ++ y)
    | none => none
  | none :: _ => none
def kinds : Nat → TypeId → Option (List Lk)
  | 0, _ => none
  | d + 1, t => match P.underlying t with
    | some .bool => some [.b]
    | some (.int k) => some [.i k]
    | some .string => some [.s]
    | some (.slice e) => some [.sl e (P.cellsOf e)]
    | some (.struct fs) => catO (fs.toList.map fun f => kinds d f.type)
    | _ => none
/-- Elements of a slice that was handed to a law. -/
def SlT (n : Nat) (e : TypeId) (xs : List T) : Prop := ∃ ys : List (List T), xs = ys.map (valT P e) ∧ (ys.length ≤ maxLen ∧ ys.length * P.bytesOf e ≤ reachBytes) ∧ ∀ y ∈ ys, Ty P n e y
def LfK (n : Nat) : Lk → T → Prop
  | .b, x => ∃ b : Bool, x = .s (.bool b)
  | .i k, x => ∃ i : Int, x = .s (.int k i) ∧ (Lit.int k i).wf = true
  | .s, x => ∃ b : ByteArray, x = .s (.string b) ∧ b.size ≤ reachBytes
  | .sl e sz, x => ∃ xs : List T, x = .sl sz xs ∧ ∃ m, m < n ∧ SlT P m e xs
def RowK (n : Nat) : List Lk → List T → Prop
  | [], ts => ts = []
  | k :: ks, ts => ∃ x r, ts = x :: r ∧ LfK P n k x ∧ RowK n ks r
end
section
variable {P : Program}
theorem LfK.up {n m : Nat} (h : n ≤ m) : ∀ {k : Lk} {x : T}, LfK P n k x → LfK P m k x
  | .b, _, hx => hx
  | .i _, _, hx => hx
  | .s, _, hx => hx
  | .sl _ _, _, ⟨xs, e, j, hj, hs⟩ => ⟨xs, e, j, Nat.lt_of_lt_of_le hj h, hs⟩
theorem RowK.up {n m : Nat} (h : n ≤ m) : ∀ {ks : List Lk} {ts : List T}, RowK P n ks ts → RowK P m ks ts
  | [], _, hx => hx
  | _ :: _, _, ⟨x, r, e, h1, h2⟩ => ⟨x, r, e, h1.up h, RowK.up h h2⟩
theorem RowK.append {n : Nat} : ∀ {ks ls : List Lk} {ts us : List T}, RowK P n ks ts → RowK P n ls us → RowK P n (ks ++ ls) (ts ++ us)
  | [], _, _, _, h, g => by
    have h : _ = [] := h
    subst h
    exact g
  | _ :: _, _, _, _, ⟨x, r, e, h1, h2⟩, g => ⟨x, r ++ _, by rw [e]; rfl, h1, h2.append g⟩
theorem row_of_ty : ∀ (d n : Nat) (t : TypeId) (ks : List Lk) (ts : List T), kinds P d t = some ks → Ty P n t ts → RowK P n ks ts
  | 0, n, t, ks, ts, hk, h => by simp [kinds] at hk
  | d + 1, 0, t, ks, ts, hk, h => h.elim
  | d + 1, n + 1, t, ks, ts, hk, h => by
    unfold kinds at hk
    unfold Ty at h
    split at hk
    · rename_i hu
      rw [hu] at h
      injection hk with hk; subst hk
      obtain ⟨b, rfl⟩ := h
      exact ⟨_, [], rfl, ⟨b, rfl⟩, rfl⟩
    · rename_i k hu
      rw [hu] at h
      injection hk with hk; subst hk
      obtain ⟨i, rfl, hw⟩ := h
      exact ⟨_, [], rfl, ⟨i, rfl, hw⟩, rfl⟩
    · rename_i hu
      rw [hu] at h
      injection hk with hk; subst hk
      obtain ⟨b, rfl, hw⟩ := h
      exact ⟨_, [], rfl, ⟨b, rfl, hw⟩, rfl⟩
    · rename_i e hu
      rw [hu] at h
      injection hk with hk; subst hk
      obtain ⟨ys, rfl, hl, hy⟩ := h
      exact ⟨_, [], rfl, ⟨_, rfl, n, Nat.lt_succ_self n, ys, rfl, hl, fun y hm => (hy y hm).2⟩, rfl⟩
    · rename_i fs hu
      rw [hu] at h
      obtain ⟨yss, rfl, hl, hy⟩ := h
      have key : ∀ (fl : List Field) (yss : List (List T)) (ks : List Lk), yss.length = fl.length → (∀ (i : Nat) (f : Field) (y : List T), fl[i]? = some f → yss[i]? = some y → Ty P n f.type y) → catO (fl.map fun f => kinds P d f.type) = some ks → RowK P (n + 1) ks yss.flatten := by
        intro fl
        induction fl with
        | nil =>
          intro yss ks hl hy hk
          have : yss = [] := List.eq_nil_of_length_eq_zero (by simpa using hl)
          subst this
          simp [catO] at hk
          subst hk
          rfl
        | cons f fl ih =>
          intro yss ks hl hy hk
          match yss, hl with
          | y :: yss, hl =>
            simp only [List.map_cons] at hk
            cases h1 : kinds P d f.type with
            | none => rw [h1] at hk; simp [catO] at hk
            | some k1 =>
              rw [h1] at hk
              simp only [catO] at hk
              split at hk
              · rename_i k2 h2
                injection hk with hk; subst hk
                have g1 := (row_of_ty d n f.type k1 y h1 (hy 0 f y rfl rfl)).up (Nat.le_succ n)
                have g2 := ih yss k2 (by simpa using hl) (fun i f' y' h3 h4 => hy (i + 1) f' y' (by simpa using h3) (by simpa using h4)) h2
                rw [List.flatten_cons]
                exact g1.append g2
              · simp at hk
      exact key fs.toList yss ks (by simpa using hl) (fun i f y h1 h2 => (hy i f y (by simpa using h1) h2).2) hk
    · simp at hk
theorem SlT.get {n : Nat} {e : TypeId} {xs : List T} (h : SlT P n e xs) {i : Nat} {x : T} (hx : xs[i]? = some x) : ∃ y, x = valT P e y ∧ Ty P n e y := by
  obtain ⟨ys, rfl, _, hy⟩ := h
  rw [List.getElem?_map] at hx
  cases hj : ys[i]? with
  | none => rw [hj] at hx; simp at hx
  | some y =>
    rw [hj] at hx
    simp at hx
    exact ⟨y, hx.symm, hy y (List.mem_of_getElem? hj)⟩
theorem SlT.mem {n : Nat} {e : TypeId} {xs : List T} (h : SlT P n e xs) {x : T} (hx : x ∈ xs) : ∃ y, x = valT P e y ∧ Ty P n e y := by
  obtain ⟨i, hi⟩ := List.getElem?_of_mem hx
  exact h.get hi
theorem SlT.len {n : Nat} {e : TypeId} {xs : List T} (h : SlT P n e xs) : xs.length ≤ maxLen := by
  obtain ⟨ys, rfl, hl, _⟩ := h
  simpa using hl.1
/-- Their room. -/
theorem SlT.room {n : Nat} {e : TypeId} {xs : List T} (h : SlT P n e xs) : xs.length * P.bytesOf e ≤ reachBytes := by
  obtain ⟨ys, rfl, hl, _⟩ := h
  simpa using hl.2
theorem reach_max {n : Nat} (h : n ≤ reachBytes) : n ≤ maxLen := Nat.le_trans h (by decide)
theorem reach_num {n : Nat} (h : n ≤ reachBytes) : n ≤ 140737488351232 := Nat.le_trans h (by decide)
/-- All elements are of a kind. -/
theorem list_of {α : Type} {f : α → T} : ∀ {xs : List T}, (∀ x ∈ xs, ∃ a, x = f a) → ∃ l : List α, xs = l.map f
  | [], _ => ⟨[], rfl⟩
  | x :: xs, h => by
    obtain ⟨a, rfl⟩ := h x (List.mem_cons_self ..)
    obtain ⟨l, rfl⟩ := list_of fun y hy => h y (List.mem_cons_of_mem _ hy)
    exact ⟨a :: l, rfl⟩
theorem list_of' {α : Type} {f : α → T} {Q : α → Prop} : ∀ {xs : List T}, (∀ x ∈ xs, ∃ a, x = f a ∧ Q a) → ∃ l : List α, xs = l.map f ∧ ∀ a ∈ l, Q a
  | [], _ => ⟨[], rfl, by simp⟩
  | x :: xs, h => by
    obtain ⟨a, rfl, ha⟩ := h x (List.mem_cons_self ..)
    obtain ⟨l, rfl, hl⟩ := list_of' fun y hy => h y (List.mem_cons_of_mem _ hy)
    exact ⟨a :: l, rfl, fun b hb => (List.mem_cons.1 hb).elim (fun e => by rw [e]; exact ha) (hl b)⟩
end
end Go.Proofs.YtfknpnkdedckhaaGreatDoorT
