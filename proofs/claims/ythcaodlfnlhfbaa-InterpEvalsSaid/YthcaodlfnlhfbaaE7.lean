/- The code of an expression, by the program and by the document. -/
import Derived.Test.YthcaodlfnlhfbaaH2
import Derived.Test.YthcaodlfnlhfbaaD
namespace Go.Proofs.YthcaodlfnlhfbaaT
open Go Go.Proofs
set_option linter.unusedVariables false
/-- The first variable of a name, from place k on; -1: none. -/
def ix (s : ByteArray) : Nat → List W_api_Var → Int
  | k, [] => -1
  | k, v :: r => if v.fName = s then (k : Int) else ix s (k + 1) r
def E.names : E → List ByteArray
  | .ref s => [s]
  | .not x => x.names
  | .neg x => x.names
  | .bin _ l r => l.names ++ r.names
  | _ => []
abbrev In := W_table_Instr
/-- The code of an expression. -/
def cde (V : List W_api_Var) : E → List In
  | .lit n => [⟨bs [112, 117, 115, 104], n⟩]
  | .ref s => [⟨bs [108, 111, 97, 100], ix s 0 V⟩]
  | .not x => cde V x ++ [⟨bs [110, 111, 116], 0⟩]
  | .neg x => cde V x ++ [⟨bs [110, 101, 103], 0⟩]
  | .bin op l r =>
    if op = bs [38, 38] then cde V l ++ ⟨bs [97, 110, 100], ((cde V r).length + 1 : Nat)⟩ :: (cde V r ++ [⟨bs [98, 111, 111, 108], 0⟩])
    else if op = bs [124, 124] then cde V l ++ ⟨bs [111, 114], ((cde V r).length + 1 : Nat)⟩ :: (cde V r ++ [⟨bs [98, 111, 111, 108], 0⟩])
    else cde V l ++ (cde V r ++ [⟨op, 0⟩])
  | .non => []
theorem cde_len (V : List W_api_Var) : ∀ x : E, x.snd = true → 1 ≤ (cde V x).length ∧ (cde V x).length ≤ 3 * x.nodes := by
  intro x
  induction x with
  | non => intro h; simp [E.snd] at h
  | lit n => intro _; simp [cde, E.nodes]
  | ref s => intro _; simp [cde, E.nodes]
  | not x ih => intro h; have := ih h; simp [cde, E.nodes]; omega
  | neg x ih => intro h; have := ih h; simp [cde, E.nodes]; omega
  | bin op l r ih1 ih2 =>
    intro h
    simp only [E.snd, Bool.and_eq_true] at h
    have h1 := ih1 h.1.2
    have h2 := ih2 h.2
    simp only [cde, E.nodes]
    repeat' split
    all_goals (simp; omega)
abbrev vv (V : List W_api_Var) : T := .sl 2 (V.map W_api_Var.t)
abbrev iv (l : List In) : List T := l.map W_table_Instr.t
section
variable (V : List W_api_Var) (hV : V.length ≤ 1000)
include hV
theorem ix_loop {s : ByteArray} {L : Int → Int → T × List T → Prop} {D : Int → T × List T}
    (rule : ∀ n k R, cond (decide (k < n)) (∃ w : W_api_Var, (0 ≤ k ∧ (V.map W_api_Var.t)[Int.toNat k]? = some w.t) ∧ cond (decide (w.fName = s)) (R = D k) (L n (IntKind.wrap .i64 (k + 1)) R)) (R = D (-1)) → L n k R) :
    L (((V.map W_api_Var.t).length : Nat) : Int) 0 (D (ix s 0 V)) := by
  have loop : ∀ (r pre : List W_api_Var), pre ++ r = V → L (((V.map W_api_Var.t).length : Nat) : Int) ((pre.length : Nat) : Int) (D (ix s pre.length r)) := by
    intro r
    induction r with
    | nil =>
      intro pre hp
      rw [List.append_nil] at hp
      subst hp
      exact rule _ _ _ (cF (by simp) rfl)
    | cons v r ih =>
      intro pre hp
      have hl : pre.length < V.length := by rw [← hp]; simp
      have hg : (V.map W_api_Var.t)[Int.toNat ((pre.length : Nat) : Int)]? = some v.t := by rw [toN, List.getElem?_map, ← hp]; simp
      refine rule _ _ _ (cT (by simp; omega) ⟨v, ⟨by omega, hg⟩, cd (fun h => ?_) (fun h => ?_)⟩)
      · rw [ix, if_pos h]
      · have := ih (pre ++ [v]) (by rw [List.append_assoc]; exact hp)
        rw [List.length_append] at this
        rw [ix, if_neg h, wS (by omega)]
        exact this
  exact loop V [] rfl
abbrev clo46 (s : ByteArray) : T := .fn (.func 46) [] [.cbox 9 [st s]]
theorem r45 (s : ByteArray) : Rn 45 [vv V, .fn (.func 46) [] [.cbox 9 [st s]]] (i64 (ix s 0 V), [.dead, .fn (.func 46) [] [.cbox 9 [st s]]]) :=
  f45 _ _ _ (ix_loop V hV (s := s) (L := fun n k R => L45_0 (V.map W_api_Var.t) n k s R) (D := fun z => (i64 z, [.dead, .fn (.func 46) [] [.cbox 9 [st s]]])) (fun n k R h => by
    refine l45_0 _ _ _ _ _ ?_
    cases hk : decide (k < n) with
    | false => rw [hk] at h; exact h
    | true =>
      rw [hk] at h
      obtain ⟨w, h1, h2⟩ := h
      exact ⟨w, h1, _, f46 _ _ _ rfl, h2⟩))
/-- The writer of code. -/
abbrev cb_ (V : List W_api_Var) (o : List In) : T := .cbox 80 [vv V, mnC 76 2 (iv o)]
theorem r29 (o : List In) (s : ByteArray) : Rn 29 [cb_ V o, st s] (i64 (ix s 0 V), [cb_ V o, .dead]) := f29 _ _ _ _ ⟨_, r45 V hV s, rfl⟩
theorem r28 (o : List In) (s : ByteArray) : Rn 28 [st s, .cbox 78 [cb_ V o]] (tb (decide (ix s 0 V < 0)), [.dead, .cbox 78 [cb_ V o]]) := f28 _ _ _ _ ⟨_, r29 V hV o s, rfl⟩
theorem r40 (L : List ByteArray) (hL : L.length ≤ 1000) (o : List In) : ∃ n : Int, Rn 40 [.sl 1 (L.map st), .fn (.func 28) [] [.cbox 78 [cb_ V o]]] (i64 n, [.dead, .fn (.func 28) [] [.cbox 78 [cb_ V o]]]) ∧ decide (0 ≤ n) = L.any fun s => decide (ix s 0 V < 0) := by
  have loop : ∀ (d k : Nat), k + d = L.length → ∃ n : Int, L40_0a (L.map st) (((L.map st).length : Nat) : Int) (k : Int) (V.map W_api_Var.t) (iv o) (i64 n, [.dead, .fn (.func 28) [] [.cbox 78 [cb_ V o]]]) ∧ decide (0 ≤ n) = (L.drop k).any fun s => decide (ix s 0 V < 0) := by
    intro d
    induction d with
    | zero => intro k hk; exact ⟨-1, l40_0a _ _ _ _ _ _ (cF (by simp; omega) rfl), by rw [List.drop_of_length_le (by omega)]; simp⟩
    | succ d ih =>
      intro k hk
      have hlt : k < L.length := by omega
      rw [List.drop_eq_getElem_cons hlt, List.any_cons]
      have h46 := r28 V hV o L[k]
      cases hb : decide (ix L[k] 0 V < 0) with
      | true => rw [hb] at h46; exact ⟨(k : Int), l40_0a _ _ _ _ _ _ (cT (by simp; omega) ⟨L[k], ⟨by omega, getm hlt⟩, _, h46, cT rfl rfl⟩), by simp⟩
      | false =>
        rw [hb] at h46
        obtain ⟨n, h1, h2⟩ := ih (k + 1) (by omega)
        refine ⟨n, l40_0a _ _ _ _ _ _ (cT (by simp; omega) ⟨L[k], ⟨by omega, getm hlt⟩, _, h46, cF rfl ?_⟩), by rw [Bool.false_or]; exact h2⟩
        rw [wS (by omega)]
        exact h1
  cases L with
  | nil => exact ⟨-1, f40 _ _ _ _ (l40_0 _ _ _ _ _ _ (cF rfl rfl)), by simp⟩
  | cons s r =>
    have h46 := r28 V hV o s
    rw [List.any_cons]
    cases hb : decide (ix s 0 V < 0) with
    | true => rw [hb] at h46; exact ⟨0, f40 _ _ _ _ (l40_0 _ _ _ _ _ _ (cT (by simp) ⟨s, ⟨by omega, rfl⟩, _, h46, cT rfl rfl⟩)), by simp⟩
    | false =>
      rw [hb] at h46
      obtain ⟨n, h1, h2⟩ := loop r.length 1 (by simp; omega)
      refine ⟨n, f40 _ _ _ _ (l40_0 _ _ _ _ _ _ (cT (by simp) ⟨s, ⟨by omega, rfl⟩, _, h46, cF rfl ?_⟩)), by rw [Bool.false_or]; exact h2⟩
      rw [show IntKind.wrap .i64 (0 + 1) = ((1 : Nat) : Int) by decide]
      exact h1
theorem r26 (L : List ByteArray) (hL : L.length ≤ 1000) (o : List In) : Rn 26 [.sl 1 (L.map st), .fn (.func 28) [] [.cbox 78 [cb_ V o]]] (tb (L.any fun s => decide (ix s 0 V < 0)), [.dead, .fn (.func 28) [] [.cbox 78 [cb_ V o]]]) := by
  obtain ⟨n, h1, h2⟩ := r40 V hV L hL o
  exact f26 _ _ _ _ ⟨n, h1, by rw [h2]⟩
omit hV in
theorem r47 (o : List In) (op : ByteArray) (n : Int) (ho : o.length ≤ 1000) : Rn 47 [cb_ V o, st op, i64 n] (.tup [], [.cbox 80 [vv V, .cown 76 2 (iv (o ++ [⟨op, n⟩]))], .dead, .dead]) := by
  refine f47 _ _ _ _ _ (ckn (by simp; omega) ?_)
  simp [iv, W_table_Instr.t]
omit hV in
/-- What has something in it. -/
theorem iv_ne {l : List In} (h : 1 ≤ l.length) : ∃ y r, iv l = y :: r := by
  cases l with
  | nil => simp at h
  | cons x r => exact ⟨_, _, rfl⟩
omit hV in
theorem cb_ne {l : List In} {y : T} {r : List T} (h : iv l = y :: r) : cb_ V l = .cbox 80 [vv V, .cown 76 2 (y :: r)] := by
  show T.cbox 80 [vv V, mnC 76 2 (iv l)] = _
  rw [h]; rfl
omit hV in
theorem r47' (o : List In) (op : ByteArray) (n : Int) (ho : o.length ≤ 1000) : ∃ y r, iv (o ++ [⟨op, n⟩]) = y :: r ∧ Rn 47 [cb_ V o, st op, i64 n] (.tup [], [.cbox 80 [vv V, .cown 76 2 (y :: r)], .dead, .dead]) := by
  obtain ⟨y, r, e⟩ := iv_ne (l := o ++ [⟨op, n⟩]) (by simp)
  have := r47 V o op n ho
  rw [e] at this
  exact ⟨y, r, e, this⟩
/-- What the writer's function comes to. -/
def W48 (V : List W_api_Var) (x : E) : Prop := ∀ o : List In, o.length + 3 * x.nodes ≤ 900 → ∃ y r, iv (o ++ cde V x) = y :: r ∧ Rn 30 [cb_ V o, x.v.v] (.tup [], [.cbox 80 [vv V, .cown 76 2 (y :: r)], .dead])
omit hV in
theorem set_mid (a b : List T) (x y : T) {k : Nat} (h : a.length = k) : List.set (a ++ (x :: b)) k y = a ++ (y :: b) := by
  subst h
  simp
omit hV in
theorem r48 (x : E) (hx : x.snd = true) (h48 : W48 V x) (o : List In) (op : ByteArray) (ho : o.length + 3 * x.nodes ≤ 898) :
    ∃ y r, iv (o ++ ⟨op, ((cde V x).length + 1 : Nat)⟩ :: (cde V x ++ [⟨bs [98, 111, 111, 108], 0⟩])) = y :: r ∧ Rn 48 [cb_ V o, st op, x.v.v] (.tup [], [.cbox 80 [vv V, .cown 76 2 (y :: r)], .dead, .dead]) := by
  obtain ⟨hl1, hl2⟩ := cde_len V x hx
  obtain ⟨y1, r1, e1, h1⟩ := r47' V o op 0 (by omega)
  obtain ⟨y2, r2, e2, h2⟩ := h48 (o ++ [⟨op, 0⟩]) (by simp; omega)
  obtain ⟨y3, r3, e3, h3⟩ := r47' V ((o ++ [⟨op, 0⟩]) ++ cde V x) (bs [98, 111, 111, 108]) 0 (by simp; omega)
  obtain ⟨y, r, e⟩ := iv_ne (l := o ++ ⟨op, ((cde V x).length + 1 : Nat)⟩ :: (cde V x ++ [⟨bs [98, 111, 111, 108], 0⟩])) (by simp; omega)
  rw [cb_ne V e1] at h2
  rw [cb_ne V e2] at h3
  refine ⟨y, r, e, f48 _ _ _ _ _ ⟨y1, r1, h1, y2, r2, h2, y3, r3, h3, ?_⟩⟩
  rw [← e3]
  have hlen : (iv (((o ++ [⟨op, 0⟩]) ++ cde V x) ++ [⟨bs [98, 111, 111, 108], 0⟩])).length = o.length + 1 + (cde V x).length + 1 := by simp [iv]; omega
  have hol : (iv o).length = o.length := by simp [iv]
  rw [hlen, hol, toN]
  refine ⟨⟨by omega, by omega⟩, ⟨op, 0⟩, by simp [iv], ?_⟩
  rw [w64 (n := ((o.length + 1 + (cde V x).length + 1 : Nat) : Int) - ((o.length : Nat) : Int)) (by omega), w64 (by omega)]
  have hs : iv (((o ++ [⟨op, 0⟩]) ++ cde V x) ++ [⟨bs [98, 111, 111, 108], 0⟩]) = iv o ++ ((⟨op, 0⟩ : In).t :: iv (cde V x ++ [⟨bs [98, 111, 111, 108], 0⟩])) := by simp [iv]
  rw [hs, set_mid (iv o) _ _ _ hol, ← e]
  simp only [iv, List.map_append, List.map_cons, W_table_Instr.t]
  rw [show ((o.length + 1 + (cde V x).length + 1 : Nat) : Int) - ((o.length : Nat) : Int) - 1 = (((cde V x).length + 1 : Nat) : Int) by omega]
theorem r30 : ∀ x : E, x.snd = true → W48 V x := by
  intro x
  induction x with
  | non => intro h; simp [E.snd] at h
  | lit n =>
    intro _ o ho
    obtain ⟨y, r, e, h⟩ := r47' V o (bs [112, 117, 115, 104]) n (by omega)
    exact ⟨y, r, e, f30 _ _ _ _ (cT rfl ⟨⟨n⟩, rfl, y, r, h, rfl⟩)⟩
  | ref s =>
    intro _ o ho
    obtain ⟨y, r, e, h⟩ := r47' V o (bs [108, 111, 97, 100]) (ix s 0 V) (by omega)
    exact ⟨y, r, e, f30 _ _ _ _ (cF rfl (cT rfl ⟨⟨s⟩, rfl, _, r29 V hV o s, y, r, h, rfl⟩))⟩
  | not x ih =>
    intro hx o ho
    simp only [E.nodes] at ho
    obtain ⟨y1, r1, e1, h1⟩ := ih hx o (by omega)
    obtain ⟨y, r, e, h⟩ := r47' V (o ++ cde V x) (bs [110, 111, 116]) 0 (by have := (cde_len V x hx).2; simp; omega)
    rw [cb_ne V e1] at h
    rw [List.append_assoc] at e
    exact ⟨y, r, e, f30 _ _ _ _ (cF rfl (cF rfl (cT rfl ⟨⟨x.v⟩, rfl, y1, r1, h1, y, r, h, rfl⟩)))⟩
  | neg x ih =>
    intro hx o ho
    simp only [E.nodes] at ho
    obtain ⟨y1, r1, e1, h1⟩ := ih hx o (by omega)
    obtain ⟨y, r, e, h⟩ := r47' V (o ++ cde V x) (bs [110, 101, 103]) 0 (by have := (cde_len V x hx).2; simp; omega)
    rw [cb_ne V e1] at h
    rw [List.append_assoc] at e
    exact ⟨y, r, e, f30 _ _ _ _ (cF rfl (cF rfl (cF rfl (cT rfl ⟨⟨x.v⟩, rfl, y1, r1, h1, y, r, h, rfl⟩))))⟩
  | bin op l r ih1 ih2 =>
    intro hx o ho
    simp only [E.nodes] at ho
    simp only [E.snd, Bool.and_eq_true] at hx
    have hl := cde_len V l hx.1.2
    have hr := cde_len V r hx.2
    obtain ⟨y1, r1, e1, h1⟩ := ih1 hx.1.2 o (by omega)
    have go : ∀ {y : T} {q : List T}, (cond (decide (op = bs [38, 38])) (∃ y7 : T, ∃ l9 : List T, (Rn 48 [.cbox 80 [vv V, .cown 76 2 (y1 :: r1)], st (bs [97, 110, 100]), r.v.v] (.tup [], [.cbox 80 [vv V, .cown 76 2 (y7 :: l9)], .dead, .dead])) ∧ ((.tup [], [.cbox 80 [vv V, .cown 76 2 (y :: q)], .dead]) : T × List T) = (.tup [], [.cbox 80 [vv V, .cown 76 2 (y7 :: l9)], .dead]))
        (cond (decide (op = bs [124, 124])) (∃ y7 : T, ∃ l9 : List T, (Rn 48 [.cbox 80 [vv V, .cown 76 2 (y1 :: r1)], st (bs [111, 114]), r.v.v] (.tup [], [.cbox 80 [vv V, .cown 76 2 (y7 :: l9)], .dead, .dead])) ∧ ((.tup [], [.cbox 80 [vv V, .cown 76 2 (y :: q)], .dead]) : T × List T) = (.tup [], [.cbox 80 [vv V, .cown 76 2 (y7 :: l9)], .dead]))
          (∃ y9 : T, ∃ l11 : List T, (Rn 30 [.cbox 80 [vv V, .cown 76 2 (y1 :: r1)], r.v.v] (.tup [], [.cbox 80 [vv V, .cown 76 2 (y9 :: l11)], .dead])) ∧ (∃ y10 : T, ∃ l12 : List T, (Rn 47 [.cbox 80 [vv V, .cown 76 2 (y9 :: l11)], st op, i64 0] (.tup [], [.cbox 80 [vv V, .cown 76 2 (y10 :: l12)], .dead, .dead])) ∧ ((.tup [], [.cbox 80 [vv V, .cown 76 2 (y :: q)], .dead]) : T × List T) = (.tup [], [.cbox 80 [vv V, .cown 76 2 (y10 :: l12)], .dead]))))) →
        Rn 30 [cb_ V o, (E.bin op l r).v.v] (.tup [], [.cbox 80 [vv V, .cown 76 2 (y :: q)], .dead]) := fun h => f30 _ _ _ _ (cF rfl (cF rfl (cF rfl (cF rfl (cT rfl ⟨⟨op, l.v, r.v⟩, rfl, y1, r1, h1, h⟩)))))
    by_cases hand : op = bs [38, 38]
    · obtain ⟨y, q, e, h⟩ := r48 V r hx.2 (ih2 hx.2) (o ++ cde V l) (bs [97, 110, 100]) (by simp; omega)
      rw [cb_ne V e1] at h
      rw [List.append_assoc] at e
      refine ⟨y, q, ?_, go (cT (by simpa using hand) ⟨y, q, h, rfl⟩)⟩
      rw [cde, if_pos hand]
      exact e
    by_cases hor : op = bs [124, 124]
    · obtain ⟨y, q, e, h⟩ := r48 V r hx.2 (ih2 hx.2) (o ++ cde V l) (bs [111, 114]) (by simp; omega)
      rw [cb_ne V e1] at h
      rw [List.append_assoc] at e
      refine ⟨y, q, ?_, go (cF (by simpa using hand) (cT (by simpa using hor) ⟨y, q, h, rfl⟩))⟩
      rw [cde, if_neg hand, if_pos hor]
      exact e
    · obtain ⟨y2, r2, e2, h2⟩ := ih2 hx.2 (o ++ cde V l) (by simp; omega)
      obtain ⟨y, q, e, h⟩ := r47' V ((o ++ cde V l) ++ cde V r) op 0 (by simp; omega)
      rw [cb_ne V e1] at h2
      rw [cb_ne V e2] at h
      rw [List.append_assoc, List.append_assoc] at e
      refine ⟨y, q, ?_, go (cF (by simpa using hand) (cF (by simpa using hor) ⟨y2, r2, h2, y, q, h, rfl⟩))⟩
      rw [cde, if_neg hand, if_neg hor]
      exact e
end
end Go.Proofs.YthcaodlfnlhfbaaT
