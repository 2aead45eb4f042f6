/- The code of an expression: the document's; TableCodes. -/
import Derived.Test.YthcaodlfnlhfbaaDoorE7
import Derived.Test.YthcaodlfnlhfbaaDoorD
namespace Go.Proofs.YthcaodlfnlhfbaaDoorT
open Go Go.Proofs
set_option linter.unusedVariables false
theorem iv_ok1 (l : List In) : List.all (iv l) T.ok1 = true := List.all_eq_true.2 fun x hx => by
  obtain ⟨w, _, rfl⟩ := List.mem_map.1 hx
  rfl
section
variable (V : List W_api_Var) (hV : V.length ≤ 1000)
include hV
theorem r53 : ∀ x : E, x.snd = true → x.nodes ≤ 100 → Rn 53 [x.d.t, vv V] (.cown 105 2 (iv (cde V x)), [.dead, .dead]) := by
  intro x
  induction x with
  | non => intro h; simp [E.snd] at h
  | lit n => intro _ _; exact f53 _ _ _ (cT rfl rfl)
  | ref s => intro _ _; exact f53 _ _ _ (cF rfl (cT rfl ⟨_, r52 V hV s, rfl⟩))
  | not x ih =>
    intro hx hn
    simp only [E.nodes] at hn
    have h := ih hx (by omega)
    have hl := cde_len V x hx
    obtain ⟨y, r, e⟩ := iv_ne hl.1
    have hyl : (y :: r).length = (cde V x).length := by rw [← e]; simp
    rw [e] at h
    refine f53 _ _ _ (cF rfl (cF rfl (cT rfl ⟨x.d, ⟨by omega, rfl⟩, y, r, h, ckn (by omega) ?_⟩)))
    rw [← e]
    simp [cde, iv, W_table_Instr.t]
  | neg x ih =>
    intro hx hn
    simp only [E.nodes] at hn
    have h := ih hx (by omega)
    have hl := cde_len V x hx
    obtain ⟨y, r, e⟩ := iv_ne hl.1
    have hyl : (y :: r).length = (cde V x).length := by rw [← e]; simp
    rw [e] at h
    refine f53 _ _ _ (cF rfl (cF rfl (cF rfl (cT rfl ⟨x.d, ⟨by omega, rfl⟩, y, r, h, ckn (by omega) ?_⟩))))
    rw [← e]
    simp [cde, iv, W_table_Instr.t]
  | bin op l r ih1 ih2 =>
    intro hx hn
    simp only [E.nodes] at hn
    simp only [E.snd, Bool.and_eq_true] at hx
    have h1 := ih1 hx.1.2 (by omega)
    have h2 := ih2 hx.2 (by omega)
    have hl := cde_len V l hx.1.2
    have hr := cde_len V r hx.2
    obtain ⟨y1, q1, e1⟩ := iv_ne hl.1
    obtain ⟨y2, q2, e2⟩ := iv_ne hr.1
    have hy1 : (y1 :: q1).length = (cde V l).length := by rw [← e1]; simp
    have hy2 : (y2 :: q2).length = (cde V r).length := by rw [← e2]; simp
    have hk : List.all (y2 :: q2) T.ok1 = true := by rw [← e2]; exact iv_ok1 _
    rw [e1] at h1
    rw [e2] at h2
    refine f53 _ _ _ (cF rfl (cF rfl (cF rfl (cF rfl ⟨l.d, ⟨by omega, rfl⟩, y1, q1, h1, r.d, ⟨by omega, rfl⟩, y2, q2, h2, cd (fun ha => ?_) (fun ha => cd (fun ho => ?_) (fun ho => ?_))⟩))))
    · have ha : op = bs [38, 38] := ha
      refine ckn (by omega) (ck hk (ckn (by rw [List.length_append, hy1, hy2]; simp; omega) (ckn (by rw [List.length_append, List.length_append, hy1, hy2]; simp; omega) ?_)))
      rw [hy2, ← e1, ← e2, cde, if_pos ha, wS (by omega)]
      simp [iv, W_table_Instr.t]
    · have ha : ¬ op = bs [38, 38] := ha
      have ho : op = bs [124, 124] := ho
      refine ckn (by omega) (ck hk (ckn (by rw [List.length_append, hy1, hy2]; simp; omega) (ckn (by rw [List.length_append, List.length_append, hy1, hy2]; simp; omega) ?_)))
      rw [hy2, ← e1, ← e2, cde, if_neg ha, if_pos ho, wS (by omega)]
      simp [iv, W_table_Instr.t]
    · have ha : ¬ op = bs [38, 38] := ha
      have ho : ¬ op = bs [124, 124] := ho
      refine ck hk (ckn (by rw [hy1, hy2]; omega) (ckn (by rw [List.length_append, hy1, hy2]; omega) ?_))
      rw [← e1, ← e2, cde, if_neg ha, if_neg ho]
      simp [iv, W_table_Instr.t, E.d]
end
theorem st_ok1 (L : List ByteArray) (a b : Nat) : List.all (List.drop a (List.take b (L.map st))) T.ok1 = true := List.all_eq_true.2 fun x hx => by
  obtain ⟨w, _, rfl⟩ := List.mem_map.1 (List.mem_of_mem_take (List.mem_of_mem_drop hx))
  rfl
/-- A name laid among rising ones: all that matters is which ones there are. -/
theorem r99 (L : List ByteArray) (s : ByteArray) (hL : L.length ≤ 1000) : ∃ L' : List ByteArray, Rn 99 [.sl 1 (L.map st), st s] (.sl 1 (L'.map st), [.dead, .dead]) ∧ (∀ t, t ∈ L' ↔ t ∈ L ∨ t = s) ∧ L'.length ≤ L.length + 1 := by
  have ins : ∀ (k : Nat) (R : T × List T), k ≤ L.length → R = (.sl 1 ((L.take k ++ s :: L.drop k).map st), [.dead, .dead]) →
      (((0 : Int) ≤ (k : Int) ∧ (k : Int) ≤ ((((L.map st).length) : Nat) : Int)) ∧
       (chk (List.all (List.drop 0 (List.take (Int.toNat (k : Int)) (L.map st))) T.ok1)
        (chk (Nat.ble ((List.length (List.drop 0 (List.take (Int.toNat (k : Int)) (L.map st)))) * 16) 140737488355328)
         (cond (List.isEmpty (List.drop 0 (List.take (Int.toNat (k : Int)) (L.map st))))
          (((0 : Int) ≤ (k : Int) ∧ (k : Int) ≤ ((((L.map st).length) : Nat) : Int)) ∧
           (chk (List.all (List.drop (Int.toNat (k : Int)) (List.take (List.length (L.map st)) (L.map st))) T.ok1)
            (chk (Nat.ble ((1 + (List.length (List.drop (Int.toNat (k : Int)) (List.take (List.length (L.map st)) (L.map st))))) * 16) 140737488355328)
             (R = ((.sl 1 ([(st s)] ++ (List.drop (Int.toNat (k : Int)) (List.take (List.length (L.map st)) (L.map st))))), [.dead, .dead])))))
          (chk (Nat.ble (((List.length (List.drop 0 (List.take (Int.toNat (k : Int)) (L.map st)))) + 1) * 16) 140737488355328)
           (((0 : Int) ≤ (k : Int) ∧ (k : Int) ≤ ((((L.map st).length) : Nat) : Int)) ∧
            (chk (List.all (List.drop (Int.toNat (k : Int)) (List.take (List.length (L.map st)) (L.map st))) T.ok1)
             (chk (Nat.ble (((List.length ((List.drop 0 (List.take (Int.toNat (k : Int)) (L.map st))) ++ [(st s)])) + (List.length (List.drop (Int.toNat (k : Int)) (List.take (List.length (L.map st)) (L.map st))))) * 16) 140737488355328)
              (R = ((.sl 1 (((List.drop 0 (List.take (Int.toNat (k : Int)) (L.map st))) ++ [(st s)]) ++ (List.drop (Int.toNat (k : Int)) (List.take (List.length (L.map st)) (L.map st))))), [.dead, .dead])))))))))) := by
    intro k R hk hR
    subst hR
    have hk' : (0 : Int) ≤ (k : Int) ∧ (k : Int) ≤ ((((L.map st).length) : Nat) : Int) := ⟨by omega, by simp; omega⟩
    rw [toN]
    refine ⟨hk', ck (st_ok1 _ _ _) (ckn (by simp; omega) (cb (fun he => ⟨hk', ck (st_ok1 _ _ _) (ckn (by simp; omega) ?_)⟩) (fun he => ckn (by simp; omega) ⟨hk', ck (st_ok1 _ _ _) (ckn (by simp; omega) ?_)⟩)))⟩
    · have h0 : L.take k = [] := by
        have := List.isEmpty_iff.1 he
        rw [List.drop_zero, ← List.map_take] at this
        exact List.map_eq_nil_iff.1 this
      rw [h0, List.take_of_length_le (Nat.le_refl _)]
      simp
    · rw [List.take_of_length_le (Nat.le_refl _), List.drop_zero]
      simp
  have memI : ∀ k, ∀ t, t ∈ L.take k ++ s :: L.drop k ↔ t ∈ L ∨ t = s := by
    intro k t
    have : t ∈ L ↔ t ∈ L.take k ∨ t ∈ L.drop k := by rw [← List.mem_append, List.take_append_drop]
    rw [this]
    simp only [List.mem_append, List.mem_cons]
    constructor
    · rintro (h | h | h)
      · exact .inl (.inl h)
      · exact .inr h
      · exact .inl (.inr h)
    · rintro ((h | h) | h)
      · exact .inl h
      · exact .inr (.inr h)
      · exact .inr (.inl h)
  have lenI : ∀ k, k ≤ L.length → (L.take k ++ s :: L.drop k).length ≤ L.length + 1 := by
    intro k hk
    simp
    omega
  have loop : ∀ (d k : Nat), k + d = L.length → ∃ L' : List ByteArray, L99_0 (L.map st) s (k : Int) (.sl 1 (L'.map st), [.dead, .dead]) ∧ (∀ t, t ∈ L' ↔ t ∈ L ∨ t = s) ∧ L'.length ≤ L.length + 1 := by
    intro d
    induction d with
    | zero =>
      intro k hk
      exact ⟨_, l99_0 _ _ _ _ (cF (by simp; omega) (cF (by simp; omega) (ins k _ (by omega) rfl))), memI k, lenI k (by omega)⟩
    | succ d ih =>
      intro k hk
      have hlt : k < L.length := by omega
      have hd : decide ((k : Int) < ((((L.map st).length) : Nat) : Int)) = true := by simp; omega
      have hg : (0 : Int) ≤ (k : Int) ∧ (L.map st)[Int.toNat (k : Int)]? = some (st L[k]) := ⟨by omega, getm hlt⟩
      cases hb : Op.bytesLess (ByteArray.toList L[k]) (ByteArray.toList s) with
      | true =>
        obtain ⟨L', h1, h2, h3⟩ := ih (k + 1) (by omega)
        refine ⟨L', l99_0 _ _ _ _ (cT hd ⟨L[k], hg, cT hb ?_⟩), h2, h3⟩
        rw [wS (by omega)]
        exact h1
      | false =>
        by_cases he : L[k] = s
        · refine ⟨L, l99_0 _ _ _ _ (cT hd ⟨L[k], hg, cF hb (cT hd ⟨L[k], hg, cT (by simpa using he) rfl⟩)⟩), fun t => ⟨.inl, fun h => ?_⟩, by omega⟩
          rcases h with h | h
          · exact h
          · rw [h, ← he]; exact List.getElem_mem hlt
        · exact ⟨_, l99_0 _ _ _ _ (cT hd ⟨L[k], hg, cF hb (cT hd ⟨L[k], hg, cF (by simpa using he) (ins k _ (by omega) rfl)⟩)⟩), memI k, lenI k (by omega)⟩
  obtain ⟨L', h1, h2, h3⟩ := loop L.length 0 (by omega)
  exact ⟨L', f99 _ _ _ h1, h2, h3⟩
theorem names_ops {x : E} (h : ∀ s, x ≠ .ref s) (t : ByteArray) : t ∈ x.names ↔ ∃ y ∈ x.ops, t ∈ y.names := by
  cases x with
  | ref s => exact absurd rfl (h s)
  | _ => simp [E.names, E.ops]
theorem r76 : ∀ (x : E) (L : List ByteArray), L.length + x.nodes ≤ 900 → ∃ L' : List ByteArray, Rn 76 [x.d.t, .sl 1 (L.map st)] (.sl 1 (L'.map st), [.dead, .dead]) ∧ (∀ t, t ∈ L' ↔ t ∈ L ∨ t ∈ x.names) ∧ L'.length ≤ L.length + x.nodes := by
  refine E.rec_ops fun x IH L hb => ?_
  have hlen := ops_len x
  have loop : ∀ (d k : Nat) (L : List ByteArray), k + d = x.ops.length → L.length + ((x.ops.drop k).map E.nodes).sum ≤ 900 → ∃ L' : List ByteArray, L76_0 (L.map st) (((x.d.fParts).length : Nat) : Int) (k : Int) x.d (.sl 1 (L'.map st), [.dead, .dead]) ∧
      (∀ t, t ∈ L' ↔ t ∈ L ∨ ∃ y ∈ x.ops.drop k, t ∈ y.names) ∧ L'.length ≤ L.length + ((x.ops.drop k).map E.nodes).sum := by
    intro d
    induction d with
    | zero =>
      intro k L hk hL
      refine ⟨L, ?_, ?_, by omega⟩
      · rw [d_parts]; exact l76_0 _ _ _ _ _ (cF (by simp; omega) rfl)
      · intro t; rw [List.drop_of_length_le (by omega)]; simp
    | succ d ih =>
      intro k L hk hL
      have hlt : k < x.ops.length := by omega
      have hd : ((x.ops.drop k).map E.nodes).sum = (x.ops[k]).nodes + ((x.ops.drop (k + 1)).map E.nodes).sum := by rw [List.drop_eq_getElem_cons hlt, List.map_cons, List.sum_cons]
      obtain ⟨L1, h1, m1, l1⟩ := IH _ (List.getElem_mem hlt) L (by omega)
      obtain ⟨L2, h2, m2, l2⟩ := ih (k + 1) L1 (by omega) (by omega)
      refine ⟨L2, ?_, fun t => ?_, by omega⟩
      · rw [d_parts] at h2 ⊢
        refine l76_0 _ _ _ _ _ (cT (by simp; omega) ⟨(x.ops[k]).d, ⟨by omega, by rw [d_parts]; exact getd hlt⟩, L1.map st, h1, ?_⟩)
        rw [wS (by omega)]
        exact h2
      · rw [m2, m1, List.drop_eq_getElem_cons hlt]
        simp only [List.mem_cons, exists_eq_or_imp]
        constructor
        · rintro ((h | h) | h)
          · exact .inl h
          · exact .inr (.inl h)
          · exact .inr (.inr h)
        · rintro (h | h | h)
          · exact .inl (.inl h)
          · exact .inl (.inr h)
          · exact .inr h
  by_cases hr : ∃ s, x = .ref s
  · obtain ⟨s, rfl⟩ := hr
    simp only [E.nodes] at hb
    obtain ⟨L1, h1, m1, l1⟩ := r99 L s (by omega)
    obtain ⟨L2, h2, m2, l2⟩ := loop 0 0 L1 rfl (by simp [E.ops]; omega)
    refine ⟨L2, f76 _ _ _ (cT rfl ⟨_, h1, h2⟩), fun t => ?_, ?_⟩
    · rw [m2, m1]; simp [E.ops, E.names]
    · simp only [E.nodes]; simp [E.ops] at l2; omega
  · have hr' : ∀ s, x ≠ .ref s := fun s e => hr ⟨s, e⟩
    have hn : x.nodes = (x.ops.map E.nodes).sum + 1 := nodes_ops x
    obtain ⟨L2, h2, m2, l2⟩ := loop x.ops.length 0 L (by omega) (by rw [List.drop_zero]; omega)
    rw [List.drop_zero] at m2 l2
    refine ⟨L2, f76 _ _ _ (cF ?_ h2), fun t => ?_, by omega⟩
    · cases x with
      | ref s => exact absurd rfl (hr' s)
      | _ => rfl
    · rw [m2, names_ops hr']
/-- Is there a name that is no variable's? -/
def bare (V : List W_api_Var) (x : E) : Bool := x.names.any fun s => decide (ix s 0 V < 0)
theorem any_mem {V : List W_api_Var} {L : List ByteArray} {x : E} (h : ∀ t, t ∈ L ↔ t ∈ x.names) : (L.any fun s => decide (ix s 0 V < 0)) = bare V x := by
  refine Bool.eq_iff_iff.2 ?_
  simp only [bare, List.any_eq_true]
  constructor
  · rintro ⟨s, h1, h2⟩; exact ⟨s, (h s).1 h1, h2⟩
  · rintro ⟨s, h1, h2⟩; exact ⟨s, (h s).2 h1, h2⟩
/-- What both tell. -/
def cdR (V : List W_api_Var) (x : E) : T × List T := if x.ok = false then (.tup [.sl 2 [], i64 1], [.dead, .dead]) else if bare V x = true then (.tup [.sl 2 [], i64 5], [.dead, .dead]) else (.tup [.sl 2 (iv (cde V x)), i64 0], [.dead, .dead])
theorem ok_parts {x : E} (h : x.ok = true) : x.nodes ≤ 40 ∧ x.snd = true := by
  simp only [E.ok, E.sd, Bool.and_eq_true, decide_eq_true_eq] at h
  exact ⟨h.1, h.2.1⟩
theorem r21 (V : List W_api_Var) (hV : V.length ≤ 1000) (x : E) (hw : x.wf) : Rn 21 [x.d.t, vv V] (cdR V x) := by
  refine f21 _ _ _ ⟨_, r50 x hw, ?_⟩
  cases hk : x.ok with
  | false => exact cT rfl (by rw [cdR, if_pos hk])
  | true =>
    obtain ⟨hn, hs⟩ := ok_parts hk
    obtain ⟨L, h76, hm, hl⟩ := r76 x [] (by simp; omega)
    have h51 : Rn 51 [x.d.t] (.sl 1 (L.map st), [.dead]) := f51 _ _ ⟨_, r50 x hw, by rw [hk]; exact cF rfl ⟨_, h76, rfl⟩⟩
    refine cF rfl ⟨_, h51, ?_⟩
    simp at hl
    have hm' : ∀ t, t ∈ L ↔ t ∈ x.names := fun t => by rw [hm]; simp
    rw [cdR, if_neg (by rw [hk]; simp), ← any_mem hm']
    have loop : ∀ (d k : Nat), k + d = L.length → L21_0 (V.map W_api_Var.t) (L.map st) (((L.map st).length : Nat) : Int) (k : Int) x.d (if ((L.drop k).any fun s => decide (ix s 0 V < 0)) = true then (.tup [.sl 2 [], i64 5], [.dead, .dead]) else (.tup [.sl 2 (iv (cde V x)), i64 0], [.dead, .dead])) := by
      intro d
      induction d with
      | zero =>
        intro k hk
        obtain ⟨y, r, e⟩ := iv_ne (cde_len V x hs).1
        have h53 := r53 V hV x hs (by omega)
        rw [List.drop_of_length_le (by omega), e]
        rw [e] at h53
        exact l21_0 _ _ _ _ _ _ (cF (by simp; omega) ⟨y, r, h53, rfl⟩)
      | succ d ih =>
        intro k hk
        have hlt : k < L.length := by omega
        rw [List.drop_eq_getElem_cons hlt, List.any_cons]
        refine l21_0 _ _ _ _ _ _ (cT (by simp; omega) ⟨L[k], ⟨by omega, getm hlt⟩, _, r52 V hV L[k], cd (fun h => ?_) (fun h => ?_)⟩)
        · rw [decide_eq_true h, Bool.true_or, if_pos rfl]
        · rw [decide_eq_false h, Bool.false_or, wS (by omega)]
          exact ih (k + 1) (by omega)
    have := loop L.length 0 (by omega)
    rw [List.drop_zero] at this
    exact this
/-- What expr.Refs comes to of a formed expression (given by hand). -/
def RefsSaid : Prop := ∀ x : E, x.wf → x.ok = true → ∃ L : List ByteArray, Rn 45 [x.v.v] (.sl 1 (L.map st), [.dead]) ∧ (∀ t, t ∈ L ↔ t ∈ x.names) ∧ L.length ≤ 1000
theorem r19 (hR : RefsSaid) (V : List W_api_Var) (hV : V.length ≤ 1000) (x : E) (hw : x.wf) : Rn 19 [x.v.v, vv V] (cdR V x) := by
  refine f19 _ _ _ ⟨_, r43 x hw, ?_⟩
  cases hk : x.ok with
  | false => exact cT rfl (by rw [cdR, if_pos hk])
  | true =>
    obtain ⟨hn, hs⟩ := ok_parts hk
    obtain ⟨L, h45, hm, hl⟩ := hR x hw hk
    refine cF rfl ⟨_, h45, _, r44 V hV L hl [], ?_⟩
    rw [cdR, if_neg (by rw [hk]; simp), any_mem hm]
    refine cb (fun hb => by rw [if_pos hb]) (fun hb => ?_)
    obtain ⟨y, r, e, h48⟩ := r48 V hV x hs [] (by simp; omega)
    rw [List.nil_append] at e
    rw [if_neg (by rw [hb]; simp), e]
    exact ⟨y, r, h48, rfl⟩
theorem r24 (l : List In) (hl : l.length ≤ 1000) : Rn 24 [.sl 2 (iv l)] (.sl 2 (iv l), [.dead]) := by
  have loop : ∀ (d k : Nat), k + d = l.length → L24_0 (iv l) ((iv l).take k) (((iv l).length : Nat) : Int) (k : Int) (.sl 2 (iv l), [.dead]) := by
    intro d
    induction d with
    | zero => intro k hk; exact l24_0 _ _ _ _ _ (cF (by simp; omega) (by rw [List.take_of_length_le (by simp; omega)]))
    | succ d ih =>
      intro k hk
      have hlt : k < l.length := by omega
      have h := ih (k + 1) (by omega)
      rw [List.take_succ_eq_append_getElem (by simp; omega)] at h
      refine l24_0 _ _ _ _ _ (cT (by simp; omega) ⟨l[k], ⟨by omega, getm hlt⟩, ckn (by simp; omega) ?_⟩)
      rw [wS (by omega)]
      simpa using h
  exact f24 _ _ (loop l.length 0 (by omega))
theorem r23 (l : List In) (hl : l.length ≤ 1000) : Rn 23 [.sl 2 (iv l), .sl 2 (iv l)] (tb true, [.dead, .dead]) := by
  have loop : ∀ (d k : Nat), k + d = l.length → L23_0 (iv l) (iv l) (((iv l).length : Nat) : Int) (k : Int) (tb true, [.dead, .dead]) := by
    intro d
    induction d with
    | zero => intro k hk; exact l23_0 _ _ _ _ _ (cF (by simp; omega) rfl)
    | succ d ih =>
      intro k hk
      have hlt : k < l.length := by omega
      refine l23_0 _ _ _ _ _ (cT (by simp; omega) ⟨⟨(l[k]).fOp, (l[k]).fN⟩, ⟨by omega, getm hlt⟩, ⟨(l[k]).fOp, (l[k]).fN⟩, ⟨by omega, getm hlt⟩, cF (by simp) ?_⟩)
      rw [wS (by omega)]
      exact ih (k + 1) (by omega)
  exact f23 _ _ _ (cF (by simp) (loop l.length 0 (by omega)))
theorem r17 (hR : RefsSaid) : Rn 17 [] (tb true, []) := by
  have h := r19 hR [] (by simp) (.lit 5) trivial
  rw [cdR, if_neg (by decide), if_neg (by decide)] at h
  exact f17 _ ⟨_, _, h, cT rfl (cT rfl ⟨⟨bs [112, 117, 115, 104], 5⟩, ⟨by omega, rfl⟩, cT (by simp) ⟨⟨bs [112, 117, 115, 104], 5⟩, ⟨by omega, rfl⟩, rfl⟩⟩)⟩
/-- A raw expression: what it is, by both. -/
theorem raw : ∀ (m : Nat) (w : W_tumbrelref04_Node), ByteArray.size w.fS ≤ maxLen → SlT Tryd.prog m 37 w.fParts → ∃ x : E, x.wf ∧ Rn 20 [w.t] (x.v.v, [.dead]) ∧ Rn 22 [w.t] (x.d.t, [.dead]) := by
  intro m
  induction m using Nat.strongRecOn with
  | _ m ih =>
    intro w hS hs
    have hl := Nat.le_trans hs.len maxLen_lt
    have part : ∀ i : Nat, i ≤ 1 → ∃ x : E, x.wf ∧ Rn 49 [i64 (i : Int), .cbox 37 [i64 w.fKind, i64 w.fN, st w.fS, .sl 4 w.fParts]] (x.v.v, [.dead, .cbox 37 [i64 w.fKind, i64 w.fN, st w.fS, .sl 4 w.fParts]]) ∧
        ((i < w.fParts.length ∧ ∃ w1 : W_tumbrelref04_Node, w.fParts[i]? = some w1.t ∧ Rn 22 [w1.t] (x.d.t, [.dead])) ∨ (¬ i < w.fParts.length ∧ x = .non)) := by
      intro i hi1
      by_cases hi : i < w.fParts.length
      · obtain ⟨y, hx, hy⟩ := hs.get (List.getElem?_eq_getElem hi)
        obtain ⟨w1, hw1, _, _, hS1, m', hm', hs'⟩ := d37 hy
        obtain ⟨x, hwf, h20, h22⟩ := ih m' hm' w1 hS1 hs'
        rw [hw1] at hx
        have hg : w.fParts[i]? = some w1.t := by rw [List.getElem?_eq_getElem hi, hx]
        exact ⟨x, hwf, f49 _ _ _ _ _ _ (cT (by simp; omega) ⟨w1, ⟨by omega, by rw [toN]; exact hg⟩, _, h20, rfl⟩), .inl ⟨hi, w1, hg, h22⟩⟩
      · exact ⟨.non, trivial, f49 _ _ _ _ _ _ (cF (by simp; omega) rfl), .inr ⟨hi, rfl⟩⟩
    have step : ∀ (n i : Nat) (l : List T) (n2 n3 : Int) (s : ByteArray) (n4 n5 : Int) (s1 : ByteArray) (R : T × List T) (x : E), i < n → n ≤ 2 → l.length ≤ 2 → ((i < w.fParts.length ∧ ∃ w1 : W_tumbrelref04_Node, w.fParts[i]? = some w1.t ∧ Rn 22 [w1.t] (x.d.t, [.dead])) ∨ (¬ i < w.fParts.length ∧ x = .non)) →
        L22_0 (n : Int) ((i + 1 : Nat) : Int) w n2 n3 s n4 n5 s1 (l ++ [x.d.t]) R → L22_0 (n : Int) (i : Int) w n2 n3 s n4 n5 s1 l R := by
      intro n i l n2 n3 s n4 n5 s1 R x hin hn hll hx h
      rcases hx with ⟨hi, w1, hg, h22⟩ | ⟨hi, rfl⟩
      · refine l22_0 _ _ _ _ _ _ _ _ _ _ _ (cT (by simp; omega) (cT (by simp; omega) ⟨w1, ⟨by omega, by rw [toN]; exact hg⟩, x.d, h22, ckn (by omega) ?_⟩))
        rw [wS (by omega)]
        exact h
      · refine l22_0 _ _ _ _ _ _ _ _ _ _ _ (cT (by simp; omega) (cF (by simp; omega) (ckn (by omega) ?_)))
        rw [wS (by omega)]
        exact h
    have fin : ∀ (n : Nat) (l : List T) (n2 n3 : Int) (s : ByteArray) (n4 n5 : Int) (s1 : ByteArray), L22_0 (n : Int) (n : Int) w n2 n3 s n4 n5 s1 l (.agg [i64 n4, i64 n5, st s1, .sl 4 l], [.dead]) := fun n l n2 n3 s n4 n5 s1 => l22_0 _ _ _ _ _ _ _ _ _ _ _ (cF (by simp) rfl)
    obtain ⟨x0, wf0, h0, p0⟩ := part 0 (by omega)
    obtain ⟨x1, wf1, h1, p1⟩ := part 1 (by omega)
    by_cases k1 : w.fKind = 1
    · exact ⟨.lit w.fN, trivial, f20 _ _ (cT (by simpa using k1) rfl), f22 _ _ (cT (by simpa using k1) rfl)⟩
    by_cases k2 : w.fKind = 2
    · exact ⟨.ref w.fS, hS, f20 _ _ (cF (by simpa using k1) (cT (by simpa using k2) rfl)), f22 _ _ (cF (by simpa using k1) (cT (by simpa using k2) rfl))⟩
    by_cases k3 : w.fKind = 3
    · refine ⟨.not x0, wf0, f20 _ _ (cF (by simpa using k1) (cF (by simpa using k2) (cT (by simpa using k3) ⟨_, h0, rfl⟩))), f22 _ _ (cF (by simpa using k1) (cF (by simpa using k2) (cT (by simpa using k3) ?_)))⟩
      have := step 1 0 [] 0 0 (bs []) w.fKind 0 (bs []) _ x0 (by omega) (by omega) (by simp) p0 (fin 1 _ _ _ _ _ _ _)
      rw [k3] at this ⊢
      exact this
    by_cases k4 : w.fKind = 4
    · refine ⟨.neg x0, wf0, f20 _ _ (cF (by simpa using k1) (cF (by simpa using k2) (cF (by simpa using k3) (cT (by simpa using k4) ⟨_, h0, rfl⟩)))), f22 _ _ (cF (by simpa using k1) (cF (by simpa using k2) (cF (by simpa using k3) (cT (by simpa using k4) ?_))))⟩
      have := step 1 0 [] 0 0 (bs []) w.fKind 0 (bs []) _ x0 (by omega) (by omega) (by simp) p0 (fin 1 _ _ _ _ _ _ _)
      rw [k4] at this ⊢
      exact this
    by_cases k5 : w.fKind = 5
    · refine ⟨.bin w.fS x0 x1, ⟨wf0, wf1⟩, f20 _ _ (cF (by simpa using k1) (cF (by simpa using k2) (cF (by simpa using k3) (cF (by simpa using k4) (cT (by simpa using k5) ⟨_, h0, rfl, _, h1, rfl, rfl⟩))))), f22 _ _ (cF (by simpa using k1) (cF (by simpa using k2) (cF (by simpa using k3) (cF (by simpa using k4) (cT (by simpa using k5) ?_)))))⟩
      exact step 2 0 [] 0 0 (bs []) 5 0 w.fS _ x0 (by omega) (by omega) (by simp) p0 (step 2 1 _ 0 0 (bs []) 5 0 w.fS _ x1 (by omega) (by omega) (by simp) p1 (fin 2 _ _ _ _ _ _ _))
    · exact ⟨.non, trivial, f20 _ _ (cF (by simpa using k1) (cF (by simpa using k2) (cF (by simpa using k3) (cF (by simpa using k4) (cF (by simpa using k5) rfl))))), f22 _ _ (cF (by simpa using k1) (cF (by simpa using k2) (cF (by simpa using k3) (cF (by simpa using k4) (cF (by simpa using k5) (fin 0 [] 0 0 (bs []) 0 0 (bs [])))))))⟩
end Go.Proofs.YthcaodlfnlhfbaaDoorT
