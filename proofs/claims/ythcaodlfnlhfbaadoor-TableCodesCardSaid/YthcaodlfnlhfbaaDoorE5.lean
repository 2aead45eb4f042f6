/- Expressions as the document has them: what its functions on them come to. -/
import Derived.Test.YthcaodlfnlhfbaaDoorH2
import Derived.Test.YthcaodlfnlhfbaaDoorR0
namespace Go.Proofs.YthcaodlfnlhfbaaDoorT
open Go Go.Proofs
set_option linter.unusedVariables false
/-- As the document has it. -/
def E.d : E → W_tumbrelref04_Node
  | .non => ⟨0, 0, bs [], []⟩
  | .lit n => ⟨1, n, bs [], []⟩
  | .ref s => ⟨2, 0, s, []⟩
  | .not x => ⟨3, 0, bs [], [x.d.t]⟩
  | .neg x => ⟨4, 0, bs [], [x.d.t]⟩
  | .bin op l r => ⟨5, 0, op, [l.d.t, r.d.t]⟩
abbrev ds (l : List E) : List T := l.map fun y => y.d.t
theorem getd {l : List E} {k : Nat} (h : k < l.length) : (ds l)[Int.toNat (k : Int)]? = some (l[k]).d.t := getm h
theorem d_parts (x : E) : x.d.fParts = ds x.ops := by cases x <;> rfl
theorem r73_of (x : E) (IH : ∀ y ∈ x.ops, Rn 73 [y.d.t] (i64 (least (y.nodes : Int) 41), [.dead])) : Rn 73 [x.d.t] (i64 (least (x.nodes : Int) 41), [.dead]) := by
  have hlen := ops_len x
  have loop : ∀ (d k : Nat) (n : Int), k + d = x.ops.length → 0 ≤ n → n ≤ 1 + 41 * k → L73_0 n (((x.d.fParts).length : Nat) : Int) (k : Int) x.d (i64 (least (n + ((((x.ops.drop k).map E.nodes).sum : Nat) : Int)) 41), [.dead]) := by
    intro d
    induction d with
    | zero =>
      intro k n hk h0 h1
      rw [d_parts]
      refine l73_0 _ _ _ _ _ (cF (by simp; omega) ?_)
      rw [List.drop_of_length_le (by omega)]
      simp only [List.map_nil, List.sum_nil, least]
      congr 2
      repeat' split
      all_goals omega
    | succ d ih =>
      intro k n hk h0 h1
      have hlt : k < x.ops.length := by omega
      have hd : ((x.ops.drop k).map E.nodes).sum = (x.ops[k]).nodes + ((x.ops.drop (k + 1)).map E.nodes).sum := by rw [List.drop_eq_getElem_cons hlt, List.map_cons, List.sum_cons]
      have hp := nodes_pos x.ops[k]
      have h := ih (k + 1) (n + least ((x.ops[k]).nodes : Int) 41) (by omega) (by unfold least; split <;> omega) (by unfold least; split <;> omega)
      rw [d_parts] at h ⊢
      refine l73_0 _ _ _ _ _ (cT (by simp; omega) ⟨(x.ops[k]).d, ⟨by omega, by rw [d_parts]; exact getd hlt⟩, _, IH _ (List.getElem_mem hlt), ?_⟩)
      rw [wS (by omega), w64 (by unfold least; split <;> omega)]
      have e : least (n + ((((x.ops.drop k).map E.nodes).sum : Nat) : Int)) 41 = least (n + least ((x.ops[k]).nodes : Int) 41 + ((((x.ops.drop (k + 1)).map E.nodes).sum : Nat) : Int)) 41 := by
        rw [hd]
        unfold least
        repeat' split
        all_goals omega
      rw [e]
      exact h
  have := loop x.ops.length 0 1 (by omega) (by omega) (by omega)
  rw [List.drop_zero] at this
  have e : ((x.nodes : Nat) : Int) = 1 + ((((x.ops).map E.nodes).sum : Nat) : Int) := by rw [nodes_ops]; omega
  rw [e]
  exact f73 _ _ this
theorem E.rec_ops {p : E → Prop} (h : ∀ x : E, (∀ y ∈ x.ops, p y) → p x) : ∀ x, p x := by
  intro x
  induction x with
  | non => exact h _ (fun y h => by simp [E.ops] at h)
  | lit n => exact h _ (fun y h => by simp [E.ops] at h)
  | ref s => exact h _ (fun y h => by simp [E.ops] at h)
  | not x ih => exact h _ (fun y h => by simp only [E.ops, List.mem_singleton] at h; subst h; exact ih)
  | neg x ih => exact h _ (fun y h => by simp only [E.ops, List.mem_singleton] at h; subst h; exact ih)
  | bin op l r ih1 ih2 => exact h _ (fun y h => by
      simp only [E.ops, List.mem_cons, List.not_mem_nil, or_false] at h
      rcases h with rfl | rfl
      · exact ih1
      · exact ih2)
theorem r73 : ∀ x : E, Rn 73 [x.d.t] (i64 (least (x.nodes : Int) 41), [.dead]) := E.rec_ops r73_of
theorem deep_nodes : ∀ x : E, x.deep ≤ x.nodes := by
  intro x
  induction x <;> simp only [E.deep, E.nodes] <;> omega
theorem deep_ops (x : E) : x.deep = (x.ops.map E.deep).foldl max 0 + 1 := by cases x <;> simp [E.deep, E.ops]
theorem nodes_mem {x y : E} (h : y ∈ x.ops) : y.nodes < x.nodes := by
  cases x <;> simp [E.ops] at h
  · subst h; simp [E.nodes]
  · subst h; simp [E.nodes]
  · rcases h with rfl | rfl <;> simp only [E.nodes] <;> omega
theorem r74 : ∀ x : E, x.nodes ≤ 40 → Rn 74 [x.d.t] (i64 (x.deep : Int), [.dead]) := by
  refine E.rec_ops fun x IH h40 => ?_
  have hlen := ops_len x
  have hb : ∀ y ∈ x.ops, y.deep ≤ 40 := fun y hy => by have := nodes_mem hy; have := deep_nodes y; omega
  have loop : ∀ (d k n : Nat), k + d = x.ops.length → n ≤ 40 → L74_0 (n : Int) (((x.d.fParts).length : Nat) : Int) (k : Int) x.d (i64 ((((x.ops.drop k).map E.deep).foldl max n + 1 : Nat) : Int), [.dead]) := by
    intro d
    induction d with
    | zero =>
      intro k n hk hn
      rw [d_parts]
      refine l74_0 _ _ _ _ _ (cF (by simp; omega) ?_)
      rw [List.drop_of_length_le (by omega), wS (by omega)]
      rfl
    | succ d ih =>
      intro k n hk hn
      have hlt : k < x.ops.length := by omega
      have hy := hb _ (List.getElem_mem hlt)
      have h := ih (k + 1) (max n (x.ops[k]).deep) (by omega) (by omega)
      rw [List.drop_eq_getElem_cons hlt]
      rw [d_parts] at h ⊢
      refine l74_0 _ _ _ _ _ (cT (by simp; omega) ⟨(x.ops[k]).d, ⟨by omega, by rw [d_parts]; exact getd hlt⟩, _, IH _ (List.getElem_mem hlt) (by have := nodes_mem (List.getElem_mem hlt); omega), ?_⟩)
      rw [wS (by omega)]
      have e : (if (n : Int) < ((x.ops[k]).deep : Int) then ((x.ops[k]).deep : Int) else (n : Int)) = ((max n (x.ops[k]).deep : Nat) : Int) := by split <;> omega
      rw [e]
      exact h
  have := loop x.ops.length 0 0 (by omega) (by omega)
  rw [List.drop_zero, ← deep_ops] at this
  exact f74 _ _ this
theorem r98 (s : ByteArray) : Rn 98 [st s] (tb (decide (lvl s ≠ 0)), [.dead]) := by
  rw [← ops_lvl]
  have yes : s ∈ OPS → (OPS.any fun y => decide (s = y)) = true := fun h => List.any_eq_true.2 ⟨s, h, by simp⟩
  refine f98 _ _ ?_
  refine cd (fun h => tbR (yes (by subst h; simp [OPS]))) (fun h1 => ?_)
  refine cd (fun h => tbR (yes (by subst h; simp [OPS]))) (fun h2 => ?_)
  refine cd (fun h => tbR (yes (by subst h; simp [OPS]))) (fun h3 => ?_)
  refine cd (fun h => tbR (yes (by subst h; simp [OPS]))) (fun h4 => ?_)
  refine cd (fun h => tbR (yes (by subst h; simp [OPS]))) (fun h5 => ?_)
  refine cd (fun h => tbR (yes (by subst h; simp [OPS]))) (fun h6 => ?_)
  refine cd (fun h => tbR (yes (by subst h; simp [OPS]))) (fun h7 => ?_)
  refine cd (fun h => tbR (yes (by subst h; simp [OPS]))) (fun h8 => ?_)
  refine cd (fun h => tbR (yes (by subst h; simp [OPS]))) (fun h9 => tbR ?_)
  simp only [OPS, List.any_cons, List.any_nil, h1, h2, h3, h4, h5, h6, h7, h8, h9, decide_false, Bool.or_false]
theorem r75 : ∀ x : E, x.wf → Rn 75 [x.d.t] (tb x.snd, [.dead]) := by
  refine E.rec_ops fun x IH hw => ?_
  have hlen := ops_len x
  have hww := E.ops_wf hw
  have loop : ∀ (d k : Nat), k + d = x.ops.length → L75_0 (((x.d.fParts).length : Nat) : Int) (k : Int) x.d (tb ((x.ops.drop k).all E.snd), [.dead]) := by
    intro d
    induction d with
    | zero =>
      intro k hk
      rw [d_parts]
      refine l75_0 _ _ _ _ (cF (by simp; omega) (tbR ?_))
      rw [List.drop_of_length_le (by omega)]
      rfl
    | succ d ih =>
      intro k hk
      have hlt : k < x.ops.length := by omega
      have h := ih (k + 1) (by omega)
      rw [List.drop_eq_getElem_cons hlt]
      rw [d_parts] at h ⊢
      refine l75_0 _ _ _ _ (cT (by simp; omega) ⟨(x.ops[k]).d, ⟨by omega, by rw [d_parts]; exact getd hlt⟩, _, IH _ (List.getElem_mem hlt) (hww _ (List.getElem_mem hlt)), cb (fun hb => tbR ?_) (fun hb => ?_)⟩)
      · have hb : (x.ops[k]).snd = false := by simpa using hb
        rw [List.all_cons, hb, Bool.false_and]
      · have hb : (x.ops[k]).snd = true := by simpa using hb
        rw [wS (by omega)]
        simp only [List.all_cons, hb, Bool.true_and]
        exact h
  have hall := loop x.ops.length 0 (by omega)
  rw [List.drop_zero] at hall
  cases x with
  | non => exact f75 _ _ (cF rfl (cF rfl (cF rfl (cF rfl (cF rfl rfl)))))
  | lit m =>
    refine f75 _ _ (cT rfl (cd (fun hm => tbR ?_) (fun hm => tbR ?_)))
    · have hm : 0 ≤ m := hm
      exact decide_eq_decide.2 ⟨fun h => h.2, fun h => ⟨hm, h⟩⟩
    · have hm : ¬ 0 ≤ m := hm
      exact decide_eq_false (fun h => hm h.1)
  | ref s => exact f75 _ _ (cF rfl (cT rfl ⟨_, r14 s hw, rfl⟩))
  | not x =>
    have e : (E.not x).snd = (E.not x).ops.all E.snd := by simp [E.snd, E.ops]
    rw [e]
    exact f75 _ _ (cF rfl (cF rfl (cT rfl (cF rfl hall))))
  | neg x =>
    have e : (E.neg x).snd = (E.neg x).ops.all E.snd := by simp [E.snd, E.ops]
    rw [e]
    exact f75 _ _ (cF rfl (cF rfl (cF rfl (cT rfl (cF rfl hall)))))
  | bin op l r =>
    refine f75 _ _ (cF rfl (cF rfl (cF rfl (cF rfl (cT rfl (cT rfl ⟨_, r98 op, cb (fun hb => tbR ?_) (fun hb => ?_)⟩))))))
    · have hb : decide (lvl op ≠ 0) = false := by simpa using hb
      simp [E.snd, hb]
    · have hb : decide (lvl op ≠ 0) = true := by simpa using hb
      have e : (E.bin op l r).snd = (E.bin op l r).ops.all E.snd := by simp only [E.snd, E.ops, hb, List.all_cons, List.all_nil, Bool.and_true, Bool.true_and]
      rw [e]
      exact hall
theorem r50 (x : E) (hw : x.wf) : Rn 50 [x.d.t] (tb x.ok, [.dead]) := by
  refine f50 _ _ ⟨_, r73 x, cd (fun h => ?_) (fun h => tbR ?_)⟩
  · have h40 : x.nodes ≤ 40 := by unfold least at h; split at h <;> omega
    refine ⟨_, r74 x h40, cd (fun h12 => ⟨_, r75 x hw, tbR ?_⟩) (fun h12 => tbR ?_)⟩
    · rw [E.ok, decide_eq_true h40, Bool.true_and, E.sd, leB_t h12, Bool.and_true]
    · rw [E.ok, E.sd, leB_f h12, Bool.and_false, Bool.and_false]
  · have : ¬ x.nodes ≤ 40 := by unfold least at h; split at h <;> omega
    rw [E.ok, decide_eq_false this, Bool.false_and]
end Go.Proofs.YthcaodlfnlhfbaaDoorT
