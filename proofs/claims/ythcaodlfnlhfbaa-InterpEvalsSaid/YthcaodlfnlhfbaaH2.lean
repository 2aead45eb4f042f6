/- Expressions as the program has them: what its functions on them come to. -/
import Derived.Test.YthcaodlfnlhfbaaE0
namespace Go.Proofs.YthcaodlfnlhfbaaT
open Go Go.Proofs
set_option linter.unusedVariables false
/-- As the program has it. -/
def E.v : E → IfV
  | .non => ⟨0, .dead⟩
  | .lit n => ⟨90, .agg [i64 n]⟩
  | .ref s => ⟨92, .agg [st s]⟩
  | .not x => ⟨94, .agg [x.v.v]⟩
  | .neg x => ⟨95, .agg [x.v.v]⟩
  | .bin op l r => ⟨97, .agg [st op, l.v.v, r.v.v]⟩
def E.ops : E → List E
  | .not x => [x]
  | .neg x => [x]
  | .bin _ l r => [l, r]
  | _ => []
def E.nodes : E → Nat
  | .not x => x.nodes + 1
  | .neg x => x.nodes + 1
  | .bin _ l r => l.nodes + r.nodes + 1
  | _ => 1
def E.deep : E → Nat
  | .not x => x.deep + 1
  | .neg x => x.deep + 1
  | .bin _ l r => max l.deep r.deep + 1
  | _ => 1
def E.snd : E → Bool
  | .non => false
  | .lit n => decide (0 ≤ n ∧ n ≤ 1000000000)
  | .ref s => nm s
  | .not x => x.snd
  | .neg x => x.snd
  | .bin op l r => decide (lvl op ≠ 0) && l.snd && r.snd
/-- Names are texts of a length that there is. -/
def E.wf : E → Prop
  | .ref s => s.size ≤ maxLen
  | .not x => x.wf
  | .neg x => x.wf
  | .bin _ l r => l.wf ∧ r.wf
  | _ => True
theorem E.ops_wf {x : E} (h : x.wf) : ∀ y ∈ x.ops, y.wf := by
  cases x <;> simp_all [E.ops, E.wf]
abbrev vs (l : List E) : List T := l.map fun y => y.v.v
theorem getv {l : List E} {k : Nat} (h : k < l.length) : (vs l)[Int.toNat (k : Int)]? = some (l[k]).v.v := getm h
theorem r42 (x : E) : Rn 42 [x.v.v] (.sl 1 (vs x.ops), [.dead]) := by
  cases x with
  | not x => exact f42 _ _ (cT rfl ⟨⟨x.v⟩, rfl, rfl⟩)
  | neg x => exact f42 _ _ (cF rfl (cT rfl ⟨⟨x.v⟩, rfl, rfl⟩))
  | bin op l r => exact f42 _ _ (cF rfl (cF rfl (cT rfl ⟨⟨op, l.v, r.v⟩, rfl, rfl⟩)))
  | _ => exact f42 _ _ (cF rfl (cF rfl (cF rfl rfl)))
theorem nodes_ops : ∀ x : E, x.nodes = (x.ops.map E.nodes).sum + 1 := by intro x; cases x <;> simp [E.nodes, E.ops]
theorem nodes_pos (x : E) : 1 ≤ x.nodes := by rw [nodes_ops]; omega
def least (a b : Int) : Int := if a ≤ b then a else b
theorem loop58 : ∀ (ys : List E) (left : Int), 0 ≤ left → left ≤ 40 → (∀ y ∈ ys, ∀ left : Int, 0 ≤ left → left ≤ 40 → Rn 58 [y.v.v, i64 left] (i64 (least (y.nodes : Int) (left + 1)), [.dead, .dead])) →
    ∀ (d k : Nat) (n : Int), k + d = ys.length → ys.length ≤ 100 → 1 ≤ n → n ≤ left + 1 → L58_0 left n (vs ys) (((vs ys).length : Nat) : Int) (k : Int) (i64 (least (n + (((ys.drop k).map E.nodes).sum : Nat)) (left + 1)), [.dead, .dead]) := by
  intro ys left h0 h1 IH d
  induction d with
  | zero =>
    intro k n hk hl hn hn'
    refine l58_0 _ _ _ _ _ _ (cF (by simp; omega) ?_)
    rw [List.drop_of_length_le (by omega)]
    simp only [List.map_nil, List.sum_nil, least]
    rw [if_pos (by simpa using hn')]
    simp
  | succ d ih =>
    intro k n hk hl hn hn'
    have hlt : k < ys.length := by omega
    have hd : ((ys.drop k).map E.nodes).sum = (ys[k]).nodes + ((ys.drop (k + 1)).map E.nodes).sum := by rw [List.drop_eq_getElem_cons hlt, List.map_cons, List.sum_cons]
    have hp := nodes_pos ys[k]
    refine l58_0 _ _ _ _ _ _ (cT (by simp; omega) ⟨(ys[k]).v, ⟨by omega, getv hlt⟩, cd (fun hle => ?_) (fun hle => ?_)⟩)
    · rw [w64 (n := left - n) (by omega)]
      refine ⟨_, IH _ (List.getElem_mem hlt) (left - n) (by omega) (by omega), ?_⟩
      rw [wS (by omega), w64 (by unfold least; split <;> omega)]
      have := ih (k + 1) (n + least ((ys[k]).nodes : Int) (left - n + 1)) (by omega) hl (by unfold least; split <;> omega) (by unfold least; split <;> omega)
      have e : least (n + ((((ys.drop k).map E.nodes).sum : Nat) : Int)) (left + 1) = least (n + least ((ys[k]).nodes : Int) (left - n + 1) + ((((ys.drop (k + 1)).map E.nodes).sum : Nat) : Int)) (left + 1) := by
        rw [hd]
        unfold least
        repeat' split
        all_goals omega
      rw [e]
      exact this
    · rw [wS (by omega)]
      have := ih (k + 1) n (by omega) hl hn hn'
      have e : least (n + ((((ys.drop k).map E.nodes).sum : Nat) : Int)) (left + 1) = least (n + ((((ys.drop (k + 1)).map E.nodes).sum : Nat) : Int)) (left + 1) := by
        rw [hd]
        unfold least
        repeat' split
        all_goals omega
      rw [e]
      exact this
theorem ops_len (x : E) : x.ops.length ≤ 2 := by cases x <;> simp [E.ops]
theorem r58_of (x : E) (IH : ∀ y ∈ x.ops, ∀ left : Int, 0 ≤ left → left ≤ 40 → Rn 58 [y.v.v, i64 left] (i64 (least (y.nodes : Int) (left + 1)), [.dead, .dead])) :
    ∀ left : Int, 0 ≤ left → left ≤ 40 → Rn 58 [x.v.v, i64 left] (i64 (least (x.nodes : Int) (left + 1)), [.dead, .dead]) := by
  intro left h0 h1
  have := loop58 x.ops left h0 h1 IH x.ops.length 0 1 (by omega) (by have := ops_len x; omega) (by omega) (by omega)
  rw [List.drop_zero] at this
  have e : ((x.nodes : Nat) : Int) = 1 + ((((x.ops).map E.nodes).sum : Nat) : Int) := by rw [nodes_ops]; omega
  rw [e]
  exact f58 _ _ _ ⟨_, r42 x, this⟩
theorem r58 : ∀ (x : E) (left : Int), 0 ≤ left → left ≤ 40 → Rn 58 [x.v.v, i64 left] (i64 (least (x.nodes : Int) (left + 1)), [.dead, .dead]) := by
  intro x
  induction x with
  | non => exact r58_of _ (fun y h => by simp [E.ops] at h)
  | lit n => exact r58_of _ (fun y h => by simp [E.ops] at h)
  | ref s => exact r58_of _ (fun y h => by simp [E.ops] at h)
  | not x ih => exact r58_of _ (fun y h => by simp only [E.ops, List.mem_singleton] at h; subst h; exact ih)
  | neg x ih => exact r58_of _ (fun y h => by simp only [E.ops, List.mem_singleton] at h; subst h; exact ih)
  | bin op l r ih1 ih2 => exact r58_of _ (fun y h => by
      simp only [E.ops, List.mem_cons, List.not_mem_nil, or_false] at h
      rcases h with rfl | rfl
      · exact ih1
      · exact ih2)
theorem r38 (x : E) : Rn 38 [x.v.v] (i64 (least (x.nodes : Int) 41), [.dead]) := by
  refine f38 _ _ ⟨_, r58 x 40 (by omega) (by omega), ?_⟩
  rw [show ((40 : Int) + 1) = 41 by rfl, if_neg (by unfold least; split <;> omega)]
/-- The place of a text among texts. -/
theorem r71 (L : List ByteArray) (x : ByteArray) (hL : L.length ≤ 1000) : ∃ n : Int, Rn 71 [.sl 1 (L.map st), st x] (i64 n, [.dead, .dead]) ∧ decide (0 ≤ n) = L.any fun y => decide (x = y) := by
  have loop : ∀ (d k : Nat), k + d = L.length → ∃ n : Int, L71_0 (L.map st) x (((L.map st).length : Nat) : Int) (k : Int) (i64 n, [.dead, .dead]) ∧ decide (0 ≤ n) = (L.drop k).any fun y => decide (x = y) := by
    intro d
    induction d with
    | zero => intro k hk; exact ⟨-1, l71_0 _ _ _ _ _ (cF (by simp; omega) rfl), by rw [List.drop_of_length_le (by omega)]; simp⟩
    | succ d ih =>
      intro k hk
      have hlt : k < L.length := by omega
      rw [List.drop_eq_getElem_cons hlt]
      by_cases h : x = L[k]
      · exact ⟨(k : Int), l71_0 _ _ _ _ _ (cT (by simp; omega) ⟨L[k], ⟨by omega, getm hlt⟩, cT (by simpa using h) rfl⟩), by rw [List.any_cons, decide_eq_true h, Bool.true_or]; simp⟩
      · obtain ⟨n, h1, h2⟩ := ih (k + 1) (by omega)
        refine ⟨n, l71_0 _ _ _ _ _ (cT (by simp; omega) ⟨L[k], ⟨by omega, getm hlt⟩, cF (by simpa using h) ?_⟩), by rw [List.any_cons, decide_eq_false h, Bool.false_or]; exact h2⟩
        rw [wS (by omega)]
        exact h1
  obtain ⟨n, h1, h2⟩ := loop L.length 0 (by omega)
  exact ⟨n, f71 _ _ _ h1, h2⟩
theorem r60 (L : List ByteArray) (x : ByteArray) (hL : L.length ≤ 1000) : Rn 60 [.sl 1 (L.map st), st x] (tb (L.any fun y => decide (x = y)), [.dead, .dead]) := by
  obtain ⟨n, h1, h2⟩ := r71 L x hL
  exact f60 _ _ _ ⟨n, h1, by rw [h2]⟩
/-- + - * < <= == != && ||. -/
def OPS : List ByteArray := [bs [43], bs [45], bs [42], bs [60], bs [60, 61], bs [61, 61], bs [33, 61], bs [38, 38], bs [124, 124]]
theorem ops_lvl (s : ByteArray) : (OPS.any fun y => decide (s = y)) = decide (lvl s ≠ 0) := by
  refine Bool.eq_iff_iff.2 ?_
  simp only [OPS, List.any_cons, List.any_nil, Bool.or_false, Bool.or_eq_true, decide_eq_true_eq]
  unfold lvl
  constructor
  · rintro (h | h | h | h | h | h | h | h | h) <;> subst h <;> decide
  · intro h
    refine Classical.byContradiction fun hn => ?_
    simp only [not_or] at hn
    obtain ⟨a1, a2, a3, a4, a5, a6, a7, a8, a9⟩ := hn
    exact h (by simp [a1, a2, a3, a4, a5, a6, a7, a8, a9])
abbrev clo63 (n : Int) : T := .fn (.func 63) [] [.cbox 3 [i64 n]]
def leB (d : Nat) (n : Int) : Bool := decide ((d : Int) ≤ n)
theorem leB_t {d : Nat} {n : Int} (h : (d : Int) ≤ n) : leB d n = true := decide_eq_true h
theorem leB_f {d : Nat} {n : Int} (h : ¬ (d : Int) ≤ n) : leB d n = false := decide_eq_false h
theorem leB_s (d : Nat) (n : Int) : leB (d + 1) n = leB d (n - 1) := decide_eq_decide.2 (by omega)
theorem leB_m (a b : Nat) (n : Int) : leB (max a b + 1) n = (leB a (n - 1) && leB b (n - 1)) := by
  unfold leB
  refine Bool.eq_iff_iff.2 ?_
  simp only [decide_eq_true_eq, Bool.and_eq_true]
  omega
def E.sd (x : E) (n : Int) : Bool := x.snd && leB x.deep n
theorem r62 (ys : List E) (n : Int) (hl : ys.length ≤ 2) (hn : 1 ≤ n) (hn' : n ≤ 12) (IH : ∀ y ∈ ys, Rn 39 [y.v.v, i64 (n - 1)] (tb (y.sd (n - 1)), [.dead, .dead])) :
    Rn 62 [.sl 1 (vs ys), clo63 n] (tb (ys.any fun y => !(y.sd (n - 1))), [.dead, clo63 n]) := by
  have loop : ∀ (d k : Nat), k + d = ys.length → ∃ m : Int, L72_0 (vs ys) (((vs ys).length : Nat) : Int) (k : Int) n (i64 m, [.dead, clo63 n]) ∧ decide (0 ≤ m) = (ys.drop k).any fun y => !(y.sd (n - 1)) := by
    intro d
    induction d with
    | zero => intro k hk; exact ⟨-1, l72_0 _ _ _ _ _ (cF (by simp; omega) rfl), by rw [List.drop_of_length_le (by omega)]; simp⟩
    | succ d ih =>
      intro k hk
      have hlt : k < ys.length := by omega
      rw [List.drop_eq_getElem_cons hlt]
      have hx := IH _ (List.getElem_mem hlt)
      have h94 : Rn 63 [(ys[k]).v.v, .cbox 3 [i64 n]] (tb (!((ys[k]).sd (n - 1))), [.dead, .cbox 3 [i64 n]]) := by
        refine f63 _ _ _ ⟨(ys[k]).sd (n - 1), ?_, rfl⟩
        rw [w64 (by omega)]
        exact hx
      cases hb : (ys[k]).sd (n - 1) with
      | false =>
        rw [hb] at h94
        exact ⟨(k : Int), l72_0 _ _ _ _ _ (cT (by simp; omega) ⟨_, ⟨by omega, getv hlt⟩, _, n, h94, cT rfl rfl⟩), by rw [List.any_cons, hb]; simp⟩
      | true =>
        rw [hb] at h94
        obtain ⟨m, h1, h2⟩ := ih (k + 1) (by omega)
        refine ⟨m, l72_0 _ _ _ _ _ (cT (by simp; omega) ⟨_, ⟨by omega, getv hlt⟩, _, n, h94, cF rfl ?_⟩), by rw [List.any_cons, hb]; simpa using h2⟩
        rw [wS (by omega)]
        exact h1
  obtain ⟨m, h1, h2⟩ := loop ys.length 0 (by omega)
  rw [List.drop_zero] at h2
  exact f62 _ _ _ ⟨m, n, f72 _ _ _ h1, by rw [h2]⟩
theorem deep_pos (x : E) : 1 ≤ x.deep := by cases x <;> simp [E.deep]
theorem sd_zero (x : E) : x.sd 0 = false := by
  have := deep_pos x
  unfold E.sd
  rw [leB_f (by omega), Bool.and_false]
theorem r39 : ∀ (x : E), x.wf → ∀ n : Int, 0 ≤ n → n ≤ 12 → Rn 39 [x.v.v, i64 n] (tb (x.sd n), [.dead, .dead]) := by
  -- two that have operands, but are no operators
  have one : ∀ (x y : E), x.ops = [y] → (∀ n, x.sd n = y.sd (n - 1)) → (∀ n : Int, 0 ≤ n → n ≤ 12 → Rn 39 [y.v.v, i64 n] (tb (y.sd n), [.dead, .dead])) → ∀ (n : Int) (R : T × List T), 0 ≤ n → n ≤ 12 → R = (tb (x.sd n), [.dead, .dead]) →
      ∃ l2 : List T, (Rn 42 [x.v.v] (.sl 1 l2, [.dead])) ∧ (cond (decide ((0 : Int) < n)) (cond (decide ((0 : Int) < (((List.length l2) : Nat) : Int)))
       (∃ b3 : Bool, ∃ n1 : Int, (Rn 62 [.sl 1 l2, .fn (.func 63) [] [.cbox 3 [i64 n]]] (tb b3, [.dead, .fn (.func 63) [] [.cbox 3 [i64 n1]]])) ∧ (R = (tb (!b3), [.dead, .dead])))
       (R = (tb false, [.dead, .dead]))) (R = (tb false, [.dead, .dead]))) := by
    intro x y hx hsd ih n R h0 h12 hR
    refine ⟨_, r42 x, cd (fun hp => cT (by rw [hx]; rfl) ?_) (fun hp => ?_)⟩
    · have := r62 x.ops n (by rw [hx]; simp) (by omega) h12 (fun z hz => by rw [hx] at hz; simp only [List.mem_singleton] at hz; subst hz; exact ih (n - 1) (by omega) (by omega))
      refine ⟨_, n, this, ?_⟩
      rw [hR, hx, hsd]
      simp
    · rw [hR, show n = 0 by omega, sd_zero]
  intro x
  induction x with
  | non => intro hw n h0 h12; exact f39 _ _ _ (cF rfl (cF rfl (cF rfl ⟨_, r42 .non, cd (fun hp => cF rfl (tbR (by simp [E.sd, E.snd]))) (fun hp => tbR (by simp [E.sd, E.snd]))⟩)))
  | lit m =>
    intro hw n h0 h12
    refine f39 _ _ _ (cT rfl ⟨⟨m⟩, rfl, cd (fun hp => cd (fun hm => tbR ?_) (fun hm => tbR ?_)) (fun hp => tbR ?_)⟩)
    · have hm : 0 ≤ m := hm
      simp only [E.sd, E.snd, E.deep]
      rw [leB_t (by omega), Bool.and_true]
      exact decide_eq_decide.2 ⟨fun h => h.2, fun h => ⟨hm, h⟩⟩
    · have hm : ¬ 0 ≤ m := hm
      simp only [E.sd, E.snd, E.deep]
      rw [decide_eq_false (fun h => hm h.1), Bool.false_and]
    · rw [show n = 0 by omega, sd_zero]
  | ref s =>
    intro hw n h0 h12
    refine f39 _ _ _ (cF rfl (cT rfl ⟨⟨s⟩, rfl, cd (fun hp => ⟨_, r59 s hw, tbR ?_⟩) (fun hp => tbR ?_)⟩))
    · simp only [E.sd, E.snd, E.deep]
      rw [leB_t (by omega), Bool.and_true]
    · rw [show n = 0 by omega, sd_zero]
  | not x ih =>
    intro hw n h0 h12
    refine f39 _ _ _ (cF rfl (cF rfl (cF rfl (one (.not x) x rfl (fun n => ?_) (ih hw) n _ h0 h12 rfl))))
    simp only [E.sd, E.snd, E.deep, leB_s]
  | neg x ih =>
    intro hw n h0 h12
    refine f39 _ _ _ (cF rfl (cF rfl (cF rfl (one (.neg x) x rfl (fun n => ?_) (ih hw) n _ h0 h12 rfl))))
    simp only [E.sd, E.snd, E.deep, leB_s]
  | bin op l r ih1 ih2 =>
    intro hw n h0 h12
    have h91 := r60 OPS op (by decide)
    rw [ops_lvl] at h91
    refine f39 _ _ _ (cF rfl (cF rfl (cT rfl ⟨⟨op, l.v, r.v⟩, rfl, _, f61 _ rfl, _, h91, cb (fun hb => tbR ?_) (fun hb => ?_)⟩)))
    · have hb : decide (lvl op ≠ 0) = false := by simpa using hb
      simp [E.sd, E.snd, hb]
    · have hb : decide (lvl op ≠ 0) = true := by simpa using hb
      refine ⟨_, r42 (.bin op l r), cd (fun hp => cT rfl ?_) (fun hp => tbR (by rw [show n = 0 by omega, sd_zero]))⟩
      have := r62 [l, r] n (by simp) (by omega) h12 (fun z hz => by
        simp only [List.mem_cons, List.not_mem_nil, or_false] at hz
        rcases hz with rfl | rfl
        · exact ih1 hw.1 (n - 1) (by omega) (by omega)
        · exact ih2 hw.2 (n - 1) (by omega) (by omega))
      refine ⟨_, n, this, tbR ?_⟩
      simp only [E.sd, E.snd, E.deep, hb, List.any_cons, List.any_nil, Bool.or_false, Bool.true_and]
      rw [leB_m]
      cases l.snd <;> cases r.snd <;> cases leB l.deep (n - 1) <;> cases leB r.deep (n - 1) <;> rfl
/-- Formed. -/
def E.ok (x : E) : Bool := decide (x.nodes ≤ 40) && x.sd 12
theorem r25 (x : E) (hw : x.wf) : Rn 25 [x.v.v] (tb x.ok, [.dead]) := by
  refine f25 _ _ ⟨_, r38 x, cd (fun h => ⟨_, r39 x hw 12 (by omega) (by omega), tbR ?_⟩) (fun h => tbR ?_)⟩
  · have : x.nodes ≤ 40 := by unfold least at h; split at h <;> omega
    rw [E.ok, decide_eq_true this, Bool.true_and]
  · have : ¬ x.nodes ≤ 40 := by unfold least at h; split at h <;> omega
    rw [E.ok, decide_eq_false this, Bool.false_and]
end Go.Proofs.YthcaodlfnlhfbaaT
