/- Expressions as the program has them: what its functions on them come to. -/
import Derived.Test.YthcaodlfnlhfbaaGreatDoorM1
import Derived.Test.YthcaodlfnlhfbaaGreatDoorPA
import Derived.Shelf.Strconv.ParseInt10At64
import Derived.Test.YthcaodlfnlhfbaaGreatDoorD
import Derived.Maps.Own
import Derived.Maps.OwnSet
import Derived.Maps.Views
import Derived.Maps.AppendAt
import Derived.OneCell
import Derived.WalkKit
import Derived.RangeFuncOwn
import Derived.StringKeys
import Derived.Shelf.SlIter.Nil
import Derived.Shelf.SortM.Plain
import Derived.Shelf.SortM.SortNone
import Derived.Shelf.Strconv.Itoa3
namespace Go.Proofs.YthcaodlfnlhfbaaGreatDoorT
open Go Go.Proofs
set_option linter.unusedVariables false
/-- As the program has it. -/
def E.v : E → IfV
  | .non => ⟨0, .dead⟩
  | .lit n => ⟨41, .agg [i64 n]⟩
  | .ref s => ⟨49, .agg [st s]⟩
  | .not x => ⟨51, .agg [x.v.v]⟩
  | .neg x => ⟨52, .agg [x.v.v]⟩
  | .bin op l r => ⟨43, .agg [st op, l.v.v, r.v.v]⟩
def E.ops : E → List E
  | .not x => [x]
  | .neg x => [x]
  | .bin _ l r => [l, r]
  | _ => []
def E.nodes : E → Nat
  | .not x => x.nodes + 1
  | .neg x => x.nodes + 1
  | .bin _ l r => l.nodes + r.nodes + 1
  | _ => 1
def E.deep : E → Nat
  | .not x => x.deep + 1
  | .neg x => x.deep + 1
  | .bin _ l r => max l.deep r.deep + 1
  | _ => 1
def E.snd : E → Bool
  | .non => false
  | .lit n => decide (0 ≤ n ∧ n ≤ 1000000000)
  | .ref s => nm s
  | .not x => x.snd
  | .neg x => x.snd
  | .bin op l r => decide (lvl op ≠ 0) && l.snd && r.snd
/-- Names are texts of a length that there is. -/
def E.wf : E → Prop
  | .ref s => s.size ≤ maxLen
  | .not x => x.wf
  | .neg x => x.wf
  | .bin _ l r => l.wf ∧ r.wf
  | _ => True
theorem E.ops_wf {x : E} (h : x.wf) : ∀ y ∈ x.ops, y.wf := by
  cases x <;> simp_all [E.ops, E.wf]
abbrev vs (l : List E) : List T := l.map fun y => y.v.v
theorem getv {l : List E} {k : Nat} (h : k < l.length) : (vs l)[Int.toNat (k : Int)]? = some (l[k]).v.v := getm h
theorem r23 (x : E) : Rn 23 [x.v.v] (.sl 1 (vs x.ops), [.dead]) := by
  cases x with
  | not x => exact f23 _ _ (cT rfl ⟨⟨x.v⟩, rfl, rfl⟩)
  | neg x => exact f23 _ _ (cF rfl (cT rfl ⟨⟨x.v⟩, rfl, rfl⟩))
  | bin op l r => exact f23 _ _ (cF rfl (cF rfl (cT rfl ⟨⟨op, l.v, r.v⟩, rfl, rfl⟩)))
  | _ => exact f23 _ _ (cF rfl (cF rfl (cF rfl rfl)))
theorem nodes_ops : ∀ x : E, x.nodes = (x.ops.map E.nodes).sum + 1 := by intro x; cases x <;> simp [E.nodes, E.ops]
theorem nodes_pos (x : E) : 1 ≤ x.nodes := by rw [nodes_ops]; omega
def least (a b : Int) : Int := if a ≤ b then a else b
theorem loop57 : ∀ (ys : List E) (left : Int), 0 ≤ left → left ≤ 40 → (∀ y ∈ ys, ∀ left : Int, 0 ≤ left → left ≤ 40 → Rn 57 [y.v.v, i64 left] (i64 (least (y.nodes : Int) (left + 1)), [.dead, .dead])) →
    ∀ (d k : Nat) (n : Int), k + d = ys.length → ys.length ≤ 100 → 1 ≤ n → n ≤ left + 1 → L57_0 left n (vs ys) (((vs ys).length : Nat) : Int) (k : Int) (i64 (least (n + (((ys.drop k).map E.nodes).sum : Nat)) (left + 1)), [.dead, .dead]) := by
  intro ys left h0 h1 IH d
  induction d with
  | zero =>
    intro k n hk hl hn hn'
    refine l57_0 _ _ _ _ _ _ (cF (by simp; omega) ?_)
    rw [List.drop_of_length_le (by omega)]
    simp only [List.map_nil, List.sum_nil, least]
    rw [if_pos (by simpa using hn')]
    simp
  | succ d ih =>
    intro k n hk hl hn hn'
    have hlt : k < ys.length := by omega
    have hd : ((ys.drop k).map E.nodes).sum = (ys[k]).nodes + ((ys.drop (k + 1)).map E.nodes).sum := by rw [List.drop_eq_getElem_cons hlt, List.map_cons, List.sum_cons]
    have hp := nodes_pos ys[k]
    refine l57_0 _ _ _ _ _ _ (cT (by simp; omega) ⟨(ys[k]).v, ⟨by omega, getv hlt⟩, cd (fun hle => ?_) (fun hle => ?_)⟩)
    · rw [w64 (n := left - n) (by omega)]
      refine ⟨_, IH _ (List.getElem_mem hlt) (left - n) (by omega) (by omega), ?_⟩
      rw [wS (by omega), w64 (by unfold least; split <;> omega)]
      have := ih (k + 1) (n + least ((ys[k]).nodes : Int) (left - n + 1)) (by omega) hl (by unfold least; split <;> omega) (by unfold least; split <;> omega)
      have e : least (n + ((((ys.drop k).map E.nodes).sum : Nat) : Int)) (left + 1) = least (n + least ((ys[k]).nodes : Int) (left - n + 1) + ((((ys.drop (k + 1)).map E.nodes).sum : Nat) : Int)) (left + 1) := by
        rw [hd]
        unfold least
        repeat' split
        all_goals omega
      rw [e]
      exact this
    · rw [wS (by omega)]
      have := ih (k + 1) n (by omega) hl hn hn'
      have e : least (n + ((((ys.drop k).map E.nodes).sum : Nat) : Int)) (left + 1) = least (n + ((((ys.drop (k + 1)).map E.nodes).sum : Nat) : Int)) (left + 1) := by
        rw [hd]
        unfold least
        repeat' split
        all_goals omega
      rw [e]
      exact this
theorem ops_len (x : E) : x.ops.length ≤ 2 := by cases x <;> simp [E.ops]
theorem r57_of (x : E) (IH : ∀ y ∈ x.ops, ∀ left : Int, 0 ≤ left → left ≤ 40 → Rn 57 [y.v.v, i64 left] (i64 (least (y.nodes : Int) (left + 1)), [.dead, .dead])) :
    ∀ left : Int, 0 ≤ left → left ≤ 40 → Rn 57 [x.v.v, i64 left] (i64 (least (x.nodes : Int) (left + 1)), [.dead, .dead]) := by
  intro left h0 h1
  have := loop57 x.ops left h0 h1 IH x.ops.length 0 1 (by omega) (by have := ops_len x; omega) (by omega) (by omega)
  rw [List.drop_zero] at this
  have e : ((x.nodes : Nat) : Int) = 1 + ((((x.ops).map E.nodes).sum : Nat) : Int) := by rw [nodes_ops]; omega
  rw [e]
  exact f57 _ _ _ ⟨_, r23 x, this⟩
theorem r57 : ∀ (x : E) (left : Int), 0 ≤ left → left ≤ 40 → Rn 57 [x.v.v, i64 left] (i64 (least (x.nodes : Int) (left + 1)), [.dead, .dead]) := by
  intro x
  induction x with
  | non => exact r57_of _ (fun y h => by simp [E.ops] at h)
  | lit n => exact r57_of _ (fun y h => by simp [E.ops] at h)
  | ref s => exact r57_of _ (fun y h => by simp [E.ops] at h)
  | not x ih => exact r57_of _ (fun y h => by simp only [E.ops, List.mem_singleton] at h; subst h; exact ih)
  | neg x ih => exact r57_of _ (fun y h => by simp only [E.ops, List.mem_singleton] at h; subst h; exact ih)
  | bin op l r ih1 ih2 => exact r57_of _ (fun y h => by
      simp only [E.ops, List.mem_cons, List.not_mem_nil, or_false] at h
      rcases h with rfl | rfl
      · exact ih1
      · exact ih2)
theorem r42 (x : E) : Rn 42 [x.v.v] (i64 (least (x.nodes : Int) 41), [.dead]) := by
  refine f42 _ _ ⟨_, r57 x 40 (by omega) (by omega), ?_⟩
  rw [show ((40 : Int) + 1) = 41 by rfl, if_neg (by unfold least; split <;> omega)]
/-- The place of a text among texts. -/
theorem r41 (L : List ByteArray) (x : ByteArray) (hL : L.length ≤ 1000) : ∃ n : Int, Rn 41 [.sl 1 (L.map st), st x] (i64 n, [.dead, .dead]) ∧ decide (0 ≤ n) = L.any fun y => decide (x = y) := by
  have loop : ∀ (d k : Nat), k + d = L.length → ∃ n : Int, L41_0 (L.map st) x (((L.map st).length : Nat) : Int) (k : Int) (i64 n, [.dead, .dead]) ∧ decide (0 ≤ n) = (L.drop k).any fun y => decide (x = y) := by
    intro d
    induction d with
    | zero => intro k hk; exact ⟨-1, l41_0 _ _ _ _ _ (cF (by simp; omega) rfl), by rw [List.drop_of_length_le (by omega)]; simp⟩
    | succ d ih =>
      intro k hk
      have hlt : k < L.length := by omega
      rw [List.drop_eq_getElem_cons hlt]
      by_cases h : x = L[k]
      · exact ⟨(k : Int), l41_0 _ _ _ _ _ (cT (by simp; omega) ⟨L[k], ⟨by omega, getm hlt⟩, cT (by simpa using h) rfl⟩), by rw [List.any_cons, decide_eq_true h, Bool.true_or]; simp⟩
      · obtain ⟨n, h1, h2⟩ := ih (k + 1) (by omega)
        refine ⟨n, l41_0 _ _ _ _ _ (cT (by simp; omega) ⟨L[k], ⟨by omega, getm hlt⟩, cF (by simpa using h) ?_⟩), by rw [List.any_cons, decide_eq_false h, Bool.false_or]; exact h2⟩
        rw [wS (by omega)]
        exact h1
  obtain ⟨n, h1, h2⟩ := loop L.length 0 (by omega)
  exact ⟨n, f41 _ _ _ h1, h2⟩
theorem r27 (L : List ByteArray) (x : ByteArray) (hL : L.length ≤ 1000) : Rn 27 [.sl 1 (L.map st), st x] (tb (L.any fun y => decide (x = y)), [.dead, .dead]) := by
  obtain ⟨n, h1, h2⟩ := r41 L x hL
  exact f27 _ _ _ ⟨n, h1, by rw [h2]⟩
/-- + - * < <= == != && ||. -/
def OPS : List ByteArray := [bs [43], bs [45], bs [42], bs [60], bs [60, 61], bs [61, 61], bs [33, 61], bs [38, 38], bs [124, 124]]
theorem ops_lvl (s : ByteArray) : (OPS.any fun y => decide (s = y)) = decide (lvl s ≠ 0) := by
  refine Bool.eq_iff_iff.2 ?_
  simp only [OPS, List.any_cons, List.any_nil, Bool.or_false, Bool.or_eq_true, decide_eq_true_eq]
  unfold lvl
  constructor
  · rintro (h | h | h | h | h | h | h | h | h) <;> subst h <;> decide
  · intro h
    refine Classical.byContradiction fun hn => ?_
    simp only [not_or] at hn
    obtain ⟨a1, a2, a3, a4, a5, a6, a7, a8, a9⟩ := hn
    exact h (by simp [a1, a2, a3, a4, a5, a6, a7, a8, a9])
abbrev clo61 (n : Int) : T := .fn (.func 61) [] [.cbox 3 [i64 n]]
def leB (d : Nat) (n : Int) : Bool := decide ((d : Int) ≤ n)
theorem leB_t {d : Nat} {n : Int} (h : (d : Int) ≤ n) : leB d n = true := decide_eq_true h
theorem leB_f {d : Nat} {n : Int} (h : ¬ (d : Int) ≤ n) : leB d n = false := decide_eq_false h
theorem leB_s (d : Nat) (n : Int) : leB (d + 1) n = leB d (n - 1) := decide_eq_decide.2 (by omega)
theorem leB_m (a b : Nat) (n : Int) : leB (max a b + 1) n = (leB a (n - 1) && leB b (n - 1)) := by
  unfold leB
  refine Bool.eq_iff_iff.2 ?_
  simp only [decide_eq_true_eq, Bool.and_eq_true]
  omega
def E.sd (x : E) (n : Int) : Bool := x.snd && leB x.deep n
theorem r60 (ys : List E) (n : Int) (hl : ys.length ≤ 2) (hn : 1 ≤ n) (hn' : n ≤ 12) (IH : ∀ y ∈ ys, Rn 43 [y.v.v, i64 (n - 1)] (tb (y.sd (n - 1)), [.dead, .dead])) :
    Rn 60 [.sl 1 (vs ys), clo61 n] (tb (ys.any fun y => !(y.sd (n - 1))), [.dead, clo61 n]) := by
  have loop : ∀ (d k : Nat), k + d = ys.length → ∃ m : Int, L78_0 (vs ys) (((vs ys).length : Nat) : Int) (k : Int) n (i64 m, [.dead, clo61 n]) ∧ decide (0 ≤ m) = (ys.drop k).any fun y => !(y.sd (n - 1)) := by
    intro d
    induction d with
    | zero => intro k hk; exact ⟨-1, l78_0 _ _ _ _ _ (cF (by simp; omega) rfl), by rw [List.drop_of_length_le (by omega)]; simp⟩
    | succ d ih =>
      intro k hk
      have hlt : k < ys.length := by omega
      rw [List.drop_eq_getElem_cons hlt]
      have hx := IH _ (List.getElem_mem hlt)
      have h94 : Rn 61 [(ys[k]).v.v, .cbox 3 [i64 n]] (tb (!((ys[k]).sd (n - 1))), [.dead, .cbox 3 [i64 n]]) := by
        refine f61 _ _ _ ⟨(ys[k]).sd (n - 1), ?_, rfl⟩
        rw [w64 (by omega)]
        exact hx
      cases hb : (ys[k]).sd (n - 1) with
      | false =>
        rw [hb] at h94
        exact ⟨(k : Int), l78_0 _ _ _ _ _ (cT (by simp; omega) ⟨_, ⟨by omega, getv hlt⟩, _, n, h94, cT rfl rfl⟩), by rw [List.any_cons, hb]; simp⟩
      | true =>
        rw [hb] at h94
        obtain ⟨m, h1, h2⟩ := ih (k + 1) (by omega)
        refine ⟨m, l78_0 _ _ _ _ _ (cT (by simp; omega) ⟨_, ⟨by omega, getv hlt⟩, _, n, h94, cF rfl ?_⟩), by rw [List.any_cons, hb]; simpa using h2⟩
        rw [wS (by omega)]
        exact h1
  obtain ⟨m, h1, h2⟩ := loop ys.length 0 (by omega)
  rw [List.drop_zero] at h2
  exact f60 _ _ _ ⟨m, n, f78 _ _ _ h1, by rw [h2]⟩
theorem deep_pos (x : E) : 1 ≤ x.deep := by cases x <;> simp [E.deep]
theorem sd_zero (x : E) : x.sd 0 = false := by
  have := deep_pos x
  unfold E.sd
  rw [leB_f (by omega), Bool.and_false]
theorem r43 : ∀ (x : E), x.wf → ∀ n : Int, 0 ≤ n → n ≤ 12 → Rn 43 [x.v.v, i64 n] (tb (x.sd n), [.dead, .dead]) := by
  -- two that have operands, but are no operators
  have one : ∀ (x y : E), x.ops = [y] → (∀ n, x.sd n = y.sd (n - 1)) → (∀ n : Int, 0 ≤ n → n ≤ 12 → Rn 43 [y.v.v, i64 n] (tb (y.sd n), [.dead, .dead])) → ∀ (n : Int) (R : T × List T), 0 ≤ n → n ≤ 12 → R = (tb (x.sd n), [.dead, .dead]) →
      ∃ l2 : List T, (Rn 23 [x.v.v] (.sl 1 l2, [.dead])) ∧ (cond (decide ((0 : Int) < n)) (cond (decide ((0 : Int) < (((List.length l2) : Nat) : Int)))
       (∃ b3 : Bool, ∃ n1 : Int, (Rn 60 [.sl 1 l2, .fn (.func 61) [] [.cbox 3 [i64 n]]] (tb b3, [.dead, .fn (.func 61) [] [.cbox 3 [i64 n1]]])) ∧ (R = (tb (!b3), [.dead, .dead])))
       (R = (tb false, [.dead, .dead]))) (R = (tb false, [.dead, .dead]))) := by
    intro x y hx hsd ih n R h0 h12 hR
    refine ⟨_, r23 x, cd (fun hp => cT (by rw [hx]; rfl) ?_) (fun hp => ?_)⟩
    · have := r60 x.ops n (by rw [hx]; simp) (by omega) h12 (fun z hz => by rw [hx] at hz; simp only [List.mem_singleton] at hz; subst hz; exact ih (n - 1) (by omega) (by omega))
      refine ⟨_, n, this, ?_⟩
      rw [hR, hx, hsd]
      simp
    · rw [hR, show n = 0 by omega, sd_zero]
  intro x
  induction x with
  | non => intro hw n h0 h12; exact f43 _ _ _ (cF rfl (cF rfl (cF rfl ⟨_, r23 .non, cd (fun hp => cF rfl (tbR (by simp [E.sd, E.snd]))) (fun hp => tbR (by simp [E.sd, E.snd]))⟩)))
  | lit m =>
    intro hw n h0 h12
    refine f43 _ _ _ (cT rfl ⟨⟨m⟩, rfl, cd (fun hp => cd (fun hm => tbR ?_) (fun hm => tbR ?_)) (fun hp => tbR ?_)⟩)
    · have hm : 0 ≤ m := hm
      simp only [E.sd, E.snd, E.deep]
      rw [leB_t (by omega), Bool.and_true]
      exact decide_eq_decide.2 ⟨fun h => h.2, fun h => ⟨hm, h⟩⟩
    · have hm : ¬ 0 ≤ m := hm
      simp only [E.sd, E.snd, E.deep]
      rw [decide_eq_false (fun h => hm h.1), Bool.false_and]
    · rw [show n = 0 by omega, sd_zero]
  | ref s =>
    intro hw n h0 h12
    refine f43 _ _ _ (cF rfl (cT rfl ⟨⟨s⟩, rfl, cd (fun hp => ⟨_, r58 s hw, tbR ?_⟩) (fun hp => tbR ?_)⟩))
    · simp only [E.sd, E.snd, E.deep]
      rw [leB_t (by omega), Bool.and_true]
    · rw [show n = 0 by omega, sd_zero]
  | not x ih =>
    intro hw n h0 h12
    refine f43 _ _ _ (cF rfl (cF rfl (cF rfl (one (.not x) x rfl (fun n => ?_) (ih hw) n _ h0 h12 rfl))))
    simp only [E.sd, E.snd, E.deep, leB_s]
  | neg x ih =>
    intro hw n h0 h12
    refine f43 _ _ _ (cF rfl (cF rfl (cF rfl (one (.neg x) x rfl (fun n => ?_) (ih hw) n _ h0 h12 rfl))))
    simp only [E.sd, E.snd, E.deep, leB_s]
  | bin op l r ih1 ih2 =>
    intro hw n h0 h12
    have h91 := r27 OPS op (by decide)
    rw [ops_lvl] at h91
    refine f43 _ _ _ (cF rfl (cF rfl (cT rfl ⟨⟨op, l.v, r.v⟩, rfl, _, f59 _ rfl, _, h91, cb (fun hb => tbR ?_) (fun hb => ?_)⟩)))
    · have hb : decide (lvl op ≠ 0) = false := by simpa using hb
      simp [E.sd, E.snd, hb]
    · have hb : decide (lvl op ≠ 0) = true := by simpa using hb
      refine ⟨_, r23 (.bin op l r), cd (fun hp => cT rfl ?_) (fun hp => tbR (by rw [show n = 0 by omega, sd_zero]))⟩
      have := r60 [l, r] n (by simp) (by omega) h12 (fun z hz => by
        simp only [List.mem_cons, List.not_mem_nil, or_false] at hz
        rcases hz with rfl | rfl
        · exact ih1 hw.1 (n - 1) (by omega) (by omega)
        · exact ih2 hw.2 (n - 1) (by omega) (by omega))
      refine ⟨_, n, this, tbR ?_⟩
      simp only [E.sd, E.snd, E.deep, hb, List.any_cons, List.any_nil, Bool.or_false, Bool.true_and]
      rw [leB_m]
      cases l.snd <;> cases r.snd <;> cases leB l.deep (n - 1) <;> cases leB r.deep (n - 1) <;> rfl
/-- Formed. -/
def E.ok (x : E) : Bool := decide (x.nodes ≤ 40) && x.sd 12
theorem r28 (x : E) (hw : x.wf) : Rn 28 [x.v.v] (tb x.ok, [.dead]) := by
  refine f28 _ _ ⟨_, r42 x, cd (fun h => ⟨_, r43 x hw 12 (by omega) (by omega), tbR ?_⟩) (fun h => tbR ?_)⟩
  · have : x.nodes ≤ 40 := by unfold least at h; split at h <;> omega
    rw [E.ok, decide_eq_true this, Bool.true_and]
  · have : ¬ x.nodes ≤ 40 := by unfold least at h; split at h <;> omega
    rw [E.ok, decide_eq_false this, Bool.false_and]
end Go.Proofs.YthcaodlfnlhfbaaGreatDoorT

/- The names in an expression; what expr.Refs is to come to. -/
namespace Go.Proofs.YthcaodlfnlhfbaaGreatDoorT
open Go Go.Proofs
def E.names : E → List ByteArray
  | .ref s => [s]
  | .not x => x.names
  | .neg x => x.names
  | .bin _ l r => l.names ++ r.names
  | _ => []
theorem ok_parts {x : E} (h : x.ok = true) : x.nodes ≤ 40 ∧ x.snd = true := by
  simp only [E.ok, E.sd, Bool.and_eq_true, decide_eq_true_eq] at h
  exact ⟨h.1, h.2.1⟩
/-- What expr.Refs comes to of a formed expression (given by hand). -/
def RefsSaid : Prop := ∀ x : E, x.wf → x.ok = true → ∃ L : List ByteArray, Rn 30 [x.v.v] (.sl 1 (L.map st), [.dead]) ∧ (∀ t, t ∈ L ↔ t ∈ x.names) ∧ L.length ≤ 1000
end Go.Proofs.YthcaodlfnlhfbaaGreatDoorT

/- The text of an expression; its words; how long it is. -/
namespace Go.Proofs.YthcaodlfnlhfbaaGreatDoorT
open Go Go.Proofs
set_option linter.unusedVariables false
def dec (n : Nat) : ByteArray := ⟨(Lib.decDigits n).toArray⟩
theorem bl_dec (n : Nat) : bl (dec n) = Lib.decDigits n := by simp [bl, dec]
/-- In brackets, if it holds less than it must. -/
def wrp (k least : Nat) (t : ByteArray) : ByteArray := if k < least then bs [40] ++ t ++ bs [41] else t
/-- How strongly it holds together. -/
def E.str : E → Nat
  | .bin op _ _ => lvl op
  | _ => 6
def lft (k : Nat) : Nat := if k = 3 then 4 else k
def E.txt : E → ByteArray
  | .non => bs []
  | .lit n => dec n.toNat
  | .ref s => s
  | .not x => bs [33] ++ wrp x.str 6 x.txt
  | .neg x => bs [45] ++ wrp x.str 6 x.txt
  | .bin op l r => wrp l.str (lft (lvl op)) l.txt ++ bs [32] ++ op ++ bs [32] ++ wrp r.str (lvl op + 1) r.txt
abbrev Tk := Int × ByteArray
def wrk (k least : Nat) (l : List Tk) : List Tk := if k < least then (3, bs [40]) :: l ++ [(3, bs [41])] else l
def E.tks : E → List Tk
  | .non => []
  | .lit n => [(2, dec n.toNat)]
  | .ref s => [(1, s)]
  | .not x => (3, bs [33]) :: wrk x.str 6 x.tks
  | .neg x => (3, bs [45]) :: wrk x.str 6 x.tks
  | .bin op l r => wrk l.str (lft (lvl op)) l.tks ++ (3, op) :: wrk r.str (lvl op + 1) r.tks
theorem size_append (s t : ByteArray) : (s ++ t).size = s.size + t.size := by
  rw [← bl_len, bl_append, List.length_append, bl_len, bl_len]
theorem size_bs (l : List UInt8) : (bs l).size = l.length := by rw [← bl_len]; simp [bl, bs]
theorem size_dec (n : Nat) (h : n ≤ 1000000000) : (dec n).size ≤ 10 := by
  rw [← bl_len, bl_dec]; exact dec_len 9 n (by omega)
theorem lvl_size {s : ByteArray} (h : lvl s ≠ 0) : 1 ≤ s.size ∧ s.size ≤ 2 := by
  have : s ∈ OPS := by
    have := ops_lvl s
    rw [decide_eq_true h, List.any_eq_true] at this
    obtain ⟨y, h1, h2⟩ := this
    simp only [decide_eq_true_eq] at h2
    subst h2; exact h1
  simp only [OPS, List.mem_cons, List.not_mem_nil, or_false] at this
  rcases this with h | h | h | h | h | h | h | h | h <;> subst h <;> decide
theorem run_four {t : ByteArray} : ∀ (f n k : Nat), (run t f n k).1 + 4 * k ≤ n + 4 * (run t f n k).2
  | 0, n, k => by rw [run]; omega
  | f + 1, n, k => by
    rw [run]
    split
    · have := run_four (t := t) f (n + (Utf8.decode t n).2) (k + 1)
      have h4 : (Utf8.decode t n).2 ≤ 4 := by rw [dec_eq]; exact (decN_stay ..).1
      omega
    · simp only; omega
theorem nm_size {s : ByteArray} (h : nm s = true) : s.size ≤ 96 := by
  simp only [nm, Bool.and_eq_true, decide_eq_true_eq] at h
  have := run_four (t := s) s.size 0 0
  omega
theorem wrp_size (k l : Nat) (t : ByteArray) : (wrp k l t).size ≤ t.size + 2 := by
  unfold wrp
  split
  · rw [size_append, size_append, size_bs, size_bs]; simp; omega
  · omega
theorem txt_size : ∀ x : E, x.snd = true → x.txt.size + 4 ≤ 100 * x.nodes := by
  intro x
  induction x with
  | non => intro h; cases h
  | lit n =>
    intro h
    simp only [E.snd, decide_eq_true_eq] at h
    have := size_dec n.toNat (by omega)
    simp only [E.txt, E.nodes]; omega
  | ref s =>
    intro h
    have := nm_size (s := s) h
    simp only [E.txt, E.nodes]; omega
  | not x ih =>
    intro h
    have := ih h
    have := wrp_size x.str 6 x.txt
    simp only [E.txt, E.nodes]; rw [size_append, size_bs]; simp; omega
  | neg x ih =>
    intro h
    have := ih h
    have := wrp_size x.str 6 x.txt
    simp only [E.txt, E.nodes]; rw [size_append, size_bs]; simp; omega
  | bin op l r ih1 ih2 =>
    intro h
    simp only [E.snd, Bool.and_eq_true, decide_eq_true_eq] at h
    have := ih1 h.1.2
    have := ih2 h.2
    have := wrp_size l.str (lft (lvl op)) l.txt
    have := wrp_size r.str (lvl op + 1) r.txt
    have := lvl_size h.1.1
    simp only [E.txt, E.nodes]; rw [size_append, size_append, size_append, size_append, size_bs]; simp; omega
theorem ok_size {x : E} (h : x.ok = true) : x.txt.size ≤ 4000 := by
  have := ok_parts h
  have := txt_size x this.2
  omega
theorem wrk_len (k l : Nat) (t : List Tk) : (wrk k l t).length ≤ t.length + 2 := by
  unfold wrk
  split <;> simp
theorem tks_len : ∀ x : E, x.tks.length ≤ 6 * x.nodes := by
  intro x
  induction x with
  | non => simp [E.tks, E.nodes]
  | lit n => simp [E.tks, E.nodes]
  | ref s => simp [E.tks, E.nodes]
  | not x ih =>
    have := wrk_len x.str 6 x.tks
    simp only [E.tks, E.nodes, List.length_cons]; omega
  | neg x ih =>
    have := wrk_len x.str 6 x.tks
    simp only [E.tks, E.nodes, List.length_cons]; omega
  | bin op l r ih1 ih2 =>
    have := wrk_len l.str (lft (lvl op)) l.tks
    have := wrk_len r.str (lvl op + 1) r.tks
    simp only [E.tks, E.nodes, List.length_append, List.length_cons]; omega
end Go.Proofs.YthcaodlfnlhfbaaGreatDoorT

/- What words say, as rules. -/
namespace Go.Proofs.YthcaodlfnlhfbaaGreatDoorT
open Go Go.Proofs
set_option linter.unusedVariables false
def num (s : ByteArray) : Nat := (numV s).getD 0
/-- What is read: one that stands alone; operators of a level and stronger ones; those behind what has been read. -/
inductive Tag where
  | sg (a : Nat)
  | cl (k a : Nat)
  | lp (k m : Nat) (x : E) (a : Nat) (b : Bool)
/-- The expression that is read, up to where, and whether it can't go on there. -/
inductive Pr (ws : List W_glyph_Word) : Tag → E → Nat → Bool → Prop
  | sEnd {a : Nat} (h : ws[a]? = none) : Pr ws (.sg a) .non a true
  | sNum {a : Nat} {w : W_glyph_Word} (h : ws[a]? = some w) (hk : w.fKind = 2) : Pr ws (.sg a) (.lit (num w.fText)) (a + 1) false
  | sRef {a : Nat} {w : W_glyph_Word} (h : ws[a]? = some w) (hk : w.fKind = 1) (hr : resv w.fText = false) : Pr ws (.sg a) (.ref w.fText) (a + 1) false
  | sNot {a a' : Nat} {w : W_glyph_Word} {x : E} {b : Bool} (h : ws[a]? = some w) (hk : w.fKind = 3) (ht : w.fText = bs [33]) (hx : Pr ws (.sg (a + 1)) x a' b) : Pr ws (.sg a) (.not x) a' b
  | sNeg {a a' : Nat} {w : W_glyph_Word} {x : E} {b : Bool} (h : ws[a]? = some w) (hk : w.fKind = 3) (ht : w.fText = bs [45]) (hx : Pr ws (.sg (a + 1)) x a' b) : Pr ws (.sg a) (.neg x) a' b
  | sPar {a a' : Nat} {w v : W_glyph_Word} {x : E} (h : ws[a]? = some w) (hk : w.fKind = 3) (ht : w.fText = bs [40]) (hx : Pr ws (.cl 1 (a + 1)) x a' false) (h' : ws[a']? = some v) (hv : v.fText = bs [41]) : Pr ws (.sg a) x (a' + 1) false
  | sParN {a a' : Nat} {w : W_glyph_Word} {x : E} {b : Bool} (h : ws[a]? = some w) (hk : w.fKind = 3) (ht : w.fText = bs [40]) (hx : Pr ws (.cl 1 (a + 1)) x a' b) (hb : b = false → ∀ v, ws[a']? = some v → v.fText ≠ bs [41]) : Pr ws (.sg a) .non a' true
  | sBad {a : Nat} {w : W_glyph_Word} (h : ws[a]? = some w) (hk : (w.fKind = 1 ∧ resv w.fText = true) ∨ (w.fKind = 3 ∧ w.fText ≠ bs [33] ∧ w.fText ≠ bs [45] ∧ w.fText ≠ bs [40])) : Pr ws (.sg a) .non a true
  | clm {k a a1 a2 : Nat} {x y : E} {b1 b2 : Bool} (h : Pr ws (.sg a) x a1 b1) (h' : Pr ws (.lp k 6 x a1 b1) y a2 b2) : Pr ws (.cl k a) y a2 b2
  | lBad {k m a : Nat} {x : E} : Pr ws (.lp k m x a true) x a true
  | lEnd {k m a : Nat} {x : E} (h : ∀ w, ws[a]? = some w → w.fKind = 3 → lvl w.fText < k ∨ m < lvl w.fText) : Pr ws (.lp k m x a false) x a false
  | lBin {k m a a1 a2 : Nat} {x y z : E} {b1 b2 : Bool} {w : W_glyph_Word} (h : ws[a]? = some w) (hk : w.fKind = 3) (h1 : k ≤ lvl w.fText) (h2 : lvl w.fText ≤ m) (hy : Pr ws (.cl (lvl w.fText + 1) (a + 1)) y a1 b1)
      (hz : Pr ws (.lp k (if lvl w.fText = 3 then 2 else lvl w.fText) (.bin w.fText x y) a1 b1) z a2 b2) : Pr ws (.lp k m x a false) z a2 b2
/-- A word is of one of the kinds. -/
def Kd (w : W_glyph_Word) : Prop := (w.fKind = 1 ∧ nm w.fText = true) ∨ (w.fKind = 2 ∧ numB w.fText = true) ∨ w.fKind = 3
theorem kd_of_wd {w : W_glyph_Word} (h : Wd w) : Kd w := by
  obtain ⟨t, k, n, r, h0, hf, hk, ht⟩ := h
  unfold fst at hf
  split at hf
  · split at hf
    · rename_i hn
      simp only [Option.some.injEq, Prod.mk.injEq] at hf
      obtain ⟨rfl, rfl, rfl⟩ := hf
      exact .inl ⟨hk, by rw [ht]; exact hn⟩
    · cases hf
  · split at hf
    · split at hf
      · rename_i hn
        simp only [Option.some.injEq, Prod.mk.injEq] at hf
        obtain ⟨rfl, rfl, rfl⟩ := hf
        exact .inr (.inl ⟨hk, by rw [ht]; exact hn⟩)
      · cases hf
    · split at hf
      · cases hf
      · simp only [Option.some.injEq, Prod.mk.injEq] at hf
        obtain ⟨rfl, rfl, rfl⟩ := hf
        exact .inr (.inr hk)
/-- Something is read, whatever words there are; and the words that are read lie between. -/
theorem pr_total (ws : List W_glyph_Word) (hw : ∀ w ∈ ws, Kd w) : ∀ (n a : Nat), ws.length ≤ a + n → a ≤ ws.length →
    (∃ x a' b, Pr ws (.sg a) x a' b ∧ a ≤ a' ∧ a' ≤ ws.length ∧ (b = false → a < a')) ∧
    (∀ k m x b, ∃ y a' b', Pr ws (.lp k m x a b) y a' b' ∧ a ≤ a' ∧ a' ≤ ws.length) := by
  intro n
  induction n with
  | zero =>
    intro a h ha
    have he : ws[a]? = none := List.getElem?_eq_none (by omega)
    refine ⟨⟨_, _, _, .sEnd he, Nat.le_refl _, ha, fun h => by cases h⟩, fun k m x b => ?_⟩
    cases b with
    | true => exact ⟨_, _, _, .lBad, Nat.le_refl _, ha⟩
    | false => exact ⟨_, _, _, .lEnd (fun w hw => by rw [he] at hw; cases hw), Nat.le_refl _, ha⟩
  | succ n ih =>
    intro a h ha
    have cl : ∀ k a, ws.length ≤ a + n → a ≤ ws.length → ∃ y a' b', Pr ws (.cl k a) y a' b' ∧ a ≤ a' ∧ a' ≤ ws.length := by
      intro k a h ha
      obtain ⟨x, a1, b1, h1, h2, h3, _⟩ := (ih a h ha).1
      obtain ⟨y, a2, b2, h4, h5, h6⟩ := (ih a1 (by omega) h3).2 k 6 x b1
      exact ⟨_, _, _, .clm h1 h4, by omega, h6⟩
    cases hg : ws[a]? with
    | none =>
      refine ⟨⟨_, _, _, .sEnd hg, Nat.le_refl _, ha, fun h => by cases h⟩, fun k m x b => ?_⟩
      cases b with
      | true => exact ⟨_, _, _, .lBad, Nat.le_refl _, ha⟩
      | false => exact ⟨_, _, _, .lEnd (fun w hw => by rw [hg] at hw; cases hw), Nat.le_refl _, ha⟩
    | some w =>
      have hlt : a < ws.length := (List.getElem?_eq_some_iff.1 hg).1
      constructor
      · rcases hw w (List.mem_of_getElem? hg) with ⟨hk, hn⟩ | ⟨hk, hn⟩ | hk
        · cases hr : resv w.fText with
          | false => exact ⟨_, _, _, .sRef hg hk hr, by omega, by omega, fun _ => by omega⟩
          | true => exact ⟨_, _, _, .sBad hg (.inl ⟨hk, hr⟩), Nat.le_refl _, ha, fun h => by cases h⟩
        · exact ⟨_, _, _, .sNum hg hk, by omega, by omega, fun _ => by omega⟩
        · by_cases h1 : w.fText = bs [33]
          · obtain ⟨x, a', b, e1, e2, e3, e4⟩ := (ih (a + 1) (by omega) (by omega)).1
            exact ⟨_, _, _, .sNot hg hk h1 e1, by omega, e3, fun _ => by omega⟩
          by_cases h2 : w.fText = bs [45]
          · obtain ⟨x, a', b, e1, e2, e3, e4⟩ := (ih (a + 1) (by omega) (by omega)).1
            exact ⟨_, _, _, .sNeg hg hk h2 e1, by omega, e3, fun _ => by omega⟩
          by_cases h3 : w.fText = bs [40]
          · obtain ⟨x, a', b, e1, e2, e3⟩ := cl 1 (a + 1) (by omega) (by omega)
            by_cases hq : b = false ∧ ∃ v, ws[a']? = some v ∧ v.fText = bs [41]
            · obtain ⟨rfl, v, hv, hv'⟩ := hq
              have := (List.getElem?_eq_some_iff.1 hv).1
              exact ⟨_, _, _, .sPar hg hk h3 e1 hv hv', by omega, by omega, fun _ => by omega⟩
            · exact ⟨_, _, _, .sParN hg hk h3 e1 (fun hb v hv hv' => hq ⟨hb, v, hv, hv'⟩), by omega, e3, fun h => by cases h⟩
          · exact ⟨_, _, _, .sBad hg (.inr ⟨hk, h1, h2, h3⟩), Nat.le_refl _, ha, fun h => by cases h⟩
      · intro k m x b
        cases b with
        | true => exact ⟨_, _, _, .lBad, Nat.le_refl _, ha⟩
        | false =>
          by_cases hc : w.fKind = 3 ∧ k ≤ lvl w.fText ∧ lvl w.fText ≤ m
          · obtain ⟨hk, h1, h2⟩ := hc
            obtain ⟨y, a1, b1, e1, e2, e3⟩ := cl (lvl w.fText + 1) (a + 1) (by omega) (by omega)
            obtain ⟨z, a2, b2, e4, e5, e6⟩ := (ih a1 (by omega) e3).2 k (if lvl w.fText = 3 then 2 else lvl w.fText) (.bin w.fText x y) b1
            exact ⟨_, _, _, .lBin hg hk h1 h2 e1 e4, by omega, e6⟩
          · refine ⟨_, _, _, .lEnd (fun v hv hk => ?_), Nat.le_refl _, ha⟩
            rw [hg] at hv
            cases hv
            rcases Nat.lt_or_ge (lvl w.fText) k with g | g
            · exact .inl g
            · rcases Nat.lt_or_ge m (lvl w.fText) with g' | g'
              · exact .inr g'
              · exact absurd ⟨hk, g, g'⟩ hc
theorem pr_cl (ws : List W_glyph_Word) (hw : ∀ w ∈ ws, Kd w) (k : Nat) : ∃ y a b, Pr ws (.cl k 0) y a b ∧ a ≤ ws.length := by
  obtain ⟨x, a1, b1, h1, h2, h3, _⟩ := (pr_total ws hw ws.length 0 (by omega) (by omega)).1
  obtain ⟨y, a2, b2, h4, h5, h6⟩ := (pr_total ws hw ws.length a1 (by omega) h3).2 k 6 x b1
  exact ⟨_, _, _, .clm h1 h4, h6⟩
end Go.Proofs.YthcaodlfnlhfbaaGreatDoorT

/- The words of an expression's text. -/
namespace Go.Proofs.YthcaodlfnlhfbaaGreatDoorT
open Go Go.Proofs
set_option linter.unusedVariables false
/-- The bytes of a text stand in another one from a place on. -/
def At (T : ByteArray) (i : Nat) (s : ByteArray) : Prop := i + s.size ≤ T.size ∧ ∀ j, j < s.size → bt T (i + j) = bt s j
theorem bt_left {a b : ByteArray} {j : Nat} (h : j < a.size) : bt (a ++ b) j = bt a j := by
  have := bl_len a
  unfold bt
  rw [bl_append, List.getD_eq_getElem?_getD, List.getElem?_append, if_pos (by omega), ← List.getD_eq_getElem?_getD]
theorem bt_right {a b : ByteArray} {j : Nat} : bt (a ++ b) (a.size + j) = bt b j := by
  have := bl_len a
  unfold bt
  rw [bl_append, List.getD_eq_getElem?_getD, List.getElem?_append, if_neg (by omega), this, show a.size + j - a.size = j by omega, ← List.getD_eq_getElem?_getD]
section
variable {T : ByteArray} {i : Nat} {a b s : ByteArray}
theorem At.left (h : At T i (a ++ b)) : At T i a := by
  obtain ⟨h1, h2⟩ := h
  rw [size_append] at h1 h2
  exact ⟨by omega, fun j hj => by rw [h2 j (by omega), bt_left hj]⟩
theorem At.right (h : At T i (a ++ b)) : At T (i + a.size) b := by
  obtain ⟨h1, h2⟩ := h
  rw [size_append] at h1 h2
  exact ⟨by omega, fun j hj => by rw [Nat.add_assoc, h2 (a.size + j) (by omega), bt_right]⟩
theorem At.self : At s 0 s := ⟨by omega, fun j hj => by rw [Nat.zero_add]⟩
theorem At.one {c : UInt8} (h : At T i (bs [c])) : i < T.size ∧ bt T i = c.toNat := by
  obtain ⟨h1, h2⟩ := h
  rw [size_bs] at h1 h2
  have := h2 0 (by simp)
  rw [Nat.add_zero] at this
  exact ⟨by simp at h1; omega, by rw [this]; rfl⟩
/-- From a place on to another one the words of a text are these. -/
def key (w : W_glyph_Word) : Tk := (w.fKind, w.fText)
def Lx (T : ByteArray) (i e : Nat) (l : List Tk) : Prop := ∀ (ln col : Nat) (out : List W_glyph_Word), out.length + l.length ≤ 3000 → ∃ (ln' col' : Nat) (ws : List W_glyph_Word), lexR T i ln col out = lexR T e ln' col' (out ++ ws) ∧ ws.map key = l
theorem Lx.append {e f : Nat} {l m : List Tk} (h : Lx T i e l) (h' : Lx T e f m) : Lx T i f (l ++ m) := by
  intro ln col out ho
  rw [List.length_append] at ho
  obtain ⟨ln1, col1, w1, e1, k1⟩ := h ln col out (by omega)
  have hw : w1.length = l.length := by rw [← k1, List.length_map]
  obtain ⟨ln2, col2, w2, e2, k2⟩ := h' ln1 col1 (out ++ w1) (by rw [List.length_append]; omega)
  exact ⟨ln2, col2, w1 ++ w2, by rw [e1, e2, List.append_assoc], by rw [List.map_append, k1, k2]⟩
theorem Lx.blank (hi : i < T.size) (h : bt T i = 32) : Lx T i (i + 1) [] := by
  intro ln col out ho
  refine ⟨ln, col + 1, [], ?_, rfl⟩
  rw [List.append_nil, lexR_eq, if_neg (by omega), if_neg (by omega), if_pos (.inl h)]
theorem Lx.tok {k n r : Nat} (hi : i < T.size) (h : fst (suf T i) = some (k, n, r)) (hx : (suf T i).extract 0 n = s) : Lx T i (i + n) [((k : Int), s)] := by
  intro ln col out ho
  have hf := fst_first (by rw [size_suf]; omega) h
  rw [bt_suf, Nat.add_zero] at hf
  refine ⟨ln, col + r, [wd k s ln col], ?_, rfl⟩
  simp at ho
  rw [lexR_eq, if_neg (by omega), if_neg hf.1, if_neg (by omega), if_neg hf.2.2.2, h]
  simp only
  rw [if_neg (by omega), hx]
/-- A word ends there. -/
def Brk (T : ByteArray) (e : Nat) : Prop := e = T.size ∨ bt T e = 32 ∨ bt T e = 41
theorem Brk.ins (h : Brk T i) : i = T.size ∨ ins (Utf8.decode T i).1 = false := by
  rcases h with h | h | h
  · exact .inl h
  · right; rw [dec_low (by omega), h]; decide
  · right; rw [dec_low (by omega), h]; decide
end
section
variable {t T : ByteArray}
theorem run_stop {n : Nat} (hn : n ≤ t.size) (hN : n ≤ T.size) (hb : ∀ j, j < n → bt T j = bt t j) (hst : n = T.size ∨ ins (Utf8.decode T n).1 = false) : ∀ (f g i k : Nat), t.size ≤ i + f → T.size ≤ i + g → (run t f i k).1 = n → i ≤ n → run T g i k = run t f i k := by
  have stop : ∀ (g k : Nat), run T g n k = (n, k) := by
    intro g k
    cases g with
    | zero => rfl
    | succ g =>
      rw [run, if_neg]
      rintro ⟨h1, h2⟩
      rcases hst with h | h
      · omega
      · rw [h] at h2; cases h2
  intro f
  induction f with
  | zero =>
    intro g i k h h' hr hi
    rw [run] at hr ⊢
    simp only at hr
    subst hr
    exact stop g k
  | succ f ih =>
    intro g i k h h' hr hi
    rw [run] at hr ⊢
    by_cases hc : i < t.size ∧ ins (Utf8.decode t i).1 = true
    · rw [if_pos hc] at hr ⊢
      have hz := dec_size hc.1
      have hle := run_le (t := t) f (i + (Utf8.decode t i).2) (k + 1) hz.2
      have hd := dec_again (t := t) (T := T) (n := n) (i := i) (by omega) hb (by omega) hc.2 (by omega)
      cases g with
      | zero => omega
      | succ g =>
        rw [run, hd, if_pos ⟨by omega, hc.2⟩]
        exact ih g _ _ (by omega) (by omega) hr (by omega)
    · rw [if_neg hc] at hr ⊢
      simp only at hr
      subst hr
      exact stop g k
theorem fst_word (h0 : 0 < t.size) (hi : ins (Utf8.decode t 0).1 = true) (hr : (run t t.size 0 0).1 = t.size) (hN : t.size ≤ T.size) (hb : ∀ j, j < t.size → bt T j = bt t j) (hst : t.size = T.size ∨ ins (Utf8.decode T t.size).1 = false) :
    Lib.decodeGo T = Lib.decodeGo t ∧ run T T.size 0 0 = run t t.size 0 0 ∧ T.extract 0 t.size = t := by
  have hx := pre_of_bt (t := t) (T := T) (n := t.size) (by omega) hN hb
  refine ⟨?_, run_stop (n := t.size) (by omega) hN hb hst t.size T.size 0 0 (by omega) (by omega) hr (by omega), ?_⟩
  · rw [dec_go, dec_go, if_neg (by omega), if_neg (by omega)]
    exact dec_again (n := t.size) (by omega) hb (by omega) hi (by have := dec_size h0; omega)
  · rw [hx]
    refine ext_bl ?_
    rw [bl_extract, List.drop_zero, List.take_of_length_le (by rw [bl_len]; omega)]
end
section
variable {T : ByteArray} {i : Nat} {s : ByteArray}
theorem at_suf (h : At T i s) : s.size ≤ (suf T i).size ∧ ∀ j, j < s.size → bt (suf T i) j = bt s j := by
  obtain ⟨h1, h2⟩ := h
  exact ⟨by rw [size_suf]; omega, fun j hj => by rw [bt_suf]; exact h2 j hj⟩
theorem stp_suf (h : At T i s) (hs : Brk T (i + s.size)) : s.size = (suf T i).size ∨ ins (Utf8.decode (suf T i) s.size).1 = false := by
  rcases hs.ins with e | e
  · left; rw [size_suf]; omega
  · right; rw [dec_suf]; exact e
theorem lx_name (h : At T i s) (hn : nm s = true) (hs : Brk T (i + s.size)) : Lx T i (i + s.size) [(1, s)] := by
  have hn' := hn
  simp only [nm, Bool.and_eq_true, decide_eq_true_eq] at hn'
  obtain ⟨⟨hl, hr⟩, h24⟩ := hn'
  have h0 : 0 < s.size := by
    refine Nat.pos_of_ne_zero fun e => ?_
    rw [dec_go, if_pos e] at hl
    exact absurd hl (by decide)
  have hgo : Lib.decodeGo s = Utf8.decode s 0 := by rw [dec_go, if_neg (by omega)]
  obtain ⟨h1, h2⟩ := at_suf h
  obtain ⟨e1, e2, e3⟩ := fst_word (t := s) (T := suf T i) h0 (by rw [← hgo]; exact ltr_ins hl) hr h1 h2 (stp_suf h hs)
  refine Lx.tok (k := 1) (n := s.size) (r := (run s s.size 0 0).2) (by have := h.1; omega) ?_ e3
  unfold fst
  rw [e1, if_pos hl, e2, hr, e3, if_pos hn]
theorem dec_digits : ∀ (u : Nat), ∀ c ∈ Lib.decDigits u, 48 ≤ c.toNat ∧ c.toNat ≤ 57 := by
  intro u
  induction u using Nat.strongRecOn with
  | _ u ih =>
    intro c hc
    rw [Lib.decDigits] at hc
    split at hc
    · simp only [List.mem_singleton] at hc
      subst hc
      simp only [UInt8.toNat_ofNat']
      omega
    · rcases List.mem_append.1 hc with hc | hc
      · exact ih (u / 10) (by omega) c hc
      · simp only [List.mem_singleton] at hc
        subst hc
        simp only [UInt8.toNat_ofNat']
        omega
theorem run_digits {t : ByteArray} (h : ∀ j, j < t.size → 48 ≤ bt t j ∧ bt t j ≤ 57) : ∀ (f i k : Nat), t.size ≤ i + f → i ≤ t.size → (run t f i k).1 = t.size := by
  intro f
  induction f with
  | zero => intro i k h1 h2; rw [run]; simp only; omega
  | succ f ih =>
    intro i k h1 h2
    rw [run]
    by_cases hi : i < t.size
    · have := h i hi
      have hd := dec_low (s := t) (i := i) (by omega)
      have : ins ((bt t i : Nat) : Int) = true := by simp only [ins, dig, Bool.or_eq_true, decide_eq_true_eq]; omega
      rw [hd, if_pos ⟨hi, this⟩]
      exact ih _ _ (by simp only; omega) (by simp only; omega)
    · rw [if_neg (by omega)]; simp only; omega
theorem dec_bt (n : Nat) : ∀ j, j < (dec n).size → 48 ≤ bt (dec n) j ∧ bt (dec n) j ≤ 57 := by
  intro j hj
  have hl : j < (Lib.decDigits n).length := by rw [← bl_dec, bl_len]; exact hj
  unfold bt
  rw [bl_dec, List.getD_eq_getElem?_getD, List.getElem?_eq_getElem hl]
  exact dec_digits n _ (List.getElem_mem hl)
theorem dec_pos (n : Nat) : 0 < (dec n).size := by
  rw [← bl_len, bl_dec]
  exact List.length_pos_iff.2 (dec_ne n)
theorem numV_dec {n : Nat} (h : n ≤ 1000000000) : numV (dec n) = some n := by
  unfold numV
  rw [bl_dec, dgt_dec]
  simp only
  rw [if_pos ⟨h, trivial⟩]
theorem lx_num {n : Nat} (h : At T i (dec n)) (hn : n ≤ 1000000000) (hs : Brk T (i + (dec n).size)) : Lx T i (i + (dec n).size) [(2, dec n)] := by
  have h0 := dec_pos n
  have hb := dec_bt n
  have hb0 := hb 0 h0
  have hr := run_digits hb (dec n).size 0 0 (by omega) (by omega)
  have hd0 := dec_low (s := dec n) (i := 0) (by omega)
  have hgo : Lib.decodeGo (dec n) = Utf8.decode (dec n) 0 := by rw [dec_go, if_neg (by omega)]
  have hdig : dig ((bt (dec n) 0 : Nat) : Int) = true := by simp only [dig, decide_eq_true_eq]; omega
  have hltr : ltr ((bt (dec n) 0 : Nat) : Int) = false := by simp only [ltr, decide_eq_false_iff_not]; omega
  obtain ⟨h1, h2⟩ := at_suf h
  obtain ⟨e1, e2, e3⟩ := fst_word (t := dec n) (T := suf T i) h0 (by rw [hd0]; simp only [ins, hdig, Bool.or_true, Bool.true_or]) hr h1 h2 (stp_suf h hs)
  refine Lx.tok (k := 2) (n := (dec n).size) (r := (run (dec n) (dec n).size 0 0).2) (by have := h.1; omega) ?_ e3
  unfold fst
  rw [e1, hgo, hd0]
  simp only
  rw [hltr, if_neg (by simp), hdig, if_pos rfl, e2, hr, e3, if_pos (by rw [numB, numV_dec hn]; rfl)]
theorem fst_sign {t : ByteArray} (h0 : 0 < t.size) (h1 : bt t 0 < 48) (hs : sgn t ≠ 0) : fst t = some (3, sgn t, sgn t) := by
  have hd0 := dec_low (s := t) (i := 0) (by omega)
  have hgo : Lib.decodeGo t = Utf8.decode t 0 := by rw [dec_go, if_neg (by omega)]
  have hdig : dig ((bt t 0 : Nat) : Int) = false := by simp only [dig, decide_eq_false_iff_not]; omega
  have hltr : ltr ((bt t 0 : Nat) : Int) = false := by simp only [ltr, decide_eq_false_iff_not]; omega
  unfold fst
  rw [hgo, hd0]
  simp only
  rw [hltr, hdig, if_neg (by simp), if_neg (by simp), if_neg hs]
theorem fst_sign' {t : ByteArray} (h0 : 0 < t.size) (h1 : bt t 0 < 128) (h2 : bt t 0 = 60 ∨ bt t 0 = 61 ∨ bt t 0 = 124 ∨ bt t 0 < 48) (hs : sgn t ≠ 0) : fst t = some (3, sgn t, sgn t) := by
  have hd0 := dec_low (s := t) (i := 0) (by omega)
  have hgo : Lib.decodeGo t = Utf8.decode t 0 := by rw [dec_go, if_neg (by omega)]
  have hdig : dig ((bt t 0 : Nat) : Int) = false := by simp only [dig, decide_eq_false_iff_not]; omega
  have hltr : ltr ((bt t 0 : Nat) : Int) = false := by simp only [ltr, decide_eq_false_iff_not]; omega
  unfold fst
  rw [hgo, hd0]
  simp only
  rw [hltr, hdig, if_neg (by simp), if_neg (by simp), if_neg hs]
theorem suf_pre (h : At T i s) : (suf T i).extract 0 s.size = s := by
  obtain ⟨h1, h2⟩ := at_suf h
  rw [pre_of_bt (t := s) (by omega) h1 h2]
  refine ext_bl ?_
  rw [bl_extract, List.drop_zero, List.take_of_length_le (by rw [bl_len]; omega)]
/-- A sign of one byte that stands alone. -/
theorem lx_one {c : UInt8} (h : At T i (bs [c])) (hc : c = 40 ∨ c = 41 ∨ c = 45 ∨ (c = 33 ∧ bt T (i + 1) ≠ 61)) : Lx T i (i + 1) [(3, bs [c])] := by
  obtain ⟨h0, h1⟩ := h.one
  have hz : (suf T i).size = T.size - i := size_suf T i
  have b0 : bt (suf T i) 0 = c.toNat := by rw [bt_suf, Nat.add_zero, h1]
  have b1 : bt (suf T i) 1 = bt T (i + 1) := bt_suf T i 1
  have hv : c.toNat = 40 ∨ c.toNat = 41 ∨ c.toNat = 45 ∨ (c.toNat = 33 ∧ bt T (i + 1) ≠ 61) := by
    rcases hc with h | h | h | ⟨h, h'⟩ <;> subst h
    · exact .inl rfl
    · exact .inr (.inl rfl)
    · exact .inr (.inr (.inl rfl))
    · exact .inr (.inr (.inr ⟨rfl, h'⟩))
  have hs : sgn (suf T i) = 1 := by
    unfold sgn
    rw [b0, b1, if_neg (by omega), if_pos (by omega)]
  have hx := suf_pre h
  have hf := fst_sign (t := suf T i) (by omega) (by omega) (by omega)
  rw [hs] at hf
  exact Lx.tok (k := 3) (n := 1) (r := 1) h0 hf hx
/-- An operator, a blank behind it. -/
theorem lx_op (h : At T i s) (ho : lvl s ≠ 0) (hb : bt T (i + s.size) = 32) : Lx T i (i + s.size) [(3, s)] := by
  have hz : (suf T i).size = T.size - i := size_suf T i
  have hx := suf_pre h
  have h' := h
  obtain ⟨h1, h2⟩ := at_suf h
  have hsz := lvl_size ho
  have hbb : bt (suf T i) s.size = 32 := by rw [bt_suf]; exact hb
  have hmem : s ∈ OPS := by
    have := ops_lvl s
    rw [decide_eq_true ho, List.any_eq_true] at this
    obtain ⟨y, h1, h2⟩ := this
    simp only [decide_eq_true_eq] at h2
    subst h2; exact h1
  have hkey : sgn (suf T i) = s.size ∧ (bt (suf T i) 0 < 128 ∧ (bt (suf T i) 0 = 60 ∨ bt (suf T i) 0 = 61 ∨ bt (suf T i) 0 = 124 ∨ bt (suf T i) 0 < 48)) := by
    have one : ∀ c : UInt8, s = bs [c] → (c.toNat = 43 ∨ c.toNat = 45 ∨ c.toNat = 42 ∨ c.toNat = 60) → sgn (suf T i) = s.size ∧ (bt (suf T i) 0 < 128 ∧ (bt (suf T i) 0 = 60 ∨ bt (suf T i) 0 = 61 ∨ bt (suf T i) 0 = 124 ∨ bt (suf T i) 0 < 48)) := by
      intro c e hc
      subst e
      have b0 : bt (suf T i) 0 = c.toNat := by rw [h2 0 (by rw [size_bs]; simp)]; rfl
      have b1 : bt (suf T i) 1 = 32 := hbb
      refine ⟨?_, by omega⟩
      unfold sgn
      rw [b0, b1, if_neg (by omega), if_pos (by omega), size_bs]; rfl
    have two : ∀ c d : UInt8, s = bs [c, d] → ((c.toNat = 60 ∧ d.toNat = 61) ∨ (c.toNat = 61 ∧ d.toNat = 61) ∨ (c.toNat = 33 ∧ d.toNat = 61) ∨ (c.toNat = 38 ∧ d.toNat = 38) ∨ (c.toNat = 124 ∧ d.toNat = 124)) → sgn (suf T i) = s.size ∧ (bt (suf T i) 0 < 128 ∧ (bt (suf T i) 0 = 60 ∨ bt (suf T i) 0 = 61 ∨ bt (suf T i) 0 = 124 ∨ bt (suf T i) 0 < 48)) := by
      intro c d e hc
      subst e
      have b0 : bt (suf T i) 0 = c.toNat := by rw [h2 0 (by rw [size_bs]; simp)]; rfl
      have b1 : bt (suf T i) 1 = d.toNat := by rw [h2 1 (by rw [size_bs]; simp)]; rfl
      have hl : 2 ≤ (suf T i).size := h1
      refine ⟨?_, by omega⟩
      unfold sgn
      rw [b0, b1, if_pos (by omega), size_bs]; rfl
    simp only [OPS, List.mem_cons, List.not_mem_nil, or_false] at hmem
    rcases hmem with h | h | h | h | h | h | h | h | h
    · exact one _ h (by decide)
    · exact one _ h (by decide)
    · exact one _ h (by decide)
    · exact one _ h (by decide)
    · exact two _ _ h (by decide)
    · exact two _ _ h (by decide)
    · exact two _ _ h (by decide)
    · exact two _ _ h (by decide)
    · exact two _ _ h (by decide)
  have hf := fst_sign' (t := suf T i) (by omega) hkey.2.1 hkey.2.2 (by omega)
  rw [hkey.1] at hf
  exact Lx.tok (k := 3) (n := s.size) (r := s.size) (by have := h'.1; omega) hf hx
end
/-- Its first byte. -/
theorem txt_head : ∀ x : E, x.snd = true → x.str = 6 → 0 < x.txt.size ∧ bt x.txt 0 ≠ 61 := by
  intro x hx hs
  cases x with
  | non => cases hx
  | lit n => have h0 := dec_pos n.toNat; have := dec_bt n.toNat 0 h0; exact ⟨h0, by show bt (dec n.toNat) 0 ≠ 61; omega⟩
  | ref s =>
    have hn : nm s = true := hx
    simp only [nm, Bool.and_eq_true, decide_eq_true_eq] at hn
    obtain ⟨⟨hl, hr⟩, h24⟩ := hn
    have h0 : 0 < s.size := by
      refine Nat.pos_of_ne_zero fun e => ?_
      rw [dec_go, if_pos e] at hl
      exact absurd hl (by decide)
    refine ⟨h0, fun h61 => ?_⟩
    have h61 : bt s 0 = 61 := h61
    rw [dec_go, if_neg (by omega), dec_low (by omega), h61] at hl
    exact absurd hl (by decide)
  | not x => exact ⟨by rw [E.txt, size_append, size_bs]; simp; omega, by rw [E.txt, bt_left (by rw [size_bs]; simp)]; decide⟩
  | neg x => exact ⟨by rw [E.txt, size_append, size_bs]; simp; omega, by rw [E.txt, bt_left (by rw [size_bs]; simp)]; decide⟩
  | bin op l r =>
    have := lvl_le op
    simp only [E.str] at hs
    omega
theorem wrp_head (x : E) (hx : x.snd = true) (hb : x.str ≤ 6) : 0 < (wrp x.str 6 x.txt).size ∧ bt (wrp x.str 6 x.txt) 0 ≠ 61 := by
  unfold wrp
  split
  · exact ⟨by rw [size_append, size_append, size_bs]; simp; omega, by rw [bt_left (by rw [size_append, size_bs]; simp; omega), bt_left (by rw [size_bs]; simp)]; decide⟩
  · exact txt_head x hx (by omega)
theorem str_le (x : E) : x.str ≤ 6 := by
  cases x <;> simp only [E.str] <;> first | omega | (rename_i op l r; have := lvl_le op; omega)
theorem lx_wrp {x : E} (ih : ∀ T i, At T i x.txt → Brk T (i + x.txt.size) → Lx T i (i + x.txt.size) x.tks) (k l : Nat) {T : ByteArray} {i : Nat} (h : At T i (wrp k l x.txt)) (hs : Brk T (i + (wrp k l x.txt).size)) :
    Lx T i (i + (wrp k l x.txt).size) (wrk k l x.tks) := by
  unfold wrp at h hs ⊢
  unfold wrk
  split
  · rename_i hk
    rw [if_pos hk] at h hs
    have h3 := h.right
    have h1 := h.left.left
    have h2 := h.left.right
    rw [size_append, size_bs] at h3
    rw [size_bs] at h2
    have e1 := lx_one h1 (.inl rfl)
    have e2 := ih T (i + 1) h2 (.inr (.inr (by rw [Nat.add_assoc]; exact h3.one.2)))
    have e3 := lx_one h3 (.inr (.inl rfl))
    have := (e1.append e2)
    rw [Nat.add_assoc] at this
    have := this.append e3
    rw [size_append, size_append, size_bs, size_bs]
    exact this
  · rename_i hk
    rw [if_neg hk] at h hs
    exact ih T i h hs
theorem lx_txt : ∀ x : E, x.snd = true → ∀ (T : ByteArray) (i : Nat), At T i x.txt → Brk T (i + x.txt.size) → Lx T i (i + x.txt.size) x.tks := by
  intro x
  induction x with
  | non => intro h; cases h
  | lit n =>
    intro h T i ha hs
    simp only [E.snd, decide_eq_true_eq] at h
    exact lx_num ha (by omega) hs
  | ref s => exact fun h T i ha hs => lx_name ha h hs
  | not x ih =>
    intro h T i ha hs
    simp only [E.txt, E.tks] at ha hs ⊢
    have h2 := ha.right
    rw [size_append] at hs ⊢
    rw [← Nat.add_assoc] at hs ⊢
    rw [size_bs] at h2 hs ⊢
    have hw := wrp_head x h (str_le x)
    have e2 := lx_wrp (ih h) x.str 6 h2 hs
    have e1 := lx_one ha.left (.inr (.inr (.inr ⟨rfl, by have := h2.2 0 hw.1; rw [Nat.add_zero] at this; simp at this; rw [this]; exact hw.2⟩)))
    exact e1.append e2
  | neg x ih =>
    intro h T i ha hs
    simp only [E.txt, E.tks] at ha hs ⊢
    have h2 := ha.right
    rw [size_append] at hs ⊢
    rw [← Nat.add_assoc] at hs ⊢
    rw [size_bs] at h2 hs ⊢
    have e2 := lx_wrp (ih h) x.str 6 h2 hs
    have e1 := lx_one ha.left (.inr (.inr (.inl rfl)))
    exact e1.append e2
  | bin op l r ih1 ih2 =>
    intro h T i ha hs
    simp only [E.snd, Bool.and_eq_true, decide_eq_true_eq] at h
    simp only [E.txt, E.tks] at ha hs ⊢
    have h5 := ha.right
    have h4 := ha.left.right
    have h3 := ha.left.left.right
    have h2 := ha.left.left.left.right
    have h1 := ha.left.left.left.left
    simp only [size_append, size_bs, List.length_cons, List.length_nil] at h2 h3 h4 h5 hs ⊢
    generalize hL : (wrp l.str (lft (lvl op)) l.txt).size = nl at h2 h3 h4 h5 hs ⊢
    generalize hR : (wrp r.str (lvl op + 1) r.txt).size = nr at h5 hs ⊢
    have e1 := lx_wrp (ih1 h.1.2) l.str (lft (lvl op)) h1 (.inr (.inl (by rw [hL]; exact h2.one.2)))
    rw [hL] at e1
    have e2 := Lx.blank h2.one.1 h2.one.2
    have e3 := lx_op h3 h.1.1 (by rw [Nat.add_assoc]; exact h4.one.2)
    have e4 := Lx.blank h4.one.1 h4.one.2
    have e5 := lx_wrp (ih2 h.2) r.str (lvl op + 1) h5 (by
      rw [hR]
      have e : i + (nl + (0 + 1) + op.size + (0 + 1)) + nr = i + (nl + (0 + 1) + op.size + (0 + 1) + nr) := by omega
      rw [e]
      exact hs)
    rw [hR] at e5
    have q1 := e1.append e2
    have q2 := q1.append (by
      have e : i + nl + 1 = i + (nl + (0 + 1)) := by omega
      rw [e]
      exact e3)
    have q3 := q2.append (by
      have e : i + (nl + (0 + 1)) + op.size = i + (nl + (0 + 1) + op.size) := by omega
      rw [e]
      exact e4)
    have q4 := q3.append (by
      have e : i + (nl + (0 + 1) + op.size) + 1 = i + (nl + (0 + 1) + op.size + (0 + 1)) := by omega
      rw [e]
      exact e5)
    have e : i + (nl + (0 + 1) + op.size + (0 + 1)) + nr = i + (nl + (0 + 1) + op.size + (0 + 1) + nr) := by omega
    rw [e] at q4
    simpa using q4
/-- The words of the whole. -/
theorem words_txt {x : E} (hx : x.ok = true) : (wordsOf x.txt).2.2 = 0 ∧ (wordsOf x.txt).1.map key = x.tks := by
  have hp := ok_parts hx
  have hz := ok_size hx
  have hl := tks_len x
  obtain ⟨ln, col, ws, h1, h2⟩ := lx_txt x hp.2 x.txt 0 At.self (.inl (by omega)) 1 1 [] (by simp; omega)
  unfold wordsOf
  rw [if_neg (by omega), h1, lexR_eq, if_pos (by omega), List.nil_append]
  exact ⟨rfl, h2⟩
theorem words_brk {x : E} (hx : x.ok = true) : (wordsOf (bs [40] ++ x.txt ++ bs [41])).2.2 = 0 ∧ (wordsOf (bs [40] ++ x.txt ++ bs [41])).1.map key = (3, bs [40]) :: x.tks ++ [(3, bs [41])] := by
  have hp := ok_parts hx
  have hz := ok_size hx
  have hl := tks_len x
  have hw := lx_wrp (lx_txt x hp.2) 0 1 (T := bs [40] ++ x.txt ++ bs [41]) (i := 0) (by rw [wrp, if_pos (by omega)]; exact At.self) (by rw [wrp, if_pos (by omega)]; exact .inl (by omega))
  rw [wrp, if_pos (by omega), wrk, if_pos (by omega)] at hw
  obtain ⟨ln, col, ws, h1, h2⟩ := hw 1 1 [] (by simp; omega)
  have hs : (bs [40] ++ x.txt ++ bs [41]).size ≤ 4002 := by rw [size_append, size_append, size_bs, size_bs]; simp; omega
  unfold wordsOf
  rw [if_neg (by omega), h1, lexR_eq, if_pos (by omega), List.nil_append]
  exact ⟨rfl, h2⟩
end Go.Proofs.YthcaodlfnlhfbaaGreatDoorT

/- The library's whole numbers out of digits, at base 10 and 64 bits. -/
namespace Go.Proofs
open Go.Shelf Go.RowKit Go.Lib
def Tryz.laysPI_ren : Go.Shelf.Ren := ⟨fun | 247 => 90 | 287 => 107 | 321 => 121 | 322 => 122 | n => n, fun | 9 => 9 | 3 => 3 | 2 => 2 | 75 => 120 | 4 => 4 | 167 => 150 | 5 => 5 | 53 => 110 | 175 => 133 | 46 => 127 | 37 => 113 | 0 => 0 | 21 => 21 | 80 => 177 | n => n, fun | n => n⟩
theorem Tryz.laysPI : Go.Proofs.LaysC.n247 Tryz.prog Tryz.laysPI_ren where
  mixed := by kernel_rfl
  f247 := Tryz.func90.trans (congrArg some (by kernel_rfl))
  f287 := Tryz.func107.trans (congrArg some (by kernel_rfl))
  f321 := Tryz.func121.trans (congrArg some (by kernel_rfl))
  f322 := Tryz.func122.trans (congrArg some (by kernel_rfl))
  t0 := Tryz.underlying0
  a0 := Tryz.isAgg0
  z0 := Tryz.sizeOf0
  v0 := Tryz.zeroValue0
  t2 := Tryz.underlying2
  a2 := Tryz.isAgg2
  z2 := Tryz.sizeOf2
  v2 := Tryz.zeroValue2
  t3 := Tryz.underlying3
  a3 := Tryz.isAgg3
  z3 := Tryz.sizeOf3
  v3 := Tryz.zeroValue3
  t4 := Tryz.underlying4
  a4 := Tryz.isAgg4
  z4 := Tryz.sizeOf4
  v4 := Tryz.zeroValue4
  t5 := Tryz.underlying5
  a5 := Tryz.isAgg5
  z5 := Tryz.sizeOf5
  v5 := Tryz.zeroValue5
  t9 := Tryz.underlying9
  a9 := Tryz.isAgg9
  z9 := Tryz.sizeOf9
  v9 := Tryz.zeroValue9
  t21 := Tryz.underlying21
  a21 := Tryz.isAgg21
  z21 := Tryz.sizeOf21
  v21 := Tryz.zeroValue21
  t37 := Tryz.underlying113
  a37 := Tryz.isAgg113
  z37 := Tryz.sizeOf113
  v37 := Tryz.zeroValue113
  t46 := Tryz.underlying127
  a46 := Tryz.isAgg127
  z46 := Tryz.sizeOf127
  v46 := Tryz.zeroValue127
  t53 := Tryz.underlying110
  a53 := Tryz.isAgg110
  z53 := Tryz.sizeOf110
  v53 := Tryz.zeroValue110
  t75 := Tryz.underlying120
  a75 := Tryz.isAgg120
  z75 := Tryz.sizeOf120
  v75 := Tryz.zeroValue120
  t167 := Tryz.underlying150
  a167 := Tryz.isAgg150
  z167 := Tryz.sizeOf150
  v167 := Tryz.zeroValue150
  t175 := Tryz.underlying133
  a175 := Tryz.isAgg133
  z175 := Tryz.sizeOf133
  v175 := Tryz.zeroValue133
  t80 := Tryz.underlying177
  a80 := Tryz.isAgg177
  z80 := Tryz.sizeOf177
  v80 := Tryz.zeroValue177
  i0 := by kernel_rfl
  i2 := by kernel_rfl
  i3 := by kernel_rfl
  i4 := by kernel_rfl
  i5 := by kernel_rfl
  i9 := by kernel_rfl
  i21 := by kernel_rfl
  i37 := by kernel_rfl
  i46 := by kernel_rfl
  i53 := by kernel_rfl
  i75 := by kernel_rfl
  i80 := by kernel_rfl
  i167 := by kernel_rfl
  i175 := by kernel_rfl
  c0 := by kernel_rfl
  c2 := by kernel_rfl
  c3 := by kernel_rfl
  c4 := by kernel_rfl
  c5 := by kernel_rfl
  c9 := by kernel_rfl
  c21 := by kernel_rfl
  c37 := by kernel_rfl
  c46 := by kernel_rfl
  c53 := by kernel_rfl
  c75 := by kernel_rfl
  c80 := by kernel_rfl
  c167 := by kernel_rfl
  c175 := by kernel_rfl
namespace YthcaodlfnlhfbaaGreatDoorT
theorem pm_dgt : ∀ (l : List UInt8) (a v : Nat), dgt a l = some v → v ≤ 9223372036854775807 → Lib.parseUintM 18446744073709551615 a l = .ok v
  | [], a, v, h, hv => by simp [dgt] at h; subst h; rfl
  | c :: r, a, v, h, hv => by
    rw [dgt] at h
    rw [Lib.parseUintM]
    split at h
    · rename_i hd
      have hg := dgt_ge _ _ _ h
      rw [if_pos hd, if_neg (by omega), if_neg (by omega), show a * 10 + (c.toNat - 48) = 10 * a + (c.toNat - 48) by omega]
      exact pm_dgt r _ v h hv
    · cases h
theorem pi_dgt {l : List UInt8} {v : Nat} (h : dgt 0 l = some v) (hl : l ≠ []) (hv : v ≤ 1000000000) : Lib.parseIntB 64 l = .ok (v : Int) := by
  have hm := pm_dgt l 0 v h (by omega)
  cases l with
  | nil => exact absurd rfl hl
  | cons c r =>
    have hd : 48 ≤ c.toNat ∧ c.toNat ≤ 57 := by
      rw [dgt] at h
      split at h
      · assumption
      · cases h
    have e43 : ¬ (c.toNat = 43 ∨ c.toNat = 45) := by omega
    have e45 : ¬ c.toNat = 45 := by omega
    have hub : Lib.parseUintB 64 (c :: r) = .ok v := by
      rw [Lib.parseUintB, if_neg (by simp)]
      exact hm
    unfold Lib.parseIntB
    simp only [if_neg e43]
    rw [hub]
    simp only [e45, not_false_eq_true, true_and, false_and, if_false]
    have h2 : ¬ 2 ^ (64 - 1) ≤ v := by
      show ¬ 9223372036854775808 ≤ v
      omega
    rw [if_neg h2]
theorem runs90 (t : ByteArray) (v : Nat) (h : dgt 0 (bl t) = some v) (hl : bl t ≠ []) (hv : v ≤ 1000000000) (hs : t.size ≤ 140737488355328) :
    Rn 90 [st t, i64 10, i64 64] (.tup [i64 v, (⟨0, .dead⟩ : IfV).v], [.dead, .dead, .dead]) := by
  have h0 : t.size ≠ 0 := fun e => hl (List.eq_nil_of_length_eq_zero (by rw [bl_len]; exact e))
  refine runs_of_calls (us := [.string t, .int .i64 10, .int .i64 64]) ⟨Tryz.f90, Tryz.func90, by decide, by kernel_rfl⟩ (by simp [plainV]) fun w hG => ?_
  have hp := pi_dgt h hl hv
  have hp : Lib.parseIntB 64 t.data.toList = .ok (v : Int) := hp
  refine (Any.internal_strconv_ParseInt_10_at64 Tryz.laysPI t h0 (by omega) w).mono ?_
  rintro e w' ⟨rfl, hw⟩
  rw [hp]
  refine ⟨?_, _, rfl, fun ok => X_pair (X_s rfl) X_nilI⟩
  rcases hw with rfl | ⟨u, rfl⟩
  · exact Below.refl _ _
  · exact Lib.bytesWorld_below _ _ _
/-- ParseInt, as the program calls it, of a number's text. -/
theorem runs74 (t : ByteArray) (v : Nat) (h : numV t = some v) (hs : t.size ≤ 140737488355328) : Rn 74 [st t, i64 10, i64 64] (.tup [i64 v, (⟨0, .dead⟩ : IfV).v], [.dead, .dead, .dead]) := by
  unfold numV at h
  split at h
  · rename_i u hu
    split at h
    · rename_i hc
      simp only [Option.some.injEq] at h
      subst h
      exact f74 _ _ _ _ ⟨_, _, runs90 t u hu (fun e => dec_ne u (by rw [hc.2, e])) hc.1 hs, cF rfl rfl⟩
    · cases h
  · cases h
end YthcaodlfnlhfbaaGreatDoorT
end Go.Proofs

/- The program's reader of expressions comes to what the words say. -/
namespace Go.Proofs.YthcaodlfnlhfbaaGreatDoorT
open Go Go.Proofs
set_option linter.unusedVariables false
theorem r15 (s : ByteArray) : Rn 15 [st s] (tb (resv s), [.dead]) := f15 _ _ ⟨_, r27 RS s (by decide), rfl⟩
/-- The rows of operators, the weakest first. -/
def LV : List (List ByteArray) := [[], [bs [124, 124]], [bs [38, 38]], [bs [60], bs [60, 61], bs [61, 61], bs [33, 61]], [bs [43], bs [45]], [bs [42]]]
def LVT : List T := LV.map fun l => .sl 1 (l.map st)
theorem r33 (s : ByteArray) : Rn 33 [st s] (i64 (lvl s), [.dead]) := by
  refine f33 _ _ ?_
  show L33_0 s 6 0 LVT _
  have step : ∀ (k : Nat) (l : List ByteArray) (R : T × List T), k < 6 → LV[k]? = some l → l.length ≤ 1000 → ((l.any fun y => decide (s = y)) = true → R = (i64 k, [.dead])) → ((l.any fun y => decide (s = y)) = false → L33_0 s 6 ((k + 1 : Nat) : Int) LVT R) → L33_0 s 6 (k : Int) LVT R := by
    intro k l R hk hl hn ht hf
    refine l33_0 _ _ _ _ _ (cT (by simp; omega) ⟨⟨by omega, by show (k : Int) < ((6 : Nat) : Int); omega⟩, l.map st, ?_, _, r27 l s hn, cb (fun h => ht h) (fun h => ?_)⟩)
    · rw [toN, LVT, List.getElem?_map, hl]; rfl
    · rw [wS (by omega)]; exact hf h
  have hlv : ∀ k : Nat, lvl s = k → (i64 (lvl s), [.dead]) = ((i64 (k : Int), [.dead]) : T × List T) := fun k h => by rw [h]
  refine step 0 _ _ (by decide) rfl (by decide) (fun h => by simp at h) (fun h0 => ?_)
  refine step 1 _ _ (by decide) rfl (by decide) (fun h => hlv 1 (by simp at h; subst h; decide)) (fun h1 => ?_)
  refine step 2 _ _ (by decide) rfl (by decide) (fun h => hlv 2 (by simp at h; subst h; decide)) (fun h2 => ?_)
  refine step 3 _ _ (by decide) rfl (by decide) (fun h => hlv 3 (by simp at h; rcases h with h | h | h | h <;> subst h <;> decide)) (fun h3 => ?_)
  refine step 4 _ _ (by decide) rfl (by decide) (fun h => hlv 4 (by simp at h; rcases h with h | h <;> subst h <;> decide)) (fun h4 => ?_)
  refine step 5 _ _ (by decide) rfl (by decide) (fun h => hlv 5 (by simp at h; subst h; decide)) (fun h5 => ?_)
  refine l33_0 _ _ _ _ _ (cF (by decide) ?_)
  simp at h1 h2 h3 h4 h5
  rw [show lvl s = 0 by unfold lvl; simp_all]
  rfl
abbrev ps (ws : List W_glyph_Word) (a : Nat) (b : Bool) : T := .cbox 82 [.sl 4 (ws.map W_glyph_Word.t), i64 (a : Int), tb b]
theorem r52 {ws : List W_glyph_Word} {a : Nat} {w : W_glyph_Word} (h : ws[a]? = some w) (b : Bool) : Rn 52 [ps ws a b] (w.t, [ps ws a b]) := by
  have hlt := (List.getElem?_eq_some_iff.1 h).1
  refine f52 _ _ _ _ (cT (by simp; omega) ⟨w, ⟨by omega, ?_⟩, rfl⟩)
  rw [toN, List.getElem?_map, h]; rfl
theorem r52n {ws : List W_glyph_Word} {a : Nat} (h : ws[a]? = none) (b : Bool) : Rn 52 [ps ws a b] ((⟨0, bs [], 0, 0⟩ : W_glyph_Word).t, [ps ws a b]) := by
  have hlt := List.getElem?_eq_none_iff.1 h
  exact f52 _ _ _ _ (cF (by simp; omega) rfl)
/-- What is to be shown of the program's functions. -/
def Mp (ws : List W_glyph_Word) : Tag → E → Nat → Bool → Prop
  | .sg a, x, a', b => Rn 51 [ps ws a false] (x.v.v, [ps ws a' b])
  | .cl k a, x, a', b => 1 ≤ k → k ≤ 6 → Rn 36 [ps ws a false, i64 (k : Int)] (x.v.v, [ps ws a' b, .dead])
  | .lp k m y a c, x, a', b => 1 ≤ k → L36_0 k y.v m ⟨ws.map W_glyph_Word.t, a, c⟩ (x.v.v, [ps ws a' b, .dead])
theorem pr_prog {ws : List W_glyph_Word} (hw : ∀ w ∈ ws, Kd w) (hs : ∀ w ∈ ws, w.fText.size ≤ 12000) (hn : ws.length ≤ 3000) {t : Tag} {x : E} {a' : Nat} {b : Bool} (h : Pr ws t x a' b) : Mp ws t x a' b := by
  have idx : ∀ {a : Nat} {w : W_glyph_Word}, ws[a]? = some w → a < 3000 := fun h => by have := (List.getElem?_eq_some_iff.1 h).1; omega
  induction h with
  | sEnd h => exact f51 _ _ _ _ ⟨_, _, _, _, r52n h false, cT rfl rfl⟩
  | @sNum a w h hk =>
    have hi := idx h
    have hm := List.mem_of_getElem? h
    have hv : ∃ v, numV w.fText = some v := by
      rcases hw w hm with h | h | h
      · omega
      · exact Option.isSome_iff_exists.1 h.2
      · omega
    obtain ⟨v, hv⟩ := hv
    have hs' := hs w hm
    refine f51 _ _ _ _ ⟨_, _, _, _, r52 h false, cF (by simp [hk]) (cF rfl (cT (by simp [hk]) ⟨_, _, runs74 w.fText v hv (by omega), ?_⟩))⟩
    rw [wS (by omega)]
    simp only [num, hv, Option.getD_some]
    rfl
  | @sRef a w h hk hr =>
    have hi := idx h
    have h101 := r15 w.fText
    rw [hr] at h101
    refine f51 _ _ _ _ ⟨_, _, _, _, r52 h false, cF (by simp [hk]) (cF rfl (cF (by simp [hk]) (cT (by simp [hk]) ⟨_, h101, cT rfl ?_⟩)))⟩
    rw [wS (by omega)]
    rfl
  | @sNot a a1 w x b h hk ht hx ih =>
    have hi := idx h
    refine f51 _ _ _ _ ⟨_, _, _, _, r52 h false, cF (by simp [hk]) (cF rfl (cF (by simp [hk]) (cF (by simp [hk]) (cT (by simp [ht]) ⟨x.v, _, _, _, ?_, rfl⟩))))⟩
    rw [wS (by omega)]
    exact ih
  | @sNeg a a1 w x b h hk ht hx ih =>
    have hi := idx h
    refine f51 _ _ _ _ ⟨_, _, _, _, r52 h false, cF (by simp [hk]) (cF rfl (cF (by simp [hk]) (cF (by simp [hk]) (cF (by rw [ht]; decide) (cT (by simp [ht]) ⟨x.v, _, _, _, ?_, rfl⟩)))))⟩
    rw [wS (by omega)]
    exact ih
  | @sPar a a1 w v x h hk ht hx h' hv ih =>
    have hi := idx h
    have hi' := idx h'
    refine f51 _ _ _ _ ⟨_, _, _, _, r52 h false, cF (by simp [hk]) (cF rfl (cF (by simp [hk]) (cF (by simp [hk]) (cF (by rw [ht]; decide) (cF (by rw [ht]; decide) (cT (by simp [ht]) ⟨x.v, _, _, _, ?_, cT rfl ⟨_, _, _, _, r52 h' false, cT (by simp [hv]) ?_⟩⟩))))))⟩
    · rw [wS (by omega)]
      exact ih (by omega) (by omega)
    · rw [wS (by omega)]
  | @sParN a a1 w x b h hk ht hx hb ih =>
    have hi := idx h
    refine f51 _ _ _ _ ⟨_, _, _, _, r52 h false, cF (by simp [hk]) (cF rfl (cF (by simp [hk]) (cF (by simp [hk]) (cF (by rw [ht]; decide) (cF (by rw [ht]; decide) (cT (by simp [ht]) ⟨x.v, ws.map W_glyph_Word.t, (a1 : Int), b, ?_, ?_⟩))))))⟩
    · rw [wS (by omega)]
      exact ih (by omega) (by omega)
    · cases b with
      | true => exact cF rfl rfl
      | false =>
        refine cT rfl ?_
        cases hg : ws[a1]? with
        | none => exact ⟨_, _, _, _, r52n hg false, cF (by decide) rfl⟩
        | some v => exact ⟨_, _, _, _, r52 hg false, cF (by simpa using hb rfl v hg) rfl⟩
  | @sBad a w h hk =>
    have hi := idx h
    have e : IntKind.wrap .i64 (IntKind.wrap .i64 ((a : Int) + 1) - 1) = (a : Int) := by rw [wS (by omega), w64 (by omega)]; omega
    rcases hk with ⟨hk, hr⟩ | ⟨hk, h1, h2, h3⟩
    · have h101 := r15 w.fText
      rw [hr] at h101
      have hnm : nm w.fText = true := by
        rcases hw w (List.mem_of_getElem? h) with h | h | h
        · exact h.2
        · omega
        · omega
      have ne : ∀ s : ByteArray, nm s = false → decide (w.fText = s) = false := fun s hs => decide_eq_false (fun e => by rw [e, hs] at hnm; cases hnm)
      refine f51 _ _ _ _ ⟨_, _, _, _, r52 h false, cF (by simp [hk]) (cF rfl (cF (by simp [hk]) (cT (by simp [hk]) ⟨_, h101, cF rfl (cF (ne _ (by decide +kernel)) (cF (ne _ (by decide +kernel)) (cF (ne _ (by decide +kernel)) ?_)))⟩)))⟩
      rw [e]; rfl
    · refine f51 _ _ _ _ ⟨_, _, _, _, r52 h false, cF (by simp [hk]) (cF rfl (cF (by simp [hk]) (cF (by simp [hk]) (cF (by simpa using h1) (cF (by simpa using h2) (cF (by simpa using h3) ?_))))))⟩
      rw [e]; rfl
  | clm h h' ih ih' =>
    intro hk1 hk
    exact f36 _ _ _ _ _ ⟨_, _, _, _, ih, ih' hk1⟩
  | lBad => intro hk; exact l36_0 _ _ _ _ _ (cF rfl rfl)
  | @lEnd k m a x h =>
    intro hk
    cases hg : ws[a]? with
    | none => exact l36_0 _ _ _ _ _ (cT rfl ⟨_, _, _, _, r52n hg false, _, r33 _, cT (by decide) rfl⟩)
    | some w =>
      refine l36_0 _ _ _ _ _ (cT rfl ⟨_, _, _, _, r52 hg false, _, r33 _, cdn (fun _ => rfl) (fun h3 => cd (fun _ => rfl) (fun h4 => cd (fun _ => rfl) (fun h5 => ?_)))⟩)
      have := h w hg h3
      omega
  | @lBin k m a a1 a2 x y z b1 b2 w h hk h1 h2 hy hz ihy ihz =>
    intro hk1
    have hi := idx h
    have hl := lvl_le w.fText
    refine l36_0 _ _ _ _ _ (cT rfl ⟨_, _, _, _, r52 h false, _, r33 _, cF (by simp [hk]) (cF (by simp; omega) (cF (by simp; omega) ⟨y.v, ws.map W_glyph_Word.t, (a1 : Int), b1, ?_, cd (fun h3 => ?_) (fun h3 => ?_)⟩))⟩)
    · rw [wS (by omega), wS (by omega)]
      exact ihy (by omega) (by omega)
    · have := ihz hk1
      rw [if_pos (by omega)] at this
      rw [w64 (by omega), show ((lvl w.fText : Nat) : Int) - 1 = ((2 : Nat) : Int) by omega]
      exact this
    · have := ihz hk1
      rw [if_neg (by omega)] at this
      exact this
end Go.Proofs.YthcaodlfnlhfbaaGreatDoorT

/- Expressions as the document has them: their size. -/
namespace Go.Proofs.YthcaodlfnlhfbaaGreatDoorT
open Go Go.Proofs
set_option linter.unusedVariables false
/-- As the document has it. -/
def E.d : E → W_tumbrelref04_Node
  | .non => ⟨0, 0, bs [], []⟩
  | .lit n => ⟨1, n, bs [], []⟩
  | .ref s => ⟨2, 0, s, []⟩
  | .not x => ⟨3, 0, bs [], [x.d.t]⟩
  | .neg x => ⟨4, 0, bs [], [x.d.t]⟩
  | .bin op l r => ⟨5, 0, op, [l.d.t, r.d.t]⟩
abbrev ds (l : List E) : List T := l.map fun y => y.d.t
theorem getd {l : List E} {k : Nat} (h : k < l.length) : (ds l)[Int.toNat (k : Int)]? = some (l[k]).d.t := getm h
theorem d_parts (x : E) : x.d.fParts = ds x.ops := by cases x <;> rfl
theorem r53_of (x : E) (IH : ∀ y ∈ x.ops, Rn 53 [y.d.t] (i64 (least (y.nodes : Int) 41), [.dead])) : Rn 53 [x.d.t] (i64 (least (x.nodes : Int) 41), [.dead]) := by
  have hlen := ops_len x
  have loop : ∀ (d k : Nat) (n : Int), k + d = x.ops.length → 0 ≤ n → n ≤ 1 + 41 * k → L53_0 n (((x.d.fParts).length : Nat) : Int) (k : Int) x.d (i64 (least (n + ((((x.ops.drop k).map E.nodes).sum : Nat) : Int)) 41), [.dead]) := by
    intro d
    induction d with
    | zero =>
      intro k n hk h0 h1
      rw [d_parts]
      refine l53_0 _ _ _ _ _ (cF (by simp; omega) ?_)
      rw [List.drop_of_length_le (by omega)]
      simp only [List.map_nil, List.sum_nil, least]
      congr 2
      repeat' split
      all_goals omega
    | succ d ih =>
      intro k n hk h0 h1
      have hlt : k < x.ops.length := by omega
      have hd : ((x.ops.drop k).map E.nodes).sum = (x.ops[k]).nodes + ((x.ops.drop (k + 1)).map E.nodes).sum := by rw [List.drop_eq_getElem_cons hlt, List.map_cons, List.sum_cons]
      have hp := nodes_pos x.ops[k]
      have h := ih (k + 1) (n + least ((x.ops[k]).nodes : Int) 41) (by omega) (by unfold least; split <;> omega) (by unfold least; split <;> omega)
      rw [d_parts] at h ⊢
      refine l53_0 _ _ _ _ _ (cT (by simp; omega) ⟨(x.ops[k]).d, ⟨by omega, by rw [d_parts]; exact getd hlt⟩, _, IH _ (List.getElem_mem hlt), ?_⟩)
      rw [wS (by omega), w64 (by unfold least; split <;> omega)]
      have e : least (n + ((((x.ops.drop k).map E.nodes).sum : Nat) : Int)) 41 = least (n + least ((x.ops[k]).nodes : Int) 41 + ((((x.ops.drop (k + 1)).map E.nodes).sum : Nat) : Int)) 41 := by
        rw [hd]
        unfold least
        repeat' split
        all_goals omega
      rw [e]
      exact h
  have := loop x.ops.length 0 1 (by omega) (by omega) (by omega)
  rw [List.drop_zero] at this
  have e : ((x.nodes : Nat) : Int) = 1 + ((((x.ops).map E.nodes).sum : Nat) : Int) := by rw [nodes_ops]; omega
  rw [e]
  exact f53 _ _ this
theorem E.rec_ops {p : E → Prop} (h : ∀ x : E, (∀ y ∈ x.ops, p y) → p x) : ∀ x, p x := by
  intro x
  induction x with
  | non => exact h _ (fun y h => by simp [E.ops] at h)
  | lit n => exact h _ (fun y h => by simp [E.ops] at h)
  | ref s => exact h _ (fun y h => by simp [E.ops] at h)
  | not x ih => exact h _ (fun y h => by simp only [E.ops, List.mem_singleton] at h; subst h; exact ih)
  | neg x ih => exact h _ (fun y h => by simp only [E.ops, List.mem_singleton] at h; subst h; exact ih)
  | bin op l r ih1 ih2 => exact h _ (fun y h => by
      simp only [E.ops, List.mem_cons, List.not_mem_nil, or_false] at h
      rcases h with rfl | rfl
      · exact ih1
      · exact ih2)
theorem r53 : ∀ x : E, Rn 53 [x.d.t] (i64 (least (x.nodes : Int) 41), [.dead]) := E.rec_ops r53_of
theorem deep_nodes : ∀ x : E, x.deep ≤ x.nodes := by
  intro x
  induction x <;> simp only [E.deep, E.nodes] <;> omega
theorem deep_ops (x : E) : x.deep = (x.ops.map E.deep).foldl max 0 + 1 := by cases x <;> simp [E.deep, E.ops]
theorem nodes_mem {x y : E} (h : y ∈ x.ops) : y.nodes < x.nodes := by
  cases x <;> simp [E.ops] at h
  · subst h; simp [E.nodes]
  · subst h; simp [E.nodes]
  · rcases h with rfl | rfl <;> simp only [E.nodes] <;> omega
theorem r54 : ∀ x : E, x.nodes ≤ 40 → Rn 54 [x.d.t] (i64 (x.deep : Int), [.dead]) := by
  refine E.rec_ops fun x IH h40 => ?_
  have hlen := ops_len x
  have hb : ∀ y ∈ x.ops, y.deep ≤ 40 := fun y hy => by have := nodes_mem hy; have := deep_nodes y; omega
  have loop : ∀ (d k n : Nat), k + d = x.ops.length → n ≤ 40 → L54_0 (n : Int) (((x.d.fParts).length : Nat) : Int) (k : Int) x.d (i64 ((((x.ops.drop k).map E.deep).foldl max n + 1 : Nat) : Int), [.dead]) := by
    intro d
    induction d with
    | zero =>
      intro k n hk hn
      rw [d_parts]
      refine l54_0 _ _ _ _ _ (cF (by simp; omega) ?_)
      rw [List.drop_of_length_le (by omega), wS (by omega)]
      rfl
    | succ d ih =>
      intro k n hk hn
      have hlt : k < x.ops.length := by omega
      have hy := hb _ (List.getElem_mem hlt)
      have h := ih (k + 1) (max n (x.ops[k]).deep) (by omega) (by omega)
      rw [List.drop_eq_getElem_cons hlt]
      rw [d_parts] at h ⊢
      refine l54_0 _ _ _ _ _ (cT (by simp; omega) ⟨(x.ops[k]).d, ⟨by omega, by rw [d_parts]; exact getd hlt⟩, _, IH _ (List.getElem_mem hlt) (by have := nodes_mem (List.getElem_mem hlt); omega), ?_⟩)
      rw [wS (by omega)]
      have e : (if (n : Int) < ((x.ops[k]).deep : Int) then ((x.ops[k]).deep : Int) else (n : Int)) = ((max n (x.ops[k]).deep : Nat) : Int) := by split <;> omega
      rw [e]
      exact h
  have := loop x.ops.length 0 0 (by omega) (by omega)
  rw [List.drop_zero, ← deep_ops] at this
  exact f54 _ _ this
theorem r76 (s : ByteArray) : Rn 76 [st s] (tb (decide (lvl s ≠ 0)), [.dead]) := by
  rw [← ops_lvl]
  have yes : s ∈ OPS → (OPS.any fun y => decide (s = y)) = true := fun h => List.any_eq_true.2 ⟨s, h, by simp⟩
  refine f76 _ _ ?_
  refine cd (fun h => tbR (yes (by subst h; simp [OPS]))) (fun h1 => ?_)
  refine cd (fun h => tbR (yes (by subst h; simp [OPS]))) (fun h2 => ?_)
  refine cd (fun h => tbR (yes (by subst h; simp [OPS]))) (fun h3 => ?_)
  refine cd (fun h => tbR (yes (by subst h; simp [OPS]))) (fun h4 => ?_)
  refine cd (fun h => tbR (yes (by subst h; simp [OPS]))) (fun h5 => ?_)
  refine cd (fun h => tbR (yes (by subst h; simp [OPS]))) (fun h6 => ?_)
  refine cd (fun h => tbR (yes (by subst h; simp [OPS]))) (fun h7 => ?_)
  refine cd (fun h => tbR (yes (by subst h; simp [OPS]))) (fun h8 => ?_)
  refine cd (fun h => tbR (yes (by subst h; simp [OPS]))) (fun h9 => tbR ?_)
  simp only [OPS, List.any_cons, List.any_nil, h1, h2, h3, h4, h5, h6, h7, h8, h9, decide_false, Bool.or_false]
end Go.Proofs.YthcaodlfnlhfbaaGreatDoorT

/- Expressions as the document has them: what its functions on them come to; what is read, by both. -/
namespace Go.Proofs.YthcaodlfnlhfbaaGreatDoorT
open Go Go.Proofs
set_option linter.unusedVariables false
theorem pr_wf {ws : List W_glyph_Word} (hs : ∀ w ∈ ws, w.fText.size ≤ 12000) {t : Tag} {x : E} {a' : Nat} {b : Bool} (h : Pr ws t x a' b) : (match t with | .lp _ _ y _ _ => y.wf | _ => True) → x.wf := by
  have hm : (12000 : Nat) ≤ maxLen := by decide
  induction h with
  | sRef h hk hr => intro _; exact Nat.le_trans (hs _ (List.mem_of_getElem? h)) hm
  | sNot h hk ht hx ih => intro _; exact ih trivial
  | sNeg h hk ht hx ih => intro _; exact ih trivial
  | sPar h hk ht hx h' hv ih => intro _; exact ih trivial
  | clm h h' ih ih' => intro _; exact ih' (ih trivial)
  | lBad => exact id
  | lEnd h => exact id
  | lBin h hk h1 h2 hy hz ihy ihz => intro hx; exact ihz ⟨hx, ihy trivial⟩
  | _ => intro _; trivial
end Go.Proofs.YthcaodlfnlhfbaaGreatDoorT

/- GuardParses, GuardTakes: what the laws' functions come to. -/
namespace Go.Proofs.YthcaodlfnlhfbaaGreatDoorT
open Go Go.Proofs
set_option linter.unusedVariables false
theorem r24_of (l : List E) (hl : l.length ≤ 2) (IH : ∀ y ∈ l, Rn 11 [y.v.v, y.v.v] (tb true, [.dead, .dead])) : Rn 24 [.sl 1 (vs l), .sl 1 (vs l), .s (.func (.func 11) #[] #[])] (tb true, [.dead, .dead, .dead]) := by
  have loop : ∀ (d k : Nat), k + d = l.length → L24_0 (vs l) (vs l) (((vs l).length : Nat) : Int) (k : Int) (tb true, [.dead, .dead, .dead]) := by
    intro d
    induction d with
    | zero => intro k hk; exact l24_0 _ _ _ _ _ (cF (by simp; omega) rfl)
    | succ d ih =>
      intro k hk
      have hlt : k < l.length := by omega
      refine l24_0 _ _ _ _ _ (cT (by simp; omega) ⟨(l[k]).v, ⟨by omega, getv hlt⟩, (l[k]).v, ⟨by omega, getv hlt⟩, _, IH _ (List.getElem_mem hlt), cF rfl ?_⟩)
      rw [wS (by omega)]
      exact ih (k + 1) (by omega)
  exact f24 _ _ _ (cF (by simp) (loop l.length 0 (by omega)))
set_option maxHeartbeats 1000000 in
/-- Alike, if the same. -/
theorem r11 : ∀ x : E, Rn 11 [x.v.v, x.v.v] (tb true, [.dead, .dead]) := by
  refine E.rec_ops fun x IH => ?_
  have h66 := r23 x
  have h81 := r24_of x.ops (ops_len x) IH
  cases x with
  | non => exact f11 _ _ _ ⟨_, h66, _, h66, cF (by simp) (cT rfl rfl)⟩
  | lit n => exact f11 _ _ _ ⟨_, h66, _, h66, cF (by simp) (cF rfl (cT rfl ⟨⟨n⟩, rfl, cT rfl ⟨⟨n⟩, rfl, tbR (by simp)⟩⟩))⟩
  | ref s => exact f11 _ _ _ ⟨_, h66, _, h66, cF (by simp) (cF rfl (cF rfl (cT rfl ⟨⟨s⟩, rfl, cT rfl ⟨⟨s⟩, rfl, tbR (by simp)⟩⟩)))⟩
  | not x => exact f11 _ _ _ ⟨_, h66, _, h66, cF (by simp) (cF rfl (cF rfl (cF rfl (cF rfl (cT rfl (cF rfl (cF rfl (cF rfl (cT rfl ⟨⟨x.v⟩, rfl, _, f150 _ _ rfl, (cF rfl (cF rfl (cF rfl (cT rfl ⟨⟨x.v⟩, rfl, _, f150 _ _ rfl, cT rfl ⟨_, h81, rfl⟩⟩))))⟩)))))))))⟩
  | neg x => exact f11 _ _ _ ⟨_, h66, _, h66, cF (by simp) (cF rfl (cF rfl (cF rfl (cF rfl (cT rfl (cF rfl (cF rfl (cF rfl (cF rfl (cT rfl ⟨⟨x.v⟩, rfl, _, f151 _ _ rfl, (cF rfl (cF rfl (cF rfl (cF rfl (cT rfl ⟨⟨x.v⟩, rfl, _, f151 _ _ rfl, cT rfl ⟨_, h81, rfl⟩⟩)))))⟩))))))))))⟩
  | bin op l r => exact f11 _ _ _ ⟨_, h66, _, h66, cF (by simp) (cF rfl (cF rfl (cF rfl (cT rfl ⟨⟨op, l.v, r.v⟩, rfl, cT rfl ⟨⟨op, l.v, r.v⟩, rfl, cF (by simp) (cT rfl (cF rfl (cT rfl ⟨⟨op, l.v, r.v⟩, rfl, _, f148 _ _ rfl, (cF rfl (cT rfl ⟨⟨op, l.v, r.v⟩, rfl, _, f148 _ _ rfl, cT rfl ⟨_, h81, rfl⟩⟩))⟩)))⟩⟩))))⟩
/-- 1 + 2. -/
def g12 : ByteArray := bs [49, 32, 43, 32, 50]
def e12 : E := .bin (bs [43]) (.lit 1) (.lit 2)
theorem g12_words : (wordsOf g12).2.2 = 0 ∧ (wordsOf g12).1.map W_glyph_Word.fKind = [2, 3, 2] ∧ (wordsOf g12).1.map W_glyph_Word.fText = [bs [49], bs [43], bs [50]] := by decide +kernel
theorem e12_ok : e12.ok = true := by decide +kernel
theorem three {l : List W_glyph_Word} (hk : l.map W_glyph_Word.fKind = [2, 3, 2]) (ht : l.map W_glyph_Word.fText = [bs [49], bs [43], bs [50]]) : ∃ w0 w1 w2, l = [w0, w1, w2] ∧ (w0.fKind = 2 ∧ w1.fKind = 3 ∧ w2.fKind = 2) ∧ w0.fText = bs [49] ∧ w1.fText = bs [43] ∧ w2.fText = bs [50] := by
  have hl : l.length = 3 := by rw [← List.length_map (f := W_glyph_Word.fKind), hk]; rfl
  obtain ⟨w0, w1, w2, rfl⟩ : ∃ w0 w1 w2, l = [w0, w1, w2] := by
    match l, hl with
    | [w0, w1, w2], _ => exact ⟨_, _, _, rfl⟩
  simp only [List.map_cons, List.map_nil, List.cons.injEq, and_true] at hk ht
  exact ⟨w0, w1, w2, rfl, hk, ht⟩
end Go.Proofs.YthcaodlfnlhfbaaGreatDoorT

/- law05's awake, at the great door: 1 + 2 is parsed. -/
namespace Go.Proofs.YthcaodlfnlhfbaaGreatDoorT
open Go Go.Proofs
set_option linter.unusedVariables false
/-- What guard.Take takes of words. -/
theorem take_p {ws : List W_glyph_Word} (hw : ∀ w ∈ ws, Kd w) (hs : ∀ w ∈ ws, w.fText.size ≤ 12000) (hn : ws.length ≤ 3000) {x : E} {a : Nat} {b : Bool} (h : Pr ws (.cl 1 0) x a b) :
    Rn 22 [.sl 4 (ws.map W_glyph_Word.t)] (if b = true then .tup [E.non.v.v, i64 (a : Int), i64 12] else if x.ok = false then .tup [E.non.v.v, i64 0, i64 13] else .tup [x.v.v, i64 (a : Int), i64 0], [.dead]) := by
  have hp := pr_prog hw hs hn h (by omega) (by omega)
  have hwf : x.wf := pr_wf hs h trivial
  refine f22 _ _ ⟨_, _, _, _, hp, ?_⟩
  cases b with
  | true => exact cT rfl rfl
  | false =>
    refine cF rfl ⟨_, r28 x hwf, ?_⟩
    cases hk : x.ok with
    | false => exact cT rfl rfl
    | true => exact cF rfl rfl
theorem r6_of {o : Out} (h : o.2.2 = 0 ∧ o.1.map W_glyph_Word.fKind = [2, 3, 2] ∧ o.1.map W_glyph_Word.fText = [bs [49], bs [43], bs [50]]) (hwd : ∀ x ∈ o.1, Wd x ∧ x.fText.size ≤ 12000) (hln : o.1.length ≤ 3000) (h12 : Rn 21 [st g12] (res o)) : Rn 6 [] (tb true, []) := by
  obtain ⟨h0, hk, ht⟩ := h
  obtain ⟨w0, w1, w2, hws, ⟨k0, k1, k2⟩, t0, t1, t2⟩ := three hk ht
  unfold res at h12
  rw [hws] at hwd hln h12
  rw [h0] at h12
  · have hl : lvl w1.fText = 4 := by rw [t1]; decide
    have n0 : num w0.fText = 1 := by rw [t0]; decide +kernel
    have n2 : num w2.fText = 2 := by rw [t2]; decide +kernel
    have p0 : Pr [w0, w1, w2] (.sg 0) (.lit 1) 1 false := by
      have := Pr.sNum (ws := [w0, w1, w2]) (a := 0) (w := w0) rfl k0
      rw [n0] at this
      exact this
    have p2 : Pr [w0, w1, w2] (.sg 2) (.lit 2) 3 false := by
      have := Pr.sNum (ws := [w0, w1, w2]) (a := 2) (w := w2) rfl k2
      rw [n2] at this
      exact this
    have pe : ∀ k m x, Pr [w0, w1, w2] (.lp k m x 3 false) x 3 false := fun k m x => Pr.lEnd (fun w h => by simp at h)
    have pall : Pr [w0, w1, w2] (.cl 1 0) e12 3 false := by
      refine Pr.clm p0 (Pr.lBin (w := w1) (y := .lit 2) (a1 := 3) (b1 := false) rfl k1 (by omega) (by omega) (Pr.clm p2 (pe _ _ _)) ?_)
      rw [t1]
      exact pe _ _ _
    have h35 := take_p (ws := [w0, w1, w2]) (fun w h => kd_of_wd (hwd w h).1) (fun w h => (hwd w h).2) hln pall
    rw [if_neg (by simp), if_neg (by rw [e12_ok]; simp)] at h35
    have h30 : Rn 10 [st g12] (.tup [e12.v.v, i64 0], [.dead]) := f10 _ _ ⟨_, ⟨_, _⟩, _, h12, cF rfl ⟨_, _, _, h35, cT rfl (cF (by simp) rfl)⟩⟩
    exact f6 _ ⟨_, _, h30, cT rfl ⟨_, r11 e12, rfl⟩⟩
theorem r6 : Rn 6 [] (tb true, []) := r6_of g12_words (words_wd g12) (words_len g12) (r21 g12)
end Go.Proofs.YthcaodlfnlhfbaaGreatDoorT

/- Raw expressions, by both; their size. -/
namespace Go.Proofs.YthcaodlfnlhfbaaGreatDoorT
open Go Go.Proofs
set_option linter.unusedVariables false
/-- A raw expression: what it is, by both. -/
theorem raw : ∀ (m : Nat) (w : W_tumbrelref04_Node), ByteArray.size w.fS ≤ maxLen → SlT Tryz.prog m 24 w.fParts → ∃ x : E, x.wf ∧ Rn 9 [w.t] (x.v.v, [.dead]) ∧ Rn 14 [w.t] (x.d.t, [.dead]) := by
  intro m
  induction m using Nat.strongRecOn with
  | _ m ih =>
    intro w hS hs
    have hl := Nat.le_trans hs.len maxLen_lt
    have part : ∀ i : Nat, i ≤ 1 → ∃ x : E, x.wf ∧ Rn 20 [i64 (i : Int), .cbox 24 [i64 w.fKind, i64 w.fN, st w.fS, .sl 4 w.fParts]] (x.v.v, [.dead, .cbox 24 [i64 w.fKind, i64 w.fN, st w.fS, .sl 4 w.fParts]]) ∧
        ((i < w.fParts.length ∧ ∃ w1 : W_tumbrelref04_Node, w.fParts[i]? = some w1.t ∧ Rn 14 [w1.t] (x.d.t, [.dead])) ∨ (¬ i < w.fParts.length ∧ x = .non)) := by
      intro i hi1
      by_cases hi : i < w.fParts.length
      · obtain ⟨y, hx, hy⟩ := hs.get (List.getElem?_eq_getElem hi)
        obtain ⟨w1, hw1, _, _, hS1, m', hm', hs'⟩ := d24 hy
        obtain ⟨x, hwf, h20, h22⟩ := ih m' hm' w1 hS1 hs'
        rw [hw1] at hx
        have hg : w.fParts[i]? = some w1.t := by rw [List.getElem?_eq_getElem hi, hx]
        exact ⟨x, hwf, f20 _ _ _ _ _ _ (cT (by simp; omega) ⟨w1, ⟨by omega, by rw [toN]; exact hg⟩, _, h20, rfl⟩), .inl ⟨hi, w1, hg, h22⟩⟩
      · exact ⟨.non, trivial, f20 _ _ _ _ _ _ (cF (by simp; omega) rfl), .inr ⟨hi, rfl⟩⟩
    have step : ∀ (n i : Nat) (l : List T) (n2 n3 : Int) (s : ByteArray) (n4 n5 : Int) (s1 : ByteArray) (R : T × List T) (x : E), i < n → n ≤ 2 → l.length ≤ 2 → ((i < w.fParts.length ∧ ∃ w1 : W_tumbrelref04_Node, w.fParts[i]? = some w1.t ∧ Rn 14 [w1.t] (x.d.t, [.dead])) ∨ (¬ i < w.fParts.length ∧ x = .non)) →
        L14_0 (n : Int) ((i + 1 : Nat) : Int) w n2 n3 s n4 n5 s1 (l ++ [x.d.t]) R → L14_0 (n : Int) (i : Int) w n2 n3 s n4 n5 s1 l R := by
      intro n i l n2 n3 s n4 n5 s1 R x hin hn hll hx h
      rcases hx with ⟨hi, w1, hg, h22⟩ | ⟨hi, rfl⟩
      · refine l14_0 _ _ _ _ _ _ _ _ _ _ _ (cT (by simp; omega) (cT (by simp; omega) ⟨w1, ⟨by omega, by rw [toN]; exact hg⟩, x.d, h22, ckn (by omega) ?_⟩))
        rw [wS (by omega)]
        exact h
      · refine l14_0 _ _ _ _ _ _ _ _ _ _ _ (cT (by simp; omega) (cF (by simp; omega) (ckn (by omega) ?_)))
        rw [wS (by omega)]
        exact h
    have fin : ∀ (n : Nat) (l : List T) (n2 n3 : Int) (s : ByteArray) (n4 n5 : Int) (s1 : ByteArray), L14_0 (n : Int) (n : Int) w n2 n3 s n4 n5 s1 l (.agg [i64 n4, i64 n5, st s1, .sl 4 l], [.dead]) := fun n l n2 n3 s n4 n5 s1 => l14_0 _ _ _ _ _ _ _ _ _ _ _ (cF (by simp) rfl)
    obtain ⟨x0, wf0, h0, p0⟩ := part 0 (by omega)
    obtain ⟨x1, wf1, h1, p1⟩ := part 1 (by omega)
    by_cases k1 : w.fKind = 1
    · exact ⟨.lit w.fN, trivial, f9 _ _ (cT (by simpa using k1) rfl), f14 _ _ (cT (by simpa using k1) rfl)⟩
    by_cases k2 : w.fKind = 2
    · exact ⟨.ref w.fS, hS, f9 _ _ (cF (by simpa using k1) (cT (by simpa using k2) rfl)), f14 _ _ (cF (by simpa using k1) (cT (by simpa using k2) rfl))⟩
    by_cases k3 : w.fKind = 3
    · refine ⟨.not x0, wf0, f9 _ _ (cF (by simpa using k1) (cF (by simpa using k2) (cT (by simpa using k3) ⟨_, h0, rfl⟩))), f14 _ _ (cF (by simpa using k1) (cF (by simpa using k2) (cT (by simpa using k3) ?_)))⟩
      have := step 1 0 [] 0 0 (bs []) w.fKind 0 (bs []) _ x0 (by omega) (by omega) (by simp) p0 (fin 1 _ _ _ _ _ _ _)
      rw [k3] at this ⊢
      exact this
    by_cases k4 : w.fKind = 4
    · refine ⟨.neg x0, wf0, f9 _ _ (cF (by simpa using k1) (cF (by simpa using k2) (cF (by simpa using k3) (cT (by simpa using k4) ⟨_, h0, rfl⟩)))), f14 _ _ (cF (by simpa using k1) (cF (by simpa using k2) (cF (by simpa using k3) (cT (by simpa using k4) ?_))))⟩
      have := step 1 0 [] 0 0 (bs []) w.fKind 0 (bs []) _ x0 (by omega) (by omega) (by simp) p0 (fin 1 _ _ _ _ _ _ _)
      rw [k4] at this ⊢
      exact this
    by_cases k5 : w.fKind = 5
    · refine ⟨.bin w.fS x0 x1, ⟨wf0, wf1⟩, f9 _ _ (cF (by simpa using k1) (cF (by simpa using k2) (cF (by simpa using k3) (cF (by simpa using k4) (cT (by simpa using k5) ⟨_, h0, rfl, _, h1, rfl, rfl⟩))))), f14 _ _ (cF (by simpa using k1) (cF (by simpa using k2) (cF (by simpa using k3) (cF (by simpa using k4) (cT (by simpa using k5) ?_)))))⟩
      exact step 2 0 [] 0 0 (bs []) 5 0 w.fS _ x0 (by omega) (by omega) (by simp) p0 (step 2 1 _ 0 0 (bs []) 5 0 w.fS _ x1 (by omega) (by omega) (by simp) p1 (fin 2 _ _ _ _ _ _ _))
    · exact ⟨.non, trivial, f9 _ _ (cF (by simpa using k1) (cF (by simpa using k2) (cF (by simpa using k3) (cF (by simpa using k4) (cF (by simpa using k5) rfl))))), f14 _ _ (cF (by simpa using k1) (cF (by simpa using k2) (cF (by simpa using k3) (cF (by simpa using k4) (cF (by simpa using k5) (fin 0 [] 0 0 (bs []) 0 0 (bs [])))))))⟩
/-- An expression's size is looked at: some answer. -/
theorem r17 : ∀ (m : Nat) (w : W_tumbrelref04_Node), SlT Tryz.prog m 24 w.fParts → ∀ depth left : Int, ∃ n : Int, Rn 17 [w.t, i64 depth, i64 left] (i64 n, [.dead, .dead, .dead]) := by
  intro m
  induction m using Nat.strongRecOn with
  | _ m ih =>
    intro w hs depth left
    have hl := Nat.le_trans hs.len maxLen_lt
    have loop : ∀ (d k : Nat) (left : Int), k + d = w.fParts.length → ∃ n : Int, L17_0 depth left ((w.fParts.length : Nat) : Int) (k : Int) w (i64 n, [.dead, .dead, .dead]) := by
      intro d
      induction d with
      | zero => exact fun k left hk => ⟨left, l17_0 _ _ _ _ _ _ (cF (by simp; omega) rfl)⟩
      | succ d ihd =>
        intro k left hk
        have hlt : k < w.fParts.length := by omega
        obtain ⟨y1, hx, hy1⟩ := hs.get (List.getElem?_eq_getElem hlt)
        obtain ⟨w1, hw1, _, _, _, m', hm', hs'⟩ := d24 hy1
        obtain ⟨n2, h2⟩ := ih m' hm' w1 hs' (IntKind.wrap .i64 (depth + 1)) left
        rw [hw1] at hx
        have hg : w.fParts[Int.toNat (k : Int)]? = some w1.t := by rw [toN, List.getElem?_eq_getElem hlt, hx]
        by_cases hn : n2 < 0
        · exact ⟨-1, l17_0 _ _ _ _ _ _ (cT (by simp; omega) ⟨w1, ⟨by omega, hg⟩, n2, h2, cT (by simpa using hn) rfl⟩)⟩
        · obtain ⟨n, hn'⟩ := ihd (k + 1) n2 (by omega)
          refine ⟨n, l17_0 _ _ _ _ _ _ (cT (by simp; omega) ⟨w1, ⟨by omega, hg⟩, n2, h2, cF (by simpa using hn) ?_⟩)⟩
          rw [wS (by omega)]
          exact hn'
    by_cases h1 : (60 : Int) < depth
    · exact ⟨-1, f17 _ _ _ _ (cT (by simpa using h1) rfl)⟩
    by_cases h2 : IntKind.wrap .i64 (left - 1) < 0
    · exact ⟨-1, f17 _ _ _ _ (cF (by simpa using h1) (cT (by simpa using h2) rfl))⟩
    by_cases h3 : (1000 : Int) < ((ByteArray.size w.fS : Nat) : Int)
    · exact ⟨-1, f17 _ _ _ _ (cF (by simpa using h1) (cF (by simpa using h2) (cT (by simpa using h3) rfl)))⟩
    obtain ⟨n, hn⟩ := loop w.fParts.length 0 (IntKind.wrap .i64 (left - 1)) (by omega)
    exact ⟨n, f17 _ _ _ _ (cF (by simpa using h1) (cF (by simpa using h2) (cF (by simpa using h3) hn)))⟩
theorem r7 {m : Nat} {w : W_tumbrelref04_Node} (hs : SlT Tryz.prog m 24 w.fParts) : ∃ b : Bool, Rn 7 [w.t] (tb b, [.dead]) := by
  obtain ⟨n, hn⟩ := r17 m w hs 0 200
  exact ⟨_, f7 _ _ ⟨n, hn, rfl⟩⟩
end Go.Proofs.YthcaodlfnlhfbaaGreatDoorT

/- Expressions as values; what is told of functions by the interpreter, at values. -/
namespace Go.Proofs
open Go.RowKit
namespace YthcaodlfnlhfbaaGreatDoorT
set_option linter.unusedVariables false
/-- As a value. -/
def E.val : E → Value
  | .non => .nilIface
  | .lit n => .iface 41 (.agg #[.int .i64 n])
  | .ref s => .iface 49 (.agg #[.string s])
  | .not x => .iface 51 (.agg #[x.val])
  | .neg x => .iface 52 (.agg #[x.val])
  | .bin op l r => .iface 43 (.agg #[.string op, l.val, r.val])
theorem rep_scal {C : Ctx} {u v : Value} (h : Rep C (.s u) v) : v = u := by cases h; rfl
theorem rep_ifc {C : Ctx} {t : TypeId} {x : T} {v : Value} (ht : t ≠ 0) (h : Rep C (.ifc t x) v) : ∃ u, v = .iface t u ∧ Rep C.ro x u := by
  cases h with
  | ifc h0 h => exact ⟨_, rfl, h⟩
  | ifn => exact absurd rfl ht
theorem rep_nil {C : Ctx} {v : Value} (h : Rep C (.ifc 0 .dead) v) : v = .nilIface := by
  cases h with
  | ifc h0 h => exact absurd rfl h0
  | ifn => rfl
theorem rep_agg1 {C : Ctx} {x : T} {v : Value} (h : Rep C (.agg [x]) v) : ∃ u, v = .agg #[u] ∧ Rep C x u := by
  obtain ⟨vs, rfl, hl, hc, _⟩ := h.agg_parts
  match vs, hl with
  | [u], _ => exact ⟨u, rfl, hc 0 x u rfl rfl⟩
theorem rep_agg3 {C : Ctx} {x y z : T} {v : Value} (h : Rep C (.agg [x, y, z]) v) : ∃ a b c, v = .agg #[a, b, c] ∧ Rep C x a ∧ Rep C y b ∧ Rep C z c := by
  obtain ⟨vs, rfl, hl, hc, _⟩ := h.agg_parts
  match vs, hl with
  | [a, b, c], _ => exact ⟨a, b, c, rfl, hc 0 x a rfl rfl, hc 1 y b rfl rfl, hc 2 z c rfl rfl⟩
theorem val_of_rep : ∀ (x : E) {C : Ctx} {v : Value}, Rep C (x.v.v) v → v = x.val := by
  intro x
  induction x with
  | non => intro C v h; exact rep_nil h
  | lit n =>
    intro C v h
    replace h : Rep C (.ifc 41 (.agg [.s (.int .i64 n)])) v := h
    obtain ⟨u, rfl, h'⟩ := rep_ifc (by decide) h
    clear h
    obtain ⟨a, rfl, h⟩ := rep_agg1 h'
    rw [rep_scal h]; rfl
  | ref s =>
    intro C v h
    replace h : Rep C (.ifc 49 (.agg [.s (.string s)])) v := h
    obtain ⟨u, rfl, h'⟩ := rep_ifc (by decide) h
    clear h
    obtain ⟨a, rfl, h⟩ := rep_agg1 h'
    rw [rep_scal h]; rfl
  | not x ih =>
    intro C v h
    replace h : Rep C (.ifc 51 (.agg [x.v.v])) v := h
    obtain ⟨u, rfl, h'⟩ := rep_ifc (by decide) h
    clear h
    obtain ⟨a, rfl, h⟩ := rep_agg1 h'
    rw [ih h]; rfl
  | neg x ih =>
    intro C v h
    replace h : Rep C (.ifc 52 (.agg [x.v.v])) v := h
    obtain ⟨u, rfl, h'⟩ := rep_ifc (by decide) h
    clear h
    obtain ⟨a, rfl, h⟩ := rep_agg1 h'
    rw [ih h]; rfl
  | bin op l r ih1 ih2 =>
    intro C v h
    replace h : Rep C (.ifc 43 (.agg [.s (.string op), l.v.v, r.v.v])) v := h
    obtain ⟨u, rfl, h'⟩ := rep_ifc (by decide) h
    obtain ⟨a, b, c, rfl, h1, h2, h3⟩ := rep_agg3 h'
    rw [rep_scal h1, ih1 h2, ih2 h3]; rfl
theorem val_one (x : E) : one x.val := by cases x <;> rfl
theorem agg1_rep {C : Ctx} {x : T} {u : Value} (h : Rep C x u) (h1 : one u) : Rep C (.agg [x]) (.agg #[u]) :=
  Rep.agg (vs := [u]) rfl (fun j y v hy hv => by
    match j with
    | 0 => simp at hy hv; subst hy hv; exact h
    | j + 1 => simp at hy) (fun v hv => by simp at hv; subst hv; exact h1)
theorem rep_of_val : ∀ (x : E) {C : Ctx}, Rep C (x.v.v) x.val := by
  intro x
  induction x with
  | non => intro C; exact .ifn
  | lit n => intro C; show Rep C (.ifc 41 (.agg [.s (.int .i64 n)])) _; exact .ifc (by decide) (agg1_rep (.s rfl) rfl)
  | ref s => intro C; show Rep C (.ifc 49 (.agg [.s (.string s)])) _; exact .ifc (by decide) (agg1_rep (.s rfl) rfl)
  | not x ih => intro C; show Rep C (.ifc 51 (.agg [x.v.v])) _; exact .ifc (by decide) (agg1_rep ih (val_one x))
  | neg x ih => intro C; show Rep C (.ifc 52 (.agg [x.v.v])) _; exact .ifc (by decide) (agg1_rep ih (val_one x))
  | bin op l r ih1 ih2 =>
    intro C
    show Rep C (.ifc 43 (.agg [.s (.string op), l.v.v, r.v.v])) _
    refine .ifc (by decide) (Rep.agg (vs := [.string op, l.val, r.val]) rfl (fun j y v hy hv => ?_) (fun v hv => ?_))
    · match j with
      | 0 => simp at hy hv; subst hy hv; exact .s rfl
      | 1 => simp at hy hv; subst hy hv; exact ih1
      | 2 => simp at hy hv; subst hy hv; exact ih2
      | j + 3 => simp at hy
    · simp at hv
      rcases hv with rfl | rfl | rfl
      · rfl
      · exact val_one l
      · exact val_one r
theorem X_val {w : World} {ok : Nat → Prop} (x : E) : RepX w ok (x.v.v) x.val [] := ⟨rfl, rep_of_val x⟩
/-- What the interpreter tells of a call at one expression: nothing that was there has turned. -/
theorem calls_of_runs {f : FuncId} {x : E} {res : T} (h : Rn f [x.v.v] (res, [.dead])) (w : World) (hG : Glob w (fun k => k < w.heap.size)) :
    Calls Tryz.prog f #[x.val] w fun e w' => Below w.heap.size w w' ∧ ∃ v b ok, e = .returned v ∧ RepX w' ok res v b ∧ ∀ k, ok k → k < w'.heap.size := by
  refine (h.2 w (fun k => k < w.heap.size) [x.val] [] ⟨_, _, [], [], rfl, rfl, X_val x, rfl, rfl⟩ .nil (fun k hk => (List.not_mem_nil hk).elim) (fun k hk => hk) hG).mono ?_
  rintro e w' ⟨v, b1, b2, rfl, _, _, hfr, hr, _⟩
  exact ⟨(hfr.mono (fun i hi => (List.not_mem_nil hi).elim)).below, v, b1, _, rfl, hr, fun k hk => hk.2.1⟩
/-- At an expression, to a result without an address of one's own. -/
theorem runs_val {f : FuncId} {x : E} {res : T} (he : Enters Tryz.prog f)
    (h : ∀ w : World, Glob w (fun k => k < w.heap.size) → Calls Tryz.prog f #[x.val] w (fun e w' => Below w.heap.size w w' ∧ ∃ v, e = .returned v ∧ ∀ ok : Nat → Prop, (∀ k, w.heap.size ≤ k → k < w'.heap.size → ok k) → RepX w' ok res v [])) : Rn f [x.v.v] (res, [.dead]) := by
  refine ⟨he, fun w ok vals b hx hnd hb hok hG => ?_⟩
  obtain ⟨u, us, b1, b2, rfl, rfl, ⟨rfl, hu⟩, rfl, rfl⟩ := hx
  have := val_of_rep x hu
  subst this
  refine (h w (hG.mono fun k hk => ⟨hok k hk, rfl⟩)).mono ?_
  rintro e w' ⟨hbel, v, rfl, hr⟩
  refine ⟨v, [], [], rfl, .nil, by simp, ⟨hbel.os, hbel.tape, hbel.output, hbel.size, fun k hk _ => hbel.block k hk⟩, hr _ (fun k h1 h2 => ⟨.inr (.inr h1), h2, by simp⟩), ⟨_, [], [], [], rfl, rfl, rfl, rfl, rfl⟩⟩
/-- The operands, as values: a slice that can be read. -/
theorem ops_calls (x : E) (w : World) (hG : Glob w (fun k => k < w.heap.size)) :
    Calls Tryz.prog 23 #[x.val] w fun e w' => Below w.heap.size w w' ∧ ∃ (A : Option Addr) (c : Nat), e = .returned (.slice A x.ops.length c) ∧
      (x.ops = [] ∨ ∃ ad : Addr, A = some ad ∧ ad.spot = none ∧ ad.block < w'.heap.size ∧ ∀ (k : Nat) (y : E), x.ops[k]? = some y → w'.cell? ⟨ad.block, ad.off + k, none⟩ = some y.val) := by
  refine (calls_of_runs (r23 x) w hG).mono ?_
  rintro e w' ⟨hb, v, b, ok, rfl, ⟨rfl, hr⟩, hok⟩
  refine ⟨hb, ?_⟩
  obtain ⟨A, c, rfl, hc, hm⟩ := hr.sl_row
  refine ⟨A, c, by simp, ?_⟩
  rcases hm with h | ⟨ad, rfl, hs, hok', us, hra, hsz, hcell⟩
  · left
    simpa using h
  · right
    refine ⟨ad, rfl, hs, hok _ hok', fun k y hy => ?_⟩
    obtain ⟨u, hu, hru⟩ := hra.get (j := k) (x := y.v.v) (by rw [List.getElem?_map, hy]; rfl)
    have := val_of_rep y hru
    subst this
    have := hcell k 0 _ _ hu (show y.val.cells[0]? = some y.val by cases y <;> rfl)
    have e1 : (cctx w' ok).w = w' := rfl
    simpa [e1] using this
end YthcaodlfnlhfbaaGreatDoorT
end Go.Proofs

/- expr.Refs: the names are collected in a map by a closure that calls itself. -/
namespace Go.Proofs.YthcaodlfnlhfbaaGreatDoorT
open Go Go.Proofs Go.RowKit Go.Maps
set_option linter.unusedVariables false
abbrev DU := DataW Unit
def kyOf (s : ByteArray) : Lit := .string s.data.toList
def Dn (l : List ByteArray) : DU := setOf (.lit (.bool true)) (l.map kyOf)
theorem Dn_snoc (l : List ByteArray) (s : ByteArray) : (Dn l).put (kyOf s) (.lit (.bool true)) = Dn (l ++ [s]) := by
  unfold Dn
  rw [List.map_append, List.map_cons, List.map_nil, setOf_snoc]
abbrev pt (b : Nat) : Value := .pointer (some ⟨b, 0, none⟩)
/-- What is there while the names are collected. -/
structure I65 (w : World) (bn bw mb n : Nat) (l : List ByteArray) : Prop where
  gl : Glob w (fun k => k < w.heap.size)
  hn : w.heap[bn]? = some (.cells #[.map (some mb)] 90 (0, 0))
  hw : w.heap[bw]? = some (.cells #[.func (.func 45) #[] #[pt bn, pt bw]] 91 (0, 0))
  hm : w.ownsMap Tryz.prog 9 (plainElem (H := Unit) Tryz.prog 4) mb n (Dn l)
theorem I65.below {w w' : World} {bn bw mb n : Nat} {l : List ByteArray} (h : I65 w bn bw mb n l) (b : Below w.heap.size w w') : I65 w' bn bw mb n l where
  gl := h.gl.mono fun k hk => ⟨Nat.lt_of_lt_of_le hk b.size, b.block k hk⟩
  hn := (b.block _ (lt_of_block h.hn)).trans h.hn
  hw := (b.block _ (lt_of_block h.hw)).trans h.hw
  hm := by
    have := h.hm.lt
    obtain ⟨es, cl, h1, h2⟩ := h.hm
    exact ⟨es, cl, (b.block _ this).trans h1, h2⟩
theorem ne_map {w : World} {b mb n : Nat} {l : List ByteArray} {cs : Array Value} {t : TypeId} {z : Nat × Nat} (h : w.heap[b]? = some (.cells cs t z)) (hm : w.ownsMap Tryz.prog 9 (plainElem (H := Unit) Tryz.prog 4) mb n (Dn l)) : some b ≠ some mb := by
  intro e
  obtain ⟨es, cl, h1, _⟩ := hm
  rw [← Option.some.inj e, h] at h1
  simp at h1
theorem I65.grown {w w' : World} {bn bw mb n n' : Nat} {l l' : List ByteArray} (h : I65 w bn bw mb n l) (g : w.grownBy w' (some mb)) (hm : w'.ownsMap Tryz.prog 9 (plainElem (H := Unit) Tryz.prog 4) mb n' (Dn l')) : I65 w' bn bw mb n' l' where
  gl := by
    intro e he
    obtain ⟨h1, cs, t, z, h2, h3⟩ := h.gl e he
    exact ⟨Nat.lt_of_lt_of_le h1 g.size, cs, t, z, (g.block _ h1 (ne_map h2 h.hm)).trans h2, h3⟩
  hn := (g.block _ (lt_of_block h.hn) (ne_map h.hn h.hm)).trans h.hn
  hw := (g.block _ (lt_of_block h.hw) (ne_map h.hw h.hm)).trans h.hw
  hm := hm
theorem grown_of_below {w w' : World} {row : Option Nat} (b : Below w.heap.size w w') : w.grownBy w' row := ⟨b.os, b.tape, b.output, b.size, fun k hk _ => b.block k hk⟩
def W65 (x : E) : Prop := ∀ (w : World) (bn bw mb n : Nat) (l : List ByteArray), I65 w bn bw mb n l → n + x.names.length < maxLen →
  Calls Tryz.prog 45 #[x.val, pt bn, pt bw] w fun e w' => e = .returned (.tuple #[]) ∧ I65 w' bn bw mb (n + x.names.length) (l ++ x.names) ∧ w.grownBy w' (some mb)
theorem law9 : Keyed Tryz.prog 9 := string_keyed Tryz.underlying9
theorem taN {t : TypeId} (ht : t ≠ 49) (v : Value) (w : World) : (Instr.typeAssert (.iface t v) 31 49 true).run Tryz.prog w = .ok (.tuple #[.agg #[.string { data := #[] }], .bool false]) w :=
  ((run_assert (P := Tryz.prog) (xt := 31) (v := v) (w := w) (tt := t) Tryz.underlying49 (by simp)).2 _ (Tryz.zeroValue49 w)).1 ht
theorem ta0 (w : World) : (Instr.typeAssert .nilIface 31 49 true).run Tryz.prog w = .ok (.tuple #[.agg #[.string { data := #[] }], .bool false]) w :=
  ((run_assert (P := Tryz.prog) (xt := 31) (v := .nilIface) (w := w) (tt := 0) Tryz.underlying49 (by simp)).2 _ (Tryz.zeroValue49 w)).2
theorem ta96 (v : Value) (w : World) : (Instr.typeAssert (.iface 49 v) 31 49 true).run Tryz.prog w = .ok (.tuple #[v, .bool true]) w :=
  (run_assert (P := Tryz.prog) (xt := 31) (v := v) (w := w) (tt := 49) Tryz.underlying49 (by simp)).1 true rfl
end Go.Proofs.YthcaodlfnlhfbaaGreatDoorT

/- expr.Refs' closure: its walks. -/
namespace Go.Proofs.YthcaodlfnlhfbaaGreatDoorT
open Go Go.Proofs Go.RowKit Go.Maps
set_option linter.unusedVariables false
theorem cell_kept' {w w' : World} {mb n : Nat} {l : List ByteArray} {a : Addr} {v : Value} (h : w.cell? a = some v) (g : w.grownBy w' (some mb)) (hm : w.ownsMap Tryz.prog 9 (plainElem (H := Unit) Tryz.prog 4) mb n (Dn l)) : w'.cell? a = some v := by
  obtain ⟨es, cl, h1, _⟩ := hm
  exact cell_kept h g fun r hr => ⟨.map es cl, by rw [← Option.some.inj hr]; exact h1, rfl⟩
set_option maxRecDepth 100000 in
set_option maxHeartbeats 4000000 in
theorem w65_not (y : E) (ih : W65 y) : W65 (.not y) := by
  intro w bn bw mb n l hI hn
  have cN := cell_of_one hI.hn
  have cW := cell_of_one hI.hw
  have hta := taN (t := 51) (by decide)
  simp only [E.val]
  go_enter Tryz.func45, Tryz.ntmps45
  go_wp2_with fail
  have b0 : Below w.heap.size w (w.alloc (Obj.cells #[Value.string { data := #[] }] 49)) := (Below.refl _ _).alloc (Nat.le_refl _) _
  have hI0 := hI.below b0
  refine (ops_calls (.not y) _ hI0.gl).mono ?_
  rintro e w1 ⟨hb, A, c, rfl, ho⟩
  have b1 : Below w.heap.size w w1 := b0.trans (hb.mono (by simp))
  have hI1 := hI.below b1
  simp only [E.ops, List.length_cons, List.length_nil, Nat.zero_add] at ho ⊢
  obtain ⟨⟨blk, off, sp⟩, rfl, hsp, hlt, hcell⟩ := ho.resolve_left (by simp)
  simp only at hsp hlt hcell
  subst hsp
  have c0 : w1.cell? ⟨blk, off, none⟩ = some y.val := by simpa using hcell 0 y rfl
  have cN1 := cell_of_one hI1.hn
  have cW1 := cell_of_one hI1.hw
  go_wp2
  refine wp_loop_rounds 2 ?_
  rw [rounds_succ]
  go_wp2_with fail
  simp only [E.names] at hn ⊢
  refine (ih w1 bn bw mb n l hI1 hn).mono ?_
  rintro e w2 ⟨rfl, hI2, g2⟩
  go_wp2
  rw [rounds_succ]
  go_wp2
  go_end0
  exact ⟨rfl, hI2, (grown_of_below b1).trans g2⟩
set_option maxRecDepth 100000 in
set_option maxHeartbeats 4000000 in
theorem w65_neg (y : E) (ih : W65 y) : W65 (.neg y) := by
  intro w bn bw mb n l hI hn
  have cN := cell_of_one hI.hn
  have cW := cell_of_one hI.hw
  have hta := taN (t := 52) (by decide)
  simp only [E.val]
  go_enter Tryz.func45, Tryz.ntmps45
  go_wp2_with fail
  have b0 : Below w.heap.size w (w.alloc (Obj.cells #[Value.string { data := #[] }] 49)) := (Below.refl _ _).alloc (Nat.le_refl _) _
  have hI0 := hI.below b0
  refine (ops_calls (.neg y) _ hI0.gl).mono ?_
  rintro e w1 ⟨hb, A, c, rfl, ho⟩
  have b1 : Below w.heap.size w w1 := b0.trans (hb.mono (by simp))
  have hI1 := hI.below b1
  simp only [E.ops, List.length_cons, List.length_nil, Nat.zero_add] at ho ⊢
  obtain ⟨⟨blk, off, sp⟩, rfl, hsp, hlt, hcell⟩ := ho.resolve_left (by simp)
  simp only at hsp hlt hcell
  subst hsp
  have c0 : w1.cell? ⟨blk, off, none⟩ = some y.val := by simpa using hcell 0 y rfl
  have cN1 := cell_of_one hI1.hn
  have cW1 := cell_of_one hI1.hw
  go_wp2
  refine wp_loop_rounds 2 ?_
  rw [rounds_succ]
  go_wp2_with fail
  simp only [E.names] at hn ⊢
  refine (ih w1 bn bw mb n l hI1 hn).mono ?_
  rintro e w2 ⟨rfl, hI2, g2⟩
  go_wp2
  rw [rounds_succ]
  go_wp2
  go_end0
  exact ⟨rfl, hI2, (grown_of_below b1).trans g2⟩
set_option maxRecDepth 100000 in
set_option maxHeartbeats 4000000 in
theorem w65_bin (op : ByteArray) (y z : E) (ih : W65 y) (ihz : W65 z) : W65 (.bin op y z) := by
  intro w bn bw mb n l hI hn
  have cN := cell_of_one hI.hn
  have cW := cell_of_one hI.hw
  have hta := taN (t := 43) (by decide)
  simp only [E.val]
  go_enter Tryz.func45, Tryz.ntmps45
  go_wp2_with fail
  have b0 : Below w.heap.size w (w.alloc (Obj.cells #[Value.string { data := #[] }] 49)) := (Below.refl _ _).alloc (Nat.le_refl _) _
  have hI0 := hI.below b0
  refine (ops_calls (.bin op y z) _ hI0.gl).mono ?_
  rintro e w1 ⟨hb, A, c, rfl, ho⟩
  have b1 : Below w.heap.size w w1 := b0.trans (hb.mono (by simp))
  have hI1 := hI.below b1
  simp only [E.ops, List.length_cons, List.length_nil, Nat.zero_add] at ho ⊢
  obtain ⟨⟨blk, off, sp⟩, rfl, hsp, hlt, hcell⟩ := ho.resolve_left (by simp)
  simp only at hsp hlt hcell
  subst hsp
  have c0 : w1.cell? ⟨blk, off, none⟩ = some y.val := by simpa using hcell 0 y rfl
  have c1 : w1.cell? ⟨blk, off + 1, none⟩ = some z.val := hcell 1 z rfl
  have cN1 := cell_of_one hI1.hn
  have cW1 := cell_of_one hI1.hw
  go_wp2
  refine wp_loop_rounds 3 ?_
  rw [rounds_succ]
  go_wp2_with fail
  simp only [E.names, List.length_append] at hn ⊢
  refine (ih w1 bn bw mb n l hI1 (by omega)).mono ?_
  rintro e w2 ⟨rfl, hI2, g2⟩
  have c2 := cell_kept' c1 g2 hI1.hm
  have cN2 := cell_of_one hI2.hn
  have cW2 := cell_of_one hI2.hw
  go_wp2
  rw [rounds_succ]
  go_wp2_with fail
  refine (ihz w2 bn bw mb _ _ hI2 (by omega)).mono ?_
  rintro e w3 ⟨rfl, hI3, g3⟩
  go_wp2
  rw [rounds_succ]
  go_wp2
  go_end0
  show _ ∧ I65 w3 bn bw mb (n + (y.names ++ z.names).length) (l ++ (y.names ++ z.names)) ∧ _
  rw [List.length_append, ← List.append_assoc, ← Nat.add_assoc]
  exact ⟨rfl, hI3, ((grown_of_below b1).trans g2).trans g3⟩
set_option maxRecDepth 100000 in
set_option maxHeartbeats 4000000 in
theorem w65_lit (m : Int) : W65 (.lit m) := by
  intro w bn bw mb n l hI hn
  have cN := cell_of_one hI.hn
  have cW := cell_of_one hI.hw
  have hta := taN (t := 41) (by decide)
  simp only [E.val]
  go_enter Tryz.func45, Tryz.ntmps45
  go_wp2_with fail
  have b0 : Below w.heap.size w (w.alloc (Obj.cells #[Value.string { data := #[] }] 49)) := (Below.refl _ _).alloc (Nat.le_refl _) _
  have hI0 := hI.below b0
  refine (ops_calls (.lit m) _ hI0.gl).mono ?_
  rintro e w1 ⟨hb, A, c, rfl, ho⟩
  have b1 : Below w.heap.size w w1 := b0.trans (hb.mono (by simp))
  have hI1 := hI.below b1
  simp only [E.ops, List.length_nil] at ⊢
  go_wp2
  refine wp_loop_rounds 1 ?_
  rw [rounds_succ]
  go_wp2
  go_end0
  exact ⟨rfl, by simpa [E.names] using hI1, grown_of_below b1⟩
set_option maxRecDepth 100000 in
set_option maxHeartbeats 4000000 in
theorem w65_non : W65 .non := by
  intro w bn bw mb n l hI hn
  have cN := cell_of_one hI.hn
  have cW := cell_of_one hI.hw
  have hta := ta0
  simp only [E.val]
  go_enter Tryz.func45, Tryz.ntmps45
  go_wp2_with fail
  have b0 : Below w.heap.size w (w.alloc (Obj.cells #[Value.string { data := #[] }] 49)) := (Below.refl _ _).alloc (Nat.le_refl _) _
  have hI0 := hI.below b0
  refine (ops_calls .non _ hI0.gl).mono ?_
  rintro e w1 ⟨hb, A, c, rfl, ho⟩
  have b1 : Below w.heap.size w w1 := b0.trans (hb.mono (by simp))
  have hI1 := hI.below b1
  simp only [E.ops, List.length_nil] at ⊢
  go_wp2
  refine wp_loop_rounds 1 ?_
  rw [rounds_succ]
  go_wp2
  go_end0
  exact ⟨rfl, by simpa [E.names] using hI1, grown_of_below b1⟩
set_option maxRecDepth 100000 in
set_option maxHeartbeats 4000000 in
theorem w65_ref (s : ByteArray) (hs : s.size ≤ maxLen) : W65 (.ref s) := by
  intro w bn bw mb n l hI hn
  have b0 : Below w.heap.size w (w.alloc (Obj.cells #[Value.string s] 49)) := (Below.refl _ _).alloc (Nat.le_refl _) _
  have hI0 := hI.below b0
  have cN := cell_of_one hI.hn
  have cW := cell_of_one hI.hw
  have cN0 := cell_of_one hI0.hn
  have hta := ta96
  have hkey : keyOf Tryz.prog 9 (.string s) = some (kyOf s) := WideMaps.keyOf_string_mk Tryz.underlying9 hs
  have hn' : n < maxLen := by simp only [E.names, List.length_cons, List.length_nil] at hn; omega
  simp only [E.val]
  go_enter Tryz.func45, Tryz.ntmps45
  go_wp2_with (at_mapUpdate; refine wpList_mapUpdate_own _ rfl _ _ _ 90 rfl 9 4 law9 Tryz.underlying90 (plainElem (H := Unit) Tryz.prog 4) mb n _ rfl hI0.hm hn' _ _ _ rfl rfl hkey _ [] (plainElem_bool Tryz.underlying4 true) ?_)
  intro w1 hm1 g1
  rw [Dn_snoc] at hm1
  have hI1 := hI0.grown g1 hm1
  go_wp2_with fail
  refine (ops_calls (.ref s) _ hI1.gl).mono ?_
  rintro e w2 ⟨hb, A, c, rfl, ho⟩
  have hI2 := hI1.below hb
  simp only [E.ops, List.length_nil] at ⊢
  go_wp2
  refine wp_loop_rounds 1 ?_
  rw [rounds_succ]
  go_wp2
  go_end0
  exact ⟨rfl, by simpa [E.names] using hI2, ((grown_of_below b0).trans g1).trans (grown_of_below hb)⟩
theorem w65 : ∀ x : E, x.wf → W65 x := by
  intro x
  induction x with
  | non => intro _; exact w65_non
  | lit n => intro _; exact w65_lit n
  | ref s => intro h; exact w65_ref s h
  | not x ih => intro h; exact w65_not x (ih h)
  | neg x ih => intro h; exact w65_neg x (ih h)
  | bin op l r ih1 ih2 => intro h; exact w65_bin op l r (ih1 h.1) (ih2 h.2)
end Go.Proofs.YthcaodlfnlhfbaaGreatDoorT

/- The layings of slices.Sorted(maps.Keys(m)) at this dump (what the kit's program writes, in plain text); expr.Refs. -/
namespace Go.Proofs
open Go.RowKit Go.Maps Go.Sort Go.Shelf
def YthcaodlfnlhfbaaGreatDoorT.keys68_ren : Go.Shelf.Ren := ⟨fun | 7 => 47 | 10 => 64 | n => n, fun | 23 => 90 | 26 => 9 | 3 => 4 | 28 => 94 | 0 => 0 | 27 => 93 | 33 => 36 | 4 => 4 | n => n, fun | n => n⟩
theorem YthcaodlfnlhfbaaGreatDoorT.keys68 : Go.Proofs.SlLaysZ.n7 Tryz.prog YthcaodlfnlhfbaaGreatDoorT.keys68_ren where
  mixed := by kernel_rfl
  f7 := ⟨"maps.Keys[map[string]bool,string,bool]", by decide, Tryz.func47.trans (congrArg some (by kernel_rfl))⟩
  f10 := ⟨"maps.Keys[map[string]bool,string,bool]$1", by decide, Tryz.func64.trans (congrArg some (by kernel_rfl))⟩
  t0 := Tryz.underlying0
  a0 := Tryz.isAgg0
  z0 := Tryz.sizeOf0
  v0 := Tryz.zeroValue0
  t4 := Tryz.underlying4
  a4 := Tryz.isAgg4
  z4 := Tryz.sizeOf4
  v4 := Tryz.zeroValue4
  t23 := Tryz.underlying90
  a23 := Tryz.isAgg90
  z23 := Tryz.sizeOf90
  v23 := Tryz.zeroValue90
  t26 := Tryz.underlying9
  a26 := Tryz.isAgg9
  z26 := Tryz.sizeOf9
  v26 := Tryz.zeroValue9
  t27 := Tryz.underlying93
  a27 := Tryz.isAgg93
  z27 := Tryz.sizeOf93
  v27 := Tryz.zeroValue93
  t28 := Tryz.underlying94
  a28 := Tryz.isAgg94
  z28 := Tryz.sizeOf94
  v28 := Tryz.zeroValue94
  t33 := Tryz.underlying36
  a33 := Tryz.isAgg36
  z33 := Tryz.sizeOf36
  v33 := Tryz.zeroValue36
def YthcaodlfnlhfbaaGreatDoorT.sorted67_ren : Go.Shelf.Ren := ⟨fun | 6 => 46 | 8 => 62 | 9 => 63 | 11 => 79 | 13 => 81 | 12 => 80 | 23 => 104 | 24 => 83 | 14 => 95 | 15 => 96 | 16 => 97 | 17 => 98 | 18 => 99 | 19 => 100 | 20 => 101 | 21 => 102 | 22 => 103 | 25 => 115 | 26 => 116 | 27 => 117 | 28 => 118 | 29 => 119 | 30 => 120 | 31 => 128 | n => n, fun | 26 => 9 | 28 => 94 | 24 => 69 | 0 => 0 | 3 => 3 | 37 => 127 | 48 => 130 | 50 => 110 | 4 => 4 | 40 => 143 | 39 => 142 | 45 => 147 | 5 => 5 | 9 => 9 | 51 => 154 | 55 => 158 | 57 => 167 | 58 => 139 | 33 => 36 | n => n, fun | n => n⟩
theorem YthcaodlfnlhfbaaGreatDoorT.sorted67 : Go.Proofs.SlLaysZ.n6 Tryz.prog YthcaodlfnlhfbaaGreatDoorT.sorted67_ren where
  mixed := by kernel_rfl
  f6 := ⟨"slices.Sorted[string]", by decide, Tryz.func46.trans (congrArg some (by kernel_rfl))⟩
  f8 := ⟨"slices.Collect[string]", by decide, Tryz.func62.trans (congrArg some (by kernel_rfl))⟩
  f11 := ⟨"slices.AppendSeq[[]string,string]", by decide, Tryz.func79.trans (congrArg some (by kernel_rfl))⟩
  t0 := Tryz.underlying0
  a0 := Tryz.isAgg0
  z0 := Tryz.sizeOf0
  v0 := Tryz.zeroValue0
  t24 := Tryz.underlying69
  a24 := Tryz.isAgg69
  z24 := Tryz.sizeOf69
  v24 := Tryz.zeroValue69
  t26 := Tryz.underlying9
  a26 := Tryz.isAgg9
  z26 := Tryz.sizeOf9
  v26 := Tryz.zeroValue9
  t28 := Tryz.underlying94
  a28 := Tryz.isAgg94
  z28 := Tryz.sizeOf94
  v28 := Tryz.zeroValue94
  i26 := by kernel_rfl
def YthcaodlfnlhfbaaGreatDoorT.sort96_ren : Go.Shelf.Ren := ⟨fun | 6 => 63 | 8 => 81 | 9 => 80 | 19 => 104 | 20 => 83 | 21 => 95 | 22 => 96 | 23 => 97 | 24 => 98 | 25 => 99 | 26 => 100 | 27 => 101 | 28 => 102 | 29 => 103 | 36 => 115 | 31 => 116 | 32 => 117 | 37 => 118 | 38 => 119 | 39 => 120 | 41 => 128 | n => n, fun | 27 => 69 | 29 => 9 | 3 => 3 | 32 => 127 | 26 => 69 | 0 => 0 | 44 => 130 | 46 => 110 | 4 => 4 | 36 => 143 | 35 => 142 | 41 => 147 | 5 => 5 | 9 => 9 | 53 => 154 | 57 => 158 | 63 => 167 | 64 => 139 | n => n, fun | n => n⟩
theorem YthcaodlfnlhfbaaGreatDoorT.sort96 : Go.Proofs.SlLaysM.n6 Tryz.prog YthcaodlfnlhfbaaGreatDoorT.sort96_ren where
  mixed := by kernel_rfl
  f6 := ⟨"slices.Sort[[]string,string]", by decide, Tryz.func63.trans (congrArg some (by kernel_rfl))⟩
  f8 := Tryz.func81.trans (congrArg some (by kernel_rfl))
  f9 := ⟨"slices.pdqsortOrdered[string]", by decide, Tryz.func80.trans (congrArg some (by kernel_rfl))⟩
  f19 := Tryz.func104.trans (congrArg some (by kernel_rfl))
  f20 := Tryz.func83.trans (congrArg some (by kernel_rfl))
  f21 := ⟨"slices.insertionSortOrdered[string]", by decide, Tryz.func95.trans (congrArg some (by kernel_rfl))⟩
  f22 := ⟨"slices.heapSortOrdered[string]", by decide, Tryz.func96.trans (congrArg some (by kernel_rfl))⟩
  f23 := ⟨"slices.breakPatternsOrdered[string]", by decide, Tryz.func97.trans (congrArg some (by kernel_rfl))⟩
  f24 := ⟨"slices.choosePivotOrdered[string]", by decide, Tryz.func98.trans (congrArg some (by kernel_rfl))⟩
  f25 := ⟨"slices.reverseRangeOrdered[string]", by decide, Tryz.func99.trans (congrArg some (by kernel_rfl))⟩
  f26 := ⟨"slices.partialInsertionSortOrdered[string]", by decide, Tryz.func100.trans (congrArg some (by kernel_rfl))⟩
  f27 := ⟨"cmp.Less[string]", by decide, Tryz.func101.trans (congrArg some (by kernel_rfl))⟩
  f28 := ⟨"slices.partitionEqualOrdered[string]", by decide, Tryz.func102.trans (congrArg some (by kernel_rfl))⟩
  f29 := ⟨"slices.partitionOrdered[string]", by decide, Tryz.func103.trans (congrArg some (by kernel_rfl))⟩
  f31 := Tryz.func116.trans (congrArg some (by kernel_rfl))
  f32 := Tryz.func117.trans (congrArg some (by kernel_rfl))
  f36 := ⟨"slices.siftDownOrdered[string]", by decide, Tryz.func115.trans (congrArg some (by kernel_rfl))⟩
  f37 := ⟨"slices.medianAdjacentOrdered[string]", by decide, Tryz.func118.trans (congrArg some (by kernel_rfl))⟩
  f38 := ⟨"slices.medianOrdered[string]", by decide, Tryz.func119.trans (congrArg some (by kernel_rfl))⟩
  f39 := ⟨"cmp.isNaN[string]", by decide, Tryz.func120.trans (congrArg some (by kernel_rfl))⟩
  f41 := ⟨"slices.order2Ordered[string]", by decide, Tryz.func128.trans (congrArg some (by kernel_rfl))⟩
  t0 := Tryz.underlying0
  a0 := Tryz.isAgg0
  z0 := Tryz.sizeOf0
  v0 := Tryz.zeroValue0
  t3 := Tryz.underlying3
  a3 := Tryz.isAgg3
  z3 := Tryz.sizeOf3
  v3 := Tryz.zeroValue3
  t4 := Tryz.underlying4
  a4 := Tryz.isAgg4
  z4 := Tryz.sizeOf4
  v4 := Tryz.zeroValue4
  t5 := Tryz.underlying5
  a5 := Tryz.isAgg5
  z5 := Tryz.sizeOf5
  v5 := Tryz.zeroValue5
  t9 := Tryz.underlying9
  a9 := Tryz.isAgg9
  z9 := Tryz.sizeOf9
  v9 := Tryz.zeroValue9
  t26 := Tryz.underlying69
  a26 := Tryz.isAgg69
  z26 := Tryz.sizeOf69
  v26 := Tryz.zeroValue69
  t27 := Tryz.underlying69
  a27 := Tryz.isAgg69
  z27 := Tryz.sizeOf69
  v27 := Tryz.zeroValue69
  t29 := Tryz.underlying9
  a29 := Tryz.isAgg9
  z29 := Tryz.sizeOf9
  v29 := Tryz.zeroValue9
  t32 := Tryz.underlying127
  a32 := Tryz.isAgg127
  z32 := Tryz.sizeOf127
  v32 := Tryz.zeroValue127
  t35 := Tryz.underlying142
  a35 := Tryz.isAgg142
  z35 := Tryz.sizeOf142
  v35 := Tryz.zeroValue142
  t36 := Tryz.underlying143
  a36 := Tryz.isAgg143
  z36 := Tryz.sizeOf143
  v36 := Tryz.zeroValue143
  t41 := Tryz.underlying147
  a41 := Tryz.isAgg147
  z41 := Tryz.sizeOf147
  v41 := Tryz.zeroValue147
  t44 := Tryz.underlying130
  a44 := Tryz.isAgg130
  z44 := Tryz.sizeOf130
  v44 := Tryz.zeroValue130
  t46 := Tryz.underlying110
  a46 := Tryz.isAgg110
  z46 := Tryz.sizeOf110
  v46 := Tryz.zeroValue110
  t53 := Tryz.underlying154
  a53 := Tryz.isAgg154
  z53 := Tryz.sizeOf154
  v53 := Tryz.zeroValue154
  t57 := Tryz.underlying158
  a57 := Tryz.isAgg158
  z57 := Tryz.sizeOf158
  v57 := Tryz.zeroValue158
  t63 := Tryz.underlying167
  a63 := Tryz.isAgg167
  z63 := Tryz.sizeOf167
  v63 := Tryz.zeroValue167
  t64 := Tryz.underlying139
  a64 := Tryz.isAgg139
  z64 := Tryz.sizeOf139
  v64 := Tryz.zeroValue139
theorem YthcaodlfnlhfbaaGreatDoorT.sorts67 (m : Nat) : AnyZ.SortsIn Tryz.prog YthcaodlfnlhfbaaGreatDoorT.sorted67_ren Fence.wide m :=
  ⟨fun blk off cap ss W hH hblk hsz => callsIn_wide.2 (AnyM.slices_Sort_string YthcaodlfnlhfbaaGreatDoorT.sort96 blk off cap ss W hH hblk hsz),
   fun p cap W => callsIn_wide.2 (AnyM.slices_Sort_string_none YthcaodlfnlhfbaaGreatDoorT.sort96 p cap W)⟩

theorem YthcaodlfnlhfbaaGreatDoorT.maps_Keys_68 (mb : Option Nat) (W : World) : CallsIn Fence.wide 5 Tryz.prog 47 #[.map mb] W fun e w' => e = .returned (.func (.func 64) #[] #[.pointer (some ⟨W.heap.size, 0, none⟩)]) ∧ w' = W.alloc (.cells #[.map mb] 90) :=
  AnyZ.keys_in YthcaodlfnlhfbaaGreatDoorT.keys68 Fence.wide 5 trivial rfl mb W

set_option maxHeartbeats 1000000 in
theorem YthcaodlfnlhfbaaGreatDoorT.slices_Sorted_keys_67_68 {H : Type} (b nn : Nat) (D0 : DataW H) (R : Value → Option (DataW H × List MemPlace)) (w : World) (hown : w.ownsMap Tryz.prog 9 R b nn D0) (hmax : Maps.size D0 ≤ maxLen) (hbytes : Maps.size D0 * 16 ≤ 140737488355328) :
    CallsIn Fence.wide 5 Tryz.prog 46 #[.func (.func 64) #[] #[.pointer (some ⟨w.heap.size, 0, none⟩)]] (w.alloc (.cells #[.map (some b)] 90)) fun e w' => ∃ (v : Value) (ss : List (List UInt8)), e = .returned v ∧ ss.Perm (strKeys D0) ∧
      w'.ownsRow (w.alloc (.cells #[.map (some b)] 90)).heap.size 9 1 v ss.length ((ss.mergeSort (fun x y => decide (x ≤ y))).map encStr) ∧ (v = .slice none 0 0 ↔ ss = []) ∧ Below (w.alloc (.cells #[.map (some b)] 90)).heap.size (w.alloc (.cells #[.map (some b)] 90)) w' := by
  have hbl := hown.lt
  have hseq : SeqGives Fence.wide 2 Tryz.prog 64 #[.pointer (some ⟨w.heap.size, 0, none⟩)] encStr (fun ss => ss.Perm (strKeys D0)) (Maps.size D0) (w.alloc (.cells #[.map (some b)] 90)) :=
    AnyZ.keys_gives (ρ := YthcaodlfnlhfbaaGreatDoorT.keys68_ren) { YthcaodlfnlhfbaaGreatDoorT.keys68 with } Fence.wide _ trivial rfl (by omega) w.heap.size b nn D0 _ (by simp) (by simp) (by
      obtain ⟨es, clock, hb, Ft, hs, hD⟩ := hown
      exact ⟨es, clock, (Below.heap_alloc _ _ b hbl).trans hb, Ft, hs, hD⟩)
  exact AnyZ.sorted_in YthcaodlfnlhfbaaGreatDoorT.sorted67 Fence.wide 5 trivial trivial trivial trivial rfl (by omega) (YthcaodlfnlhfbaaGreatDoorT.sorts67 _) (enters_of Tryz.func63 (by kernel_rfl) rfl) 64 #[.pointer (some ⟨w.heap.size, 0, none⟩)] trivial (enters_of Tryz.func64 (by kernel_rfl) rfl) _ _ hmax hbytes _ hseq

end Go.Proofs

/- expr.Refs: the whole. -/
namespace Go.Proofs.YthcaodlfnlhfbaaGreatDoorT
open Go Go.Proofs Go.RowKit Go.Maps Go.Sort
set_option linter.unusedVariables false
theorem names_le (x : E) : x.names.length ≤ x.nodes := by
  induction x with
  | bin op l r ih1 ih2 => simp only [E.names, E.nodes, List.length_append]; omega
  | not x ih => simp only [E.names, E.nodes]; omega
  | neg x ih => simp only [E.names, E.nodes]; omega
  | _ => simp [E.names, E.nodes]
set_option maxRecDepth 100000 in
set_option maxHeartbeats 4000000 in
theorem refs45 (x : E) (hw : x.wf) (hk : x.ok = true) (w : World) (hG : Glob w (fun k => k < w.heap.size)) :
    Calls Tryz.prog 30 #[x.val] w fun e w' => Below w.heap.size w w' ∧ ∃ (v : Value) (ss : List (List UInt8)), e = .returned v ∧ ss.Perm (strKeys (Dn x.names)) ∧
      w'.ownsRow w.heap.size 9 1 v ss.length ((ss.mergeSort (fun x y => decide (x ≤ y))).map encStr) := by
  have h43 := calls_of_runs (r28 x hw) w hG
  rw [hk] at h43
  replace h43 : Calls Tryz.prog 28 #[x.val] w fun e w' => e = .returned (.bool true) ∧ RowKit.Below w.heap.size w w' :=
    h43.mono fun e w' h => by
      obtain ⟨b1, v, bb, ok, rfl, ⟨rfl, hr⟩, hok⟩ := h
      rw [rep_scal hr]
      exact ⟨rfl, b1⟩
  have hmm := @run_makeMap Tryz.prog
  have hsf : ∀ (a : Addr) (f : Fn) (c1 c2 : Array Value) (w : World) (m : Mode), (store a (.func f c1 c2) m).run Tryz.prog w = stored Tryz.prog w a (.func f c1 c2) m := fun a f c1 c2 w m => run_store _ _ _ _ m rfl
  refine (callsIn_wide (n := 6)).1 ?_
  have hfK : Fence.wide.fn 47 := trivial
  have hfS : Fence.wide.fn 46 := trivial
  have hfF : Fence.wide.fn 28 := trivial
  have hfW : Fence.wide.fn 45 := trivial
  refine callsIn_of_wp Tryz.func30 rfl trivial ?_ rfl
  simp only [Tryz.ntmps30, List.size_toArray, List.length_cons, List.length_nil, Nat.reduceAdd, Nat.reduceSub, Array.replicate_succ, Array.replicate_zero, List.push_toArray, List.append_toArray, List.nil_append, List.cons_append]
  gi_wp2_with (first
    | (gi_at_call 28; refine ((callsIn_wide (n := 5)).2 h43).mono ?_; rintro e w1 ⟨rfl, b1⟩))
  have bW : RowKit.Below w.heap.size w (((w1.alloc (Obj.map #[] 0)).alloc (Obj.cells #[Value.map (some w1.heap.size)] 90)).alloc (Obj.cells #[Value.func (Fn.func 45) #[] #[pt (w1.heap.size + 1), pt (w1.heap.size + 1 + 1)]] 91)) :=
    ((b1.alloc b1.size _).alloc (by have := b1.size; simp; omega) _).alloc (by have := b1.size; simp; omega) _
  have hI : I65 (((w1.alloc (Obj.map #[] 0)).alloc (Obj.cells #[Value.map (some w1.heap.size)] 90)).alloc (Obj.cells #[Value.func (Fn.func 45) #[] #[pt (w1.heap.size + 1), pt (w1.heap.size + 1 + 1)]] 91)) (w1.heap.size + 1) (w1.heap.size + 1 + 1) w1.heap.size 0 [] := by
    refine ⟨hG.mono fun k hk => ⟨Nat.lt_of_lt_of_le hk bW.size, bW.block k hk⟩, ?_, ?_, ((World.ownsMap_made _ _ _ _).alloc _).alloc _⟩
    · refine (Below.heap_alloc _ _ _ (by simp)).trans ?_
      have := heap_alloc_new (w1.alloc (Obj.map #[] 0)) (Obj.cells #[Value.map (some w1.heap.size)] 90)
      simpa using this
    · have := heap_alloc_new ((w1.alloc (Obj.map #[] 0)).alloc (Obj.cells #[Value.map (some w1.heap.size)] 90)) (Obj.cells #[Value.func (Fn.func 45) #[] #[pt (w1.heap.size + 1), pt (w1.heap.size + 1 + 1)]] 91)
      simpa using this
  have hnm := names_le x
  have hno := (ok_parts hk).1
  refine ((callsIn_wide (n := 5)).2 (w65 x hw _ _ _ _ _ _ hI (by unfold maxLen; omega))).mono ?_
  rintro e w2 ⟨rfl, hI2, g2⟩
  have cN2 := cell_of_one hI2.hn
  have hown := hI2.hm
  have hsz := hown.size_le
  gi_wp2_with (first
    | (gi_at_call 47; refine (maps_Keys_68 _ _).mono ?_; rintro e w' ⟨rfl, rfl⟩)
    | (gi_at_call 46; refine (slices_Sorted_keys_67_68 w1.heap.size _ _ _ w2 hown (by unfold maxLen; omega) (by omega)).mono ?_; rintro e w' ⟨v, ss, rfl, hS, hrow, hnil, hb⟩))
  go_ret
  have hb2 : RowKit.Below w.heap.size w w2 := bW.grown g2 bW.size (fun k hk => by cases hk; exact b1.size)
  refine ⟨(hb2.alloc hb2.size _).trans (hb.mono (by have := hb2.size; simp; omega)), v, ss, rfl, by simpa using hS, ownsRow_base_a hrow (by have := hb2.size; simp; omega)⟩
/-- The names, sorted. -/
def srt (x : E) : List ByteArray := ((strKeys (Dn x.names)).mergeSort fun a b => decide (a ≤ b)).map fun b => ⟨b.toArray⟩
theorem mem_ins {x p : Lit × DU} : ∀ l : List (Lit × DU), p ∈ DataW.insert x l → p = x ∨ p ∈ l
  | [], h => by simpa [DataW.insert] using h
  | y :: r, h => by
    unfold DataW.insert at h
    split at h
    · simpa using h
    · rcases List.mem_cons.1 h with h | h
      · exact .inr (by rw [h]; simp)
      · rcases mem_ins r h with h | h
        · exact .inl h
        · exact .inr (List.mem_cons_of_mem _ h)
theorem keys_put : ∀ (l : List Lit) (D : DU), ((∃ es, D = .map es ∧ ∀ p ∈ es, p.1 ∈ l)) → ∀ (xs : List Lit), ∃ es, xs.foldl (fun m x => m.put x (.lit (.bool true))) D = .map es ∧ ∀ p ∈ es, p.1 ∈ l ++ xs := by
  intro l D h xs
  induction xs generalizing l D with
  | nil => simpa using h
  | cons x xs ih =>
    obtain ⟨es, rfl, hp⟩ := h
    have := ih (l ++ [x]) ((DataW.map es).put x (.lit (.bool true))) ⟨_, rfl, fun p hp' => by
      rcases mem_ins _ hp' with rfl | h
      · simp
      · exact List.mem_append_left _ (hp _ (List.mem_filter.1 h).1)⟩
    simpa using this
theorem isKey_ky (l : List ByteArray) : ∀ x ∈ l.map kyOf, WideAt.IsKeyLit x := by
  intro x hx
  obtain ⟨s, _, rfl⟩ := List.mem_map.1 hx
  exact trivial
theorem mem_keys (l : List ByteArray) (b : List UInt8) : b ∈ strKeys (Dn l) ↔ (⟨b.toArray⟩ : ByteArray) ∈ l := by
  obtain ⟨es, he, hp⟩ := keys_put [] (.map []) ⟨[], rfl, fun p h => by simp at h⟩ (l.map kyOf)
  have hd : Dn l = .map es := he
  have hh := has_setOf (H := Unit) (.lit (.bool true)) (.string b) (l.map kyOf) (isKey_ky l)
  change has (Dn l) _ = _ at hh
  rw [hd] at hh ⊢
  rw [has_eq] at hh
  show b ∈ es.map (fun p => strOf p.1) ↔ _
  constructor
  · intro h
    obtain ⟨p, hpm, rfl⟩ := List.mem_map.1 h
    obtain ⟨s, hs, e⟩ := List.mem_map.1 (by simpa using hp p hpm)
    rw [← e]
    simpa [strOf, kyOf] using hs
  · intro h
    have : (es.any fun p => p.1.sameKey (.string b)) = true := by
      rw [hh, List.any_map, List.any_eq_true]
      exact ⟨_, h, by simp [kyOf, Lit.sameKey]⟩
    obtain ⟨p, hpm, hk⟩ := List.any_eq_true.1 this
    exact List.mem_map.2 ⟨p, hpm, by rw [WideAt.sameKey_eq hk]; rfl⟩
theorem mem_srt (x : E) (t : ByteArray) : t ∈ srt x ↔ t ∈ x.names := by
  have e : ∀ b : List UInt8, (⟨b.toArray⟩ : ByteArray) = t ↔ b = t.data.toList := fun b => by
    constructor
    · rintro rfl; rfl
    · rintro rfl; simp
  simp only [srt, List.mem_map, List.mem_mergeSort, e, exists_eq_right, mem_keys]
theorem addKey_len (xs L : List Lit) : (xs.foldl addKey L).length ≤ L.length + xs.length := by
  induction xs generalizing L with
  | nil => simp
  | cons x xs ih =>
    have h := ih (addKey L x)
    have : (addKey L x).length ≤ L.length + 1 := by unfold addKey; split <;> simp
    simp only [List.foldl_cons, List.length_cons]
    omega
theorem len_srt (x : E) : (srt x).length ≤ x.names.length := by
  have h1 : (srt x).length = (strKeys (Dn x.names)).length := by simp [srt]
  have h2 : (strKeys (Dn x.names)).length = size (Dn x.names) := by
    obtain ⟨es, he, hp⟩ := keys_put [] (.map []) ⟨[], rfl, fun p h => by simp at h⟩ (x.names.map kyOf)
    have hd : Dn x.names = .map es := he
    rw [hd]
    simp [strKeys, size]
  have h3 : size (Dn x.names) = _ := size_setOf (H := Unit) (.lit (.bool true)) (x.names.map kyOf) (isKey_ky _)
  have h4 := addKey_len (x.names.map kyOf) []
  simp only [List.length_map, List.length_nil, Nat.zero_add] at h4
  omega
theorem rep_row {w : World} {ok : Nat → Prop} {base : Nat} {v : Value} {l : List (List UInt8)} (h : w.ownsRow base 9 1 v l.length (l.map encStr)) (hok : ∀ k, base ≤ k → k < w.heap.size → ok k) :
    RepX w ok (.sl 1 ((l.map fun b => (⟨b.toArray⟩ : ByteArray)).map st)) v [] := by
  refine ⟨rfl, ?_⟩
  have hlen : ((l.map fun b => (⟨b.toArray⟩ : ByteArray)).map st).length = (l.map encStr).length := by simp
  have key : ∀ (A : Option Addr) (c : Nat), l.length ≤ c → (l = [] ∨ ∃ ad : Addr, A = some ad ∧ ad.spot = none ∧ ok ad.block ∧ ∀ (j i : Nat) (u cv : Value), (l.map encStr)[j]? = some u → u.cells[i]? = some cv → w.cell? ⟨ad.block, ad.off + (j * 1 + i), none⟩ = some cv) →
      Rep (cctx w ok) (.sl 1 ((l.map fun b => (⟨b.toArray⟩ : ByteArray)).map st)) (.slice A l.length c) := by
    intro A c hc hm
    have := Rep.sl (C := cctx w ok) (sz := 1) (xs := (l.map fun b => (⟨b.toArray⟩ : ByteArray)).map st) (us := l.map encStr) (A := A) (c := c) hlen (by simpa using hc) (fun j x u hx hu => by
      simp only [List.getElem?_map] at hx hu
      cases h0 : l[j]? with
      | none => rw [h0] at hx; simp at hx
      | some b =>
        rw [h0] at hx hu
        simp only [Option.map_some, Option.some.injEq] at hx hu
        subst hx hu
        exact .s rfl) (fun u hu => by
      obtain ⟨b, _, rfl⟩ := List.mem_map.1 hu
      rfl) (by
      rcases hm with rfl | hm
      · left; rfl
      · right; exact hm)
    simpa using this
  obtain ⟨_, ⟨rfl, h0⟩ | ⟨g, cap, cur, rfl, hg, hh, hnc, _, hcs, htk⟩⟩ := h
  · have := key none 0 (by omega) (.inl (List.length_eq_zero_iff.1 h0))
    rwa [h0] at this
  · refine key _ cap hnc (.inr ⟨⟨g, 0, none⟩, rfl, rfl, hok g hg (lt_of_block hh), fun j i u cv hu hc => ?_⟩)
    have hi : i = 0 ∧ u = cv := by
      obtain ⟨b, _, rfl⟩ := List.mem_map.1 (List.mem_of_getElem? hu)
      cases i with
      | zero => exact ⟨rfl, by simpa [encStr, Value.cells] using hc⟩
      | succ i => simp [encStr, Value.cells] at hc
    obtain ⟨rfl, rfl⟩ := hi
    have : cur[j]? = some u := by
      rw [← htk, List.getElem?_take] at hu
      split at hu
      · simpa using hu
      · simp at hu
    simp [World.cell?, hh, this]
theorem refsSaid : RefsSaid := by
  intro x hw hk
  refine ⟨srt x, runs_val ⟨_, Tryz.func30, by decide, rfl⟩ (fun w hG => (refs45 x hw hk w hG).mono ?_), mem_srt x, ?_⟩
  · rintro e w' ⟨b, v, ss, rfl, hp, hrow⟩
    refine ⟨b, v, rfl, fun ok hok => ?_⟩
    have e : (strKeys (Dn x.names)).mergeSort (fun a b => decide (a ≤ b)) = ss.mergeSort (fun a b => decide (a ≤ b)) := (mergeSort_of_perm hp).symm
    rw [srt, e]
    refine rep_row (base := w.heap.size) ?_ hok
    rw [List.length_mergeSort]
    exact hrow
  · have h1 := len_srt x
    have h2 := names_le x
    have h3 := (ok_parts hk).1
    omega
end Go.Proofs.YthcaodlfnlhfbaaGreatDoorT

/- Which expressions can be read, by both. (Not built yet.) -/
namespace Go.Proofs.YthcaodlfnlhfbaaGreatDoorT
open Go Go.Proofs
set_option linter.unusedVariables false
theorem r16 (s : ByteArray) : Rn 16 [st s] (tb (resv s), [.dead]) := by
  refine f16 _ _ ?_
  repeat' refine cd (fun h => ?_) (fun h => ?_)
  all_goals exact tbR (by simp_all [resv, RS])
end Go.Proofs.YthcaodlfnlhfbaaGreatDoorT
namespace Go.Proofs.YthcaodlfnlhfbaaGreatDoorT
open Go Go.Proofs
/-- No name in it is reserved. -/
def E.plain (x : E) : Bool := !(x.names.any resv)
theorem r38 : ∀ x : E, Rn 38 [x.d.t] (tb x.plain, [.dead]) := by
  refine E.rec_ops fun x IH => ?_
  have loop : ∀ (d k : Nat), k + d = x.ops.length → L38_0 (((List.length x.d.fParts) : Nat) : Int) (k : Int) x.d (tb ((x.ops.drop k).all E.plain), [.dead]) := by
    intro d
    induction d with
    | zero =>
      intro k hk
      rw [List.drop_of_length_le (by omega)]
      exact l38_0 _ _ _ _ (cF (by rw [d_parts]; simp; omega) rfl)
    | succ d ih =>
      intro k hk
      have hlt : k < x.ops.length := by omega
      rw [List.drop_eq_getElem_cons hlt, List.all_cons]
      have h := IH _ (List.getElem_mem hlt)
      refine l38_0 _ _ _ _ (cT (by rw [d_parts]; simp; omega) ⟨(x.ops[k]).d, ⟨by omega, by rw [d_parts]; exact getd hlt⟩, _, h, ?_⟩)
      cases hp : (x.ops[k]).plain with
      | false => exact cT rfl rfl
      | true =>
        refine cF rfl ?_
        rw [wS (by have := ops_len x; omega), Bool.true_and]
        exact ih (k + 1) (by omega)
  have h0 := loop x.ops.length 0 (by omega)
  rw [List.drop_zero] at h0
  cases x with
  | ref s =>
    refine f38 _ _ (cT rfl ⟨_, r16 s, ?_⟩)
    have e : (E.ref s).plain = !(resv s) := by simp [E.plain, E.names]
    rw [e]
    cases hs : resv s with
    | true => exact cT rfl rfl
    | false => exact cF rfl h0
  | bin op l r =>
    have e : (E.bin op l r).plain = ([l, r].all E.plain) := by simp [E.plain, E.names, Bool.not_or]
    rw [e]; exact f38 _ _ (cF rfl h0)
  | non => exact f38 _ _ (cF rfl h0)
  | lit n => exact f38 _ _ (cF rfl h0)
  | not x => exact f38 _ _ (cF rfl (by have e : (E.not x).plain = ([x].all E.plain) := by simp [E.plain, E.names]
                                       rw [e]; exact h0))
  | neg x => exact f38 _ _ (cF rfl (by have e : (E.neg x).plain = ([x].all E.plain) := by simp [E.plain, E.names]
                                       rw [e]; exact h0))
end Go.Proofs.YthcaodlfnlhfbaaGreatDoorT

/- What was printed is read as it was. -/
namespace Go.Proofs.YthcaodlfnlhfbaaGreatDoorT
open Go Go.Proofs
set_option linter.unusedVariables false
/-- Words from a place on. -/
def Seg (ws : List W_glyph_Word) : Nat → List Tk → Prop
  | _, [] => True
  | a, p :: l => (∃ w, ws[a]? = some w ∧ w.fKind = p.1 ∧ w.fText = p.2) ∧ Seg ws (a + 1) l
theorem Seg.app {ws : List W_glyph_Word} : ∀ {l m : List Tk} {a : Nat}, Seg ws a (l ++ m) → Seg ws a l ∧ Seg ws (a + l.length) m
  | [], m, a, h => ⟨trivial, h⟩
  | p :: l, m, a, h => by
    have := Seg.app (l := l) h.2
    refine ⟨⟨h.1, this.1⟩, ?_⟩
    rw [List.length_cons, show a + (l.length + 1) = a + 1 + l.length by omega]
    exact this.2
theorem seg_all {ws : List W_glyph_Word} : ∀ (d a : Nat) (l : List Tk), (ws.drop a).map key = l → l.length = d → Seg ws a l
  | 0, a, [], h, hd => trivial
  | 0, a, p :: l, h, hd => by simp at hd
  | d + 1, a, [], h, hd => trivial
  | d + 1, a, p :: l, h, hd => by
    have hlt : a < ws.length := by
      refine Nat.lt_of_not_le fun hle => ?_
      rw [List.drop_of_length_le hle] at h
      cases h
    rw [List.drop_eq_getElem_cons hlt, List.map_cons] at h
    injection h with h1 h2
    exact ⟨⟨ws[a], List.getElem?_eq_getElem hlt, by rw [← h1]; rfl, by rw [← h1]; rfl⟩, seg_all d (a + 1) l h2 (by simpa using hd)⟩
def most (x : E) : Nat := if x.str = 3 then 2 else x.str
/-- The word there, if it is a sign, is no operator stronger than that. -/
def Weak (ws : List W_glyph_Word) (e k : Nat) : Prop := ∀ w, ws[e]? = some w → w.fKind = 3 → lvl w.fText ≤ k
theorem plain_bin {op : ByteArray} {l r : E} (h : (E.bin op l r).plain = true) : l.plain = true ∧ r.plain = true := by
  simpa [E.plain, E.names] using h
theorem num_dec {n : Nat} (h : n ≤ 1000000000) : num (dec n) = n := by rw [num, numV_dec h]; rfl
/-- What is to be shown of an expression: it is read by itself; or operators follow. -/
structure Back (ws : List W_glyph_Word) (x : E) : Prop where
  one : x.str = 6 → ∀ a, Seg ws a x.tks → Pr ws (.sg a) x (a + x.tks.length) false
  all : ∀ (a k : Nat) (z : E) (a2 : Nat) (b2 : Bool), Seg ws a x.tks → k ≤ x.str → Weak ws (a + x.tks.length) x.str → Pr ws (.lp k (most x) x (a + x.tks.length) false) z a2 b2 →
    ∃ (y : E) (a1 : Nat) (b1 : Bool), Pr ws (.sg a) y a1 b1 ∧ Pr ws (.lp k 6 y a1 b1) z a2 b2
theorem back_one {ws : List W_glyph_Word} {x : E} (hs : x.str = 6) (h : ∀ a, Seg ws a x.tks → Pr ws (.sg a) x (a + x.tks.length) false) : Back ws x :=
  ⟨fun _ => h, fun a k z a2 b2 hg hk hw hp => ⟨x, _, false, h a hg, by rw [most, if_neg (by omega), hs] at hp; exact hp⟩⟩
/-- In brackets. -/
theorem back_par {ws : List W_glyph_Word} {x : E} (h : Back ws x) (h1 : 1 ≤ x.str) {a : Nat} (hg : Seg ws a ((3, bs [40]) :: x.tks ++ [(3, bs [41])])) : Pr ws (.sg a) x (a + (x.tks.length + 2)) false := by
  obtain ⟨⟨w, hw, hk, ht⟩, hg'⟩ := hg
  obtain ⟨g1, ⟨v, hv, vk, vt⟩, _⟩ := Seg.app hg'
  have hwk : Weak ws (a + 1 + x.tks.length) 0 := by
    intro u hu hk'
    rw [hv] at hu
    cases hu
    rw [vt]
    decide
  obtain ⟨y, a1, b1, e1, e2⟩ := h.all (a + 1) 1 x _ false g1 h1 (fun u hu hk' => by have := hwk u hu hk'; omega) (Pr.lEnd (fun u hu hk' => .inl (by have := hwk u hu hk'; omega)))
  have := Pr.sPar hw hk ht (.clm e1 e2) hv vt
  rw [show a + (x.tks.length + 2) = a + 1 + x.tks.length + 1 by omega]
  exact this
/-- As an operand of one that binds so strongly. -/
theorem back_wrp {ws : List W_glyph_Word} {x : E} (h : Back ws x) (h1 : 1 ≤ x.str) (m : Nat) (hm : m ≤ 6) : ∀ (a k : Nat) (z : E) (a2 : Nat) (b2 : Bool), Seg ws a (wrk x.str m x.tks) → k ≤ m → Weak ws (a + (wrk x.str m x.tks).length) m →
    (Pr ws (.lp k (if x.str < m then 6 else most x) x (a + (wrk x.str m x.tks).length) false) z a2 b2) → ∃ (y : E) (a1 : Nat) (b1 : Bool), Pr ws (.sg a) y a1 b1 ∧ Pr ws (.lp k 6 y a1 b1) z a2 b2 := by
  intro a k z a2 b2 hg hk hw hp
  by_cases hx : x.str < m
  · rw [if_pos hx] at hp
    rw [wrk, if_pos hx] at hg hp
    have := back_par h h1 hg
    exact ⟨x, _, false, this, by simpa using hp⟩
  · rw [if_neg hx] at hp
    rw [wrk, if_neg hx] at hg hp hw
    exact h.all a k z a2 b2 hg (by omega) (fun w hw' hk' => by have := hw w hw' hk'; omega) hp
theorem back_one_wrp {ws : List W_glyph_Word} {x : E} (h : Back ws x) (h1 : 1 ≤ x.str) {a : Nat} (hg : Seg ws a (wrk x.str 6 x.tks)) : Pr ws (.sg a) x (a + (wrk x.str 6 x.tks).length) false := by
  have := str_le x
  by_cases hx : x.str < 6
  · rw [wrk, if_pos hx] at hg ⊢
    have := back_par h h1 hg
    simpa using this
  · rw [wrk, if_neg hx] at hg ⊢
    exact h.one (by omega) a hg
theorem str_pos {x : E} (h : x.snd = true) : 1 ≤ x.str := by
  cases x <;> simp only [E.str] <;> first | omega | skip
  simp only [E.snd, Bool.and_eq_true, decide_eq_true_eq] at h
  omega
theorem back {ws : List W_glyph_Word} : ∀ x : E, x.snd = true → x.plain = true → Back ws x := by
  intro x
  induction x with
  | non => intro h; cases h
  | lit n =>
    intro h hp
    simp only [E.snd, decide_eq_true_eq] at h
    refine back_one rfl fun a hg => ?_
    obtain ⟨⟨w, hw, hk, ht⟩, _⟩ := hg
    have := Pr.sNum hw hk
    rw [ht, num_dec (by omega)] at this
    rw [Int.toNat_of_nonneg h.1] at this
    exact this
  | ref s =>
    intro h hp
    refine back_one rfl fun a hg => ?_
    obtain ⟨⟨w, hw, hk, ht⟩, _⟩ := hg
    have := Pr.sRef hw hk (by rw [ht]; simpa [E.plain, E.names] using hp)
    rw [ht] at this
    exact this
  | not x ih =>
    intro h hp
    have b := ih h hp
    refine back_one rfl fun a hg => ?_
    obtain ⟨⟨w, hw, hk, ht⟩, g⟩ := hg
    have := Pr.sNot hw hk ht (back_one_wrp b (str_pos h) g)
    simp only [E.tks, List.length_cons]
    rw [show a + ((wrk x.str 6 x.tks).length + 1) = a + 1 + (wrk x.str 6 x.tks).length by omega]
    exact this
  | neg x ih =>
    intro h hp
    have b := ih h hp
    refine back_one rfl fun a hg => ?_
    obtain ⟨⟨w, hw, hk, ht⟩, g⟩ := hg
    have := Pr.sNeg hw hk ht (back_one_wrp b (str_pos h) g)
    simp only [E.tks, List.length_cons]
    rw [show a + ((wrk x.str 6 x.tks).length + 1) = a + 1 + (wrk x.str 6 x.tks).length by omega]
    exact this
  | bin op l r ih1 ih2 =>
    intro h hp
    simp only [E.snd, Bool.and_eq_true, decide_eq_true_eq] at h
    have hpp := plain_bin hp
    have b1 := ih1 h.1.2 hpp.1
    have b2 := ih2 h.2 hpp.2
    have hl5 := lvl_le op
    refine ⟨fun h6 => by simp only [E.str] at h6; omega, fun a k z a2 b2' hg hk hw hz => ?_⟩
    simp only [E.str] at hk hw
    simp only [E.tks] at hg hw hz
    obtain ⟨g1, ⟨w, hw1, hwk, hwt⟩, g2⟩ := Seg.app hg
    rw [List.length_append, List.length_cons] at hw hz
    generalize hnl : (wrk l.str (lft (lvl op)) l.tks).length = nl at g1 hw1 g2 hw hz
    generalize hnr : (wrk r.str (lvl op + 1) r.tks).length = nr at hw hz
    have hlft : lvl op ≤ lft (lvl op) ∧ lft (lvl op) ≤ 6 := by unfold lft; split <;> omega
    -- the right one
    have er : a + nl + 1 + nr = a + (nl + (nr + 1)) := by omega
    obtain ⟨yr, ar, br, r1, r2⟩ := back_wrp b2 (str_pos h.2) (lvl op + 1) (by omega) (a + nl + 1) (lvl op + 1) r (a + (nl + (nr + 1))) false g2 (by omega)
      (by rw [hnr, er]; exact fun u hu hk' => by have := hw u hu hk'; omega)
      (by rw [hnr, er]; exact Pr.lEnd (fun u hu hk' => .inl (by have := hw u hu hk'; omega)))
    have hy := Pr.clm r1 r2
    -- the left one
    have hbin : ∀ m, lvl op ≤ m → Pr ws (.lp k m l (a + nl) false) z a2 b2' := by
      intro m hm
      refine Pr.lBin hw1 hwk (by rw [hwt]; exact hk) (by rw [hwt]; exact hm) (by rw [hwt]; exact hy) ?_
      rw [hwt]
      simp only [most, E.str] at hz
      exact hz
    refine back_wrp b1 (str_pos h.1.2) (lft (lvl op)) hlft.2 a k z a2 b2' g1 (by omega) ?_ ?_
    · rw [hnl]
      intro u hu hk'
      rw [hw1] at hu
      cases hu
      rw [hwt]
      exact hlft.1
    · rw [hnl]
      refine hbin _ ?_
      split
      · omega
      · rename_i hge
        unfold most
        split
        · rename_i h3
          unfold lft at hge
          split at hge <;> omega
        · omega
theorem read_back {ws : List W_glyph_Word} {x : E} (hx : x.ok = true) (hp : x.plain = true) (hg : ws.map key = x.tks) : Pr ws (.cl 1 0) x ws.length false := by
  have h := ok_parts hx
  have hs := seg_all _ 0 x.tks (by rw [List.drop_zero]; exact hg) rfl
  have hlen : ws.length = x.tks.length := by rw [← hg, List.length_map]
  have hn : ws[x.tks.length]? = none := List.getElem?_eq_none (by omega)
  obtain ⟨y, a1, b1, e1, e2⟩ := (back (ws := ws) x h.2 hp).all 0 1 x ws.length false hs (str_pos h.2) (fun w hw => by rw [Nat.zero_add, hn] at hw; cases hw)
    (by rw [Nat.zero_add, hlen]; exact Pr.lEnd (fun w hw => by rw [hn] at hw; cases hw))
  exact .clm e1 e2
theorem read_brk {ws : List W_glyph_Word} {x : E} (hx : x.ok = true) (hp : x.plain = true) (hg : ws.map key = (3, bs [40]) :: x.tks ++ [(3, bs [41])]) : Pr ws (.cl 1 0) x ws.length false := by
  have h := ok_parts hx
  have hs := seg_all (ws := ws) _ 0 ((3, bs [40]) :: x.tks ++ [(3, bs [41])]) (by rw [List.drop_zero]; exact hg) rfl
  have hlen : ws.length = x.tks.length + 2 := by rw [← List.length_map (f := key), hg]; simp
  have hn : ws[ws.length]? = none := List.getElem?_eq_none (by omega)
  have e1 := back_par (back (ws := ws) x h.2 hp) (str_pos h.2) hs
  rw [Nat.zero_add, ← hlen] at e1
  exact .clm e1 (Pr.lEnd (fun w hw => by rw [hn] at hw; cases hw))
/-- What was read has no reserved names. -/
theorem pr_plain {ws : List W_glyph_Word} {t : Tag} {x : E} {a : Nat} {b : Bool} (h : Pr ws t x a b) : (match t with | .lp _ _ y _ b' => b' = false → y.plain = true | _ => True) → b = false → x.plain = true := by
  induction h with
  | sEnd h => exact fun _ hb => by cases hb
  | sNum h hk => exact fun _ _ => by simp [E.plain, E.names]
  | sRef h hk hr => exact fun _ _ => by simp [E.plain, E.names, hr]
  | sNot h hk ht hx ih => exact fun _ hb => by have := ih trivial hb; simpa [E.plain, E.names] using this
  | sNeg h hk ht hx ih => exact fun _ hb => by have := ih trivial hb; simpa [E.plain, E.names] using this
  | sPar h hk ht hx h' hv ih => exact fun _ _ => ih trivial rfl
  | sParN h hk ht hx hb ih => exact fun _ hb => by cases hb
  | sBad h hk => exact fun _ hb => by cases hb
  | clm h h' ih ih' => exact fun _ hb => ih' (fun hb' => ih trivial hb') hb
  | lBad => exact fun _ hb => by cases hb
  | lEnd h => exact fun hy _ => hy rfl
  | lBin h hk h1 h2 hy hz ihy ihz =>
    intro hx hb
    refine ihz (fun hb1 => ?_) hb
    have e1 := hx rfl
    have e2 := ihy trivial hb1
    simp [E.plain, E.names] at e1 e2 ⊢
    exact ⟨e1, e2⟩
end Go.Proofs.YthcaodlfnlhfbaaGreatDoorT

/- The library's numerals of whole numbers (the shelf's contract). -/
namespace Go.Proofs
open Go.Shelf Go.RowKit Go.Sort Go.Lib
def Tryz.laysFmtI_ren : Go.Shelf.Ren := ⟨fun | 246 => 48 | 283 => 65 | 284 => 66 | 285 => 67 | 286 => 68 | 129 => 83 | 317 => 82 | 318 => 84 | 319 => 85 | 320 => 86 | 337 => 105 | 338 => 106 | n => n, fun | 2 => 2 | 3 => 3 | 9 => 9 | 4 => 4 | 171 => 109 | 0 => 0 | 53 => 110 | 37 => 113 | 5 => 5 | 173 => 114 | 212 => 129 | 51 => 130 | 20 => 20 | 213 => 131 | 46 => 127 | 232 => 160 | 233 => 161 | n => n, fun | 17 => 0 | 18 => 1 | 19 => 2 | n => n⟩
theorem Tryz.laysFmtI : Go.Proofs.LaysM.n246 Tryz.prog Tryz.laysFmtI_ren where
  mixed := by kernel_rfl
  f129 := Tryz.func83.trans (congrArg some (by kernel_rfl))
  f246 := Tryz.func48.trans (congrArg some (by kernel_rfl))
  f283 := Tryz.func65.trans (congrArg some (by kernel_rfl))
  f284 := Tryz.func66.trans (congrArg some (by kernel_rfl))
  f285 := Tryz.func67.trans (congrArg some (by kernel_rfl))
  f286 := Tryz.func68.trans (congrArg some (by kernel_rfl))
  f317 := Tryz.func82.trans (congrArg some (by kernel_rfl))
  f318 := Tryz.func84.trans (congrArg some (by kernel_rfl))
  f319 := Tryz.func85.trans (congrArg some (by kernel_rfl))
  f320 := Tryz.func86.trans (congrArg some (by kernel_rfl))
  f337 := Tryz.func105.trans (congrArg some (by kernel_rfl))
  f338 := Tryz.func106.trans (congrArg some (by kernel_rfl))
  t0 := Tryz.underlying0
  a0 := Tryz.isAgg0
  z0 := Tryz.sizeOf0
  v0 := Tryz.zeroValue0
  t2 := Tryz.underlying2
  a2 := Tryz.isAgg2
  z2 := Tryz.sizeOf2
  v2 := Tryz.zeroValue2
  t3 := Tryz.underlying3
  a3 := Tryz.isAgg3
  z3 := Tryz.sizeOf3
  v3 := Tryz.zeroValue3
  t4 := Tryz.underlying4
  a4 := Tryz.isAgg4
  z4 := Tryz.sizeOf4
  v4 := Tryz.zeroValue4
  t5 := Tryz.underlying5
  a5 := Tryz.isAgg5
  z5 := Tryz.sizeOf5
  v5 := Tryz.zeroValue5
  t9 := Tryz.underlying9
  a9 := Tryz.isAgg9
  z9 := Tryz.sizeOf9
  v9 := Tryz.zeroValue9
  t20 := Tryz.underlying20
  a20 := Tryz.isAgg20
  z20 := Tryz.sizeOf20
  v20 := Tryz.zeroValue20
  t37 := Tryz.underlying113
  a37 := Tryz.isAgg113
  z37 := Tryz.sizeOf113
  v37 := Tryz.zeroValue113
  t46 := Tryz.underlying127
  a46 := Tryz.isAgg127
  z46 := Tryz.sizeOf127
  v46 := Tryz.zeroValue127
  t51 := Tryz.underlying130
  a51 := Tryz.isAgg130
  z51 := Tryz.sizeOf130
  v51 := Tryz.zeroValue130
  t53 := Tryz.underlying110
  a53 := Tryz.isAgg110
  z53 := Tryz.sizeOf110
  v53 := Tryz.zeroValue110
  t171 := Tryz.underlying109
  a171 := Tryz.isAgg109
  z171 := Tryz.sizeOf109
  v171 := Tryz.zeroValue109
  t173 := Tryz.underlying114
  a173 := Tryz.isAgg114
  z173 := Tryz.sizeOf114
  v173 := Tryz.zeroValue114
  t212 := Tryz.underlying129
  a212 := Tryz.isAgg129
  z212 := Tryz.sizeOf129
  v212 := Tryz.zeroValue129
  t213 := Tryz.underlying131
  a213 := Tryz.isAgg131
  z213 := Tryz.sizeOf131
  t232 := Tryz.underlying160
  a232 := Tryz.isAgg160
  z232 := Tryz.sizeOf160
  v232 := Tryz.zeroValue160
  t233 := Tryz.underlying161
  a233 := Tryz.isAgg161
  z233 := Tryz.sizeOf161
  v233 := Tryz.zeroValue161
  g17 := by kernel_rfl
  g18 := by kernel_rfl
  g19 := by kernel_rfl
  i0 := by kernel_rfl
  i2 := by kernel_rfl
  i3 := by kernel_rfl
  i4 := by kernel_rfl
  i5 := by kernel_rfl
  i9 := by kernel_rfl
  i20 := by kernel_rfl
  i37 := by kernel_rfl
  i46 := by kernel_rfl
  i51 := by kernel_rfl
  i53 := by kernel_rfl
  i171 := by kernel_rfl
  i173 := by kernel_rfl
  i212 := by kernel_rfl
  i232 := by kernel_rfl
  i233 := by kernel_rfl
  m17 := by kernel_rfl
  m18 := by kernel_rfl
  m19 := by kernel_rfl
namespace YthcaodlfnlhfbaaGreatDoorT
set_option linter.unusedVariables false
theorem runsItoa (n : Int) (h0 : -9223372036854775808 ≤ n) (h1 : n ≤ 9223372036854775807) : Runs Tryz.prog 48 [i64 n, i64 10] (st ⟨(Lib.itoa n).toArray⟩, [.dead, .dead]) :=
  runs_of_calls (us := [.int .i64 n, .int .i64 10]) ⟨Tryz.f48, Tryz.func48, by decide, by kernel_rfl⟩ (by simp [plainV]) fun w hG =>
    (Any.internal_strconv_FormatInt_10 Tryz.laysFmtI n h0 h1 w (glob_pow hG)).mono fun e w' ⟨he, k, os, hw⟩ => ⟨by rw [hw]; exact Lib.below_grow _ _ (Nat.le_refl _) _ _, _, he, fun ok => X_s rfl⟩
theorem runs48 (n : Nat) (h : n ≤ 1000000000) : Runs Tryz.prog 48 [i64 n, i64 10] (st ⟨(Lib.decDigits n).toArray⟩, [.dead, .dead]) := by
  have := runsItoa n (by omega) (by omega)
  rw [Lib.itoa_nonneg] at this
  exact this
end YthcaodlfnlhfbaaGreatDoorT
end Go.Proofs

/- The text of an expression, by the program. -/
namespace Go.Proofs.YthcaodlfnlhfbaaGreatDoorT
open Go Go.Proofs
set_option linter.unusedVariables false
theorem r49 (x : E) : Rn 49 [x.v.v] (i64 (x.str : Int), [.dead]) := by
  cases x with
  | bin op l r => exact f49 _ _ (cT rfl ⟨⟨op, l.v, r.v⟩, rfl, _, r33 op, rfl⟩)
  | _ => exact f49 _ _ (cF rfl rfl)
theorem small_of {x : E} (hs : x.snd = true) (hn : x.nodes ≤ 40) : x.txt.size ≤ 4000 := by
  have := txt_size x hs
  omega
theorem r32 {x : E} (h : Rn 19 [x.v.v] (st x.txt, [.dead])) (hz : x.txt.size ≤ 4000) (m : Nat) : Rn 32 [x.v.v, i64 (m : Int)] (st (wrp x.str m x.txt), [.dead, .dead]) := by
  refine f32 _ _ _ ⟨_, h, _, r49 x, cd (fun hm => ?_) (fun hm => ⟨by rw [size_bs]; simp; omega, by rw [size_append, size_bs, size_bs]; simp; omega, ?_⟩)⟩
  · rw [wrp, if_neg (by omega)]
  · rw [wrp, if_pos (by omega)]
theorem r31 {n : Int} (h : 0 ≤ n ∧ n ≤ 1000000000) : Rn 31 [i64 n, i64 10] (st (dec n.toNat), [.dead, .dead]) := by
  have := runs48 n.toNat (by omega)
  rw [Int.toNat_of_nonneg h.1] at this
  exact f31 _ _ _ ⟨_, this, rfl⟩
theorem r19 : ∀ x : E, x.snd = true → x.nodes ≤ 40 → Rn 19 [x.v.v] (st x.txt, [.dead]) := by
  intro x
  induction x with
  | non => intro h; cases h
  | lit n =>
    intro h hn
    simp only [E.snd, decide_eq_true_eq] at h
    exact f19 _ _ (cT rfl ⟨⟨n⟩, rfl, _, r31 h, rfl⟩)
  | ref s => exact fun h hn => f19 _ _ (cF rfl (cT rfl ⟨⟨s⟩, rfl, rfl⟩))
  | not x ih =>
    intro h hn
    simp only [E.nodes] at hn
    have hz := small_of (x := x) h (by omega)
    have := wrp_size x.str 6 x.txt
    exact f19 _ _ (cF rfl (cF rfl (cT rfl ⟨⟨x.v⟩, rfl, _, r32 (ih h (by omega)) hz 6, by rw [size_bs]; simp; omega, rfl⟩)))
  | neg x ih =>
    intro h hn
    simp only [E.nodes] at hn
    have hz := small_of (x := x) h (by omega)
    have := wrp_size x.str 6 x.txt
    exact f19 _ _ (cF rfl (cF rfl (cF rfl (cT rfl ⟨⟨x.v⟩, rfl, _, r32 (ih h (by omega)) hz 6, by rw [size_bs]; simp; omega, rfl⟩))))
  | bin op l r ih1 ih2 =>
    intro h hn
    simp only [E.nodes] at hn
    simp only [E.snd, Bool.and_eq_true, decide_eq_true_eq] at h
    have hl := small_of h.1.2 (by omega)
    have hr := small_of h.2 (by omega)
    have hop := lvl_size h.1.1
    have hle := lvl_le op
    have w1 := wrp_size l.str (lft (lvl op)) l.txt
    have w2 := wrp_size r.str (lvl op + 1) r.txt
    have a1 := r32 (ih1 h.1.2 (by omega)) hl (lft (lvl op))
    have a2 := r32 (ih2 h.2 (by omega)) hr (lvl op + 1)
    have e1 : IntKind.wrap .i64 ((lvl op : Int) + 1) = ((lvl op + 1 : Nat) : Int) := wS (by omega)
    refine f19 _ _ (cF rfl (cF rfl (cF rfl (cF rfl (cT rfl ⟨⟨op, l.v, r.v⟩, rfl, _, r33 op, cd (fun h3 => ?_) (fun h3 => ?_)⟩)))))
    · have h3 : lvl op = 3 := by omega
      have e2 : lft (lvl op) = lvl op + 1 := by rw [h3]; rfl
      rw [e1]
      rw [e2] at a1 w1
      refine ⟨_, a1, ?_, ?_, ?_, _, a2, ?_, ?_⟩
      all_goals try (simp only [size_append, size_bs]; simp; omega)
      rw [E.txt, e2]
    · have h3 : lvl op ≠ 3 := by omega
      have e2 : lft (lvl op) = lvl op := by rw [lft, if_neg h3]
      rw [e1]
      rw [e2] at a1 w1
      refine ⟨_, a1, ?_, ?_, ?_, _, a2, ?_, ?_⟩
      all_goals try (simp only [size_append, size_bs]; simp; omega)
      rw [E.txt, e2]
end Go.Proofs.YthcaodlfnlhfbaaGreatDoorT
