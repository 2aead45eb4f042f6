/- InterpEvals: what the law's function comes to; at what a law is handed. -/
import Derived.Test.YthcaodlfnlhfbaaY9
import Derived.Test.YthcaodlfnlhfbaaD
namespace Go.Proofs.YthcaodlfnlhfbaaT
open Go Go.Proofs Go.RowKit
set_option linter.unusedVariables false
theorem run_sem (V : List W_api_Var) (hV : V.length ≤ 1000) (x : E) (hs : x.snd = true) (hn40 : x.nodes ≤ 40) (hn : ∀ s ∈ x.names, ¬ ix s 0 V < 0) :
    Rn 15 [.sl 2 (iv (cde V x)), .sl 1 ((V.map fun v => v.fN).map fun n => i64 n)] (.tup [i64 (match sem V x with | .ok n => n | .error _ => 0), i64 (match sem V x with | .ok _ => 0 | .error c => c)], [.dead, .dead]) := by
  have hl := cde_len V x hs
  have ht := trace V hV (cde V x) x hs hn 0 [] (fun k i h => by rw [Nat.zero_add]; exact h) (by omega) (by simp; omega)
  have hc := (sem_in V x hs).2
  rw [Nat.zero_add] at ht
  cases hx : sem V x with
  | ok n =>
    rw [hx] at ht
    exact run_rn (cde V x) _ [n] 0 (ht [n] 0 (Tr.fin rfl)) hl.1 (by omega) (fun _ => rfl)
  | error c =>
    rw [hx] at ht
    obtain ⟨s2, h⟩ := ht
    have hc0 := hc c hx
    have := run_rn (cde V x) _ s2 c h hl.1 (by omega) (fun h => absurd h hc0)
    rw [if_neg hc0] at this
    exact this
theorem rv10 : Rn 10 [] (tb true, []) := by
  have h := run_sem [] (by simp) (.lit 5) (by decide) (by decide) (fun s hs => by simp [E.names] at hs)
  exact f10 _ ⟨_, _, h, cT rfl rfl⟩
/-- A raw expression, as the program has it. -/
theorem rawP : ∀ (m : Nat) (w : W_tumbrelref04_Node), ByteArray.size w.fS ≤ maxLen → SlT Try.prog m 46 w.fParts → ∃ x : E, x.wf ∧ Rn 13 [w.t] (x.v.v, [.dead]) := by
  intro m
  induction m using Nat.strongRecOn with
  | _ m ih =>
    intro w hS hs
    have hl := Nat.le_trans hs.len maxLen_lt
    have part : ∀ i : Nat, i ≤ 1 → ∃ x : E, x.wf ∧ Rn 31 [i64 (i : Int), .cbox 46 [i64 w.fKind, i64 w.fN, st w.fS, .sl 4 w.fParts]] (x.v.v, [.dead, .cbox 46 [i64 w.fKind, i64 w.fN, st w.fS, .sl 4 w.fParts]]) := by
      intro i hi1
      by_cases hi : i < w.fParts.length
      · obtain ⟨y, hx, hy⟩ := hs.get (List.getElem?_eq_getElem hi)
        obtain ⟨w1, hw1, _, _, hS1, m', hm', hs'⟩ := d46 hy
        obtain ⟨x, hwf, h20⟩ := ih m' hm' w1 hS1 hs'
        rw [hw1] at hx
        have hg : w.fParts[i]? = some w1.t := by rw [List.getElem?_eq_getElem hi, hx]
        exact ⟨x, hwf, f31 _ _ _ _ _ _ (cT (by simp; omega) ⟨w1, ⟨by omega, by rw [toN]; exact hg⟩, _, h20, rfl⟩)⟩
      · exact ⟨.non, trivial, f31 _ _ _ _ _ _ (cF (by simp; omega) rfl)⟩
    obtain ⟨x0, wf0, h0⟩ := part 0 (by omega)
    obtain ⟨x1, wf1, h1⟩ := part 1 (by omega)
    by_cases k1 : w.fKind = 1
    · exact ⟨.lit w.fN, trivial, f13 _ _ (cT (by simpa using k1) rfl)⟩
    by_cases k2 : w.fKind = 2
    · exact ⟨.ref w.fS, hS, f13 _ _ (cF (by simpa using k1) (cT (by simpa using k2) rfl))⟩
    by_cases k3 : w.fKind = 3
    · exact ⟨.not x0, wf0, f13 _ _ (cF (by simpa using k1) (cF (by simpa using k2) (cT (by simpa using k3) ⟨_, h0, rfl⟩)))⟩
    by_cases k4 : w.fKind = 4
    · exact ⟨.neg x0, wf0, f13 _ _ (cF (by simpa using k1) (cF (by simpa using k2) (cF (by simpa using k3) (cT (by simpa using k4) ⟨_, h0, rfl⟩))))⟩
    by_cases k5 : w.fKind = 5
    · exact ⟨.bin w.fS x0 x1, ⟨wf0, wf1⟩, f13 _ _ (cF (by simpa using k1) (cF (by simpa using k2) (cF (by simpa using k3) (cF (by simpa using k4) (cT (by simpa using k5) ⟨_, h0, rfl, _, h1, rfl, rfl⟩)))))⟩
    · exact ⟨.non, trivial, f13 _ _ (cF (by simpa using k1) (cF (by simpa using k2) (cF (by simpa using k3) (cF (by simpa using k4) (cF (by simpa using k5) rfl)))))⟩
theorem interpEvals_row {m : Nat} (w : W_tumbrelref04_Node) (hS : ByteArray.size w.fS ≤ maxLen) (hs : SlT Try.prog m 46 w.fParts) (V : List W_api_Var) (hVl : V.length ≤ maxLen) : Rn 4 [w.t, vv V] (tb true, [.dead, .dead]) := by
  have hm := Nat.le_trans hVl maxLen_lt
  obtain ⟨b, h11⟩ := r11 hs
  refine f4 _ _ _ ⟨_, rv10, cF rfl ⟨b, h11, cb (fun _ => ⟨_, rv10, rfl⟩) (fun _ => cd (fun _ => ⟨_, rv10, rfl⟩) (fun h100 => ?_))⟩⟩
  have hV : V.length ≤ 1000 := by simp at h100; omega
  obtain ⟨x, hw, h13⟩ := rawP m w hS hs
  have h12 := r12 refsSaid V hV x hw
  have fin : L4_0 (V.map W_api_Var.t) ((V.map fun v => v.fN).map fun n => i64 n) (((V.map W_api_Var.t).length : Nat) : Int) ((V.length : Nat) : Int) w (tb true, [.dead, .dead]) := by
    refine l4_0 _ _ _ _ _ _ (cF (by simp) ⟨_, h13, ?_⟩)
    unfold cdR at h12
    by_cases hk : x.ok = false
    · rw [if_pos hk] at h12
      exact ⟨_, _, h12, cT rfl rfl⟩
    · rw [if_neg hk] at h12
      by_cases hb : bare V x = true
      · rw [if_pos hb] at h12
        exact ⟨_, _, h12, cT rfl rfl⟩
      · rw [if_neg hb] at h12
        have hok : x.ok = true := by simpa using hk
        obtain ⟨h40, hsn⟩ := ok_parts hok
        have hn : ∀ s ∈ x.names, ¬ ix s 0 V < 0 := fun s hs h => hb (by
          simp only [bare, List.any_eq_true]
          exact ⟨s, hs, by simpa using h⟩)
        exact ⟨_, _, h12, cF rfl ⟨_, h13, _, _, rv14 V hV x hw hok hn, _, _, run_sem V hV x hsn h40 hn, cT (decide_eq_true (by cases sem V x <;> rfl)) (tbR (by cases sem V x <;> simp))⟩⟩
  have loop : ∀ (d k : Nat), k + d = V.length → L4_0 (V.map W_api_Var.t) (((V.take k).map fun v => v.fN).map fun n => i64 n) (((V.map W_api_Var.t).length : Nat) : Int) (k : Int) w (tb true, [.dead, .dead]) := by
    intro d
    induction d with
    | zero => intro k hk; rw [List.take_of_length_le (by omega), show k = V.length by omega]; exact fin
    | succ d ih =>
      intro k hk
      have hlt : k < V.length := by omega
      have h := ih (k + 1) (by omega)
      have e : ((V.take (k + 1)).map fun v => v.fN).map (fun n => i64 n) = ((V.take k).map fun v => v.fN).map (fun n => i64 n) ++ [i64 V[k].fN] := by
        rw [List.take_succ_eq_append_getElem hlt, List.map_append, List.map_append]
        rfl
      rw [e] at h
      refine l4_0 _ _ _ _ _ _ (cT (by simp; omega) ⟨V[k], ⟨by omega, getm hlt⟩, cd (fun _ => rfl) (fun _ => ⟨V[k], ⟨by omega, getm hlt⟩, ckn (by simp; omega) ?_⟩)⟩)
      rw [wS (by omega)]
      exact h
  have := loop V.length 0 (by omega)
  simpa using this
theorem vars_of {m : Nat} {xs : List T} (h : SlT Try.prog m 50 xs) : ∃ V : List W_api_Var, xs = V.map W_api_Var.t ∧ V.length ≤ maxLen := by
  obtain ⟨ys, rfl, hl, hy⟩ := h
  suffices ∃ V : List W_api_Var, ys.map (valT Try.prog 50) = V.map W_api_Var.t ∧ V.length = ys.length by
    obtain ⟨V, h1, h2⟩ := this
    exact ⟨V, h1, by omega⟩
  clear hl
  induction ys with
  | nil => exact ⟨[], rfl, rfl⟩
  | cons y ys ih =>
    obtain ⟨V, h1, h2⟩ := ih fun z hz => hy z (List.mem_cons_of_mem _ hz)
    obtain ⟨w, hw, _⟩ := d50 (hy y (by simp))
    exact ⟨w :: V, by simp [h1, hw], by simp [h2]⟩
theorem interpEvals_pure {n1 n2 : Nat} {t1 t2 : List T} (h1 : Ty Try.prog n1 46 t1) (h2 : Ty Try.prog n2 47 t2) : Rn 4 [valT Try.prog 46 t1, valT Try.prog 47 t2] (tb true, [.dead, .dead]) := by
  obtain ⟨w, e1, _, _, hS, m, _, hs⟩ := d46 h1
  obtain ⟨xs, e2, k, _, hx⟩ := d47 h2
  obtain ⟨V, rfl, hV⟩ := vars_of hx
  rw [e1, e2]
  exact interpEvals_row w hS hs V hV
end Go.Proofs.YthcaodlfnlhfbaaT
