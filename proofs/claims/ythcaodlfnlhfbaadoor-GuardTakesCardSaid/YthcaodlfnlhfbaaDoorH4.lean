/- The document's reader of expressions comes to what the words say, too. -/
import Derived.Test.YthcaodlfnlhfbaaDoorH2
namespace Go.Proofs.YthcaodlfnlhfbaaDoorT
open Go Go.Proofs
set_option linter.unusedVariables false
/-- As the document has it. -/
def E.d : E → W_tumbrelref04_Node
  | .non => ⟨0, 0, bs [], []⟩
  | .lit n => ⟨1, n, bs [], []⟩
  | .ref s => ⟨2, 0, s, []⟩
  | .not x => ⟨3, 0, bs [], [x.d.t]⟩
  | .neg x => ⟨4, 0, bs [], [x.d.t]⟩
  | .bin op l r => ⟨5, 0, op, [l.d.t, r.d.t]⟩
theorem r86 (s : ByteArray) : Rn 86 [st s] (i64 (lvl s), [.dead]) := by
  have hlv : ∀ k : Nat, lvl s = k → ((i64 (lvl s), [.dead]) : T × List T) = (i64 (k : Int), [.dead]) := fun k h => by rw [h]
  refine f86 _ _ (cd (fun h => hlv 1 (by subst h; decide)) (fun h1 => cd (fun h => hlv 2 (by subst h; decide)) (fun h2 => cd (fun h => hlv 3 (by subst h; decide)) (fun h3 => cd (fun h => hlv 3 (by subst h; decide)) (fun h4 =>
    cd (fun h => hlv 3 (by subst h; decide)) (fun h5 => cd (fun h => hlv 3 (by subst h; decide)) (fun h6 => cd (fun h => hlv 4 (by subst h; decide)) (fun h7 => cd (fun h => hlv 4 (by subst h; decide)) (fun h8 => cd (fun h => hlv 5 (by subst h; decide)) (fun h9 => hlv 0 ?_))))))))))
  unfold lvl
  simp_all
theorem r104 (s : ByteArray) : Rn 104 [st s] (tb (resv s), [.dead]) := by
  have yes : s ∈ RS → resv s = true := fun h => List.any_eq_true.2 ⟨s, h, by simp⟩
  refine f104 _ _ ?_
  refine cd (fun h => tbR (yes (by subst h; simp [RS]))) (fun h1 => ?_)
  refine cd (fun h => tbR (yes (by subst h; simp [RS]))) (fun h2 => ?_)
  refine cd (fun h => tbR (yes (by subst h; simp [RS]))) (fun h3 => ?_)
  refine cd (fun h => tbR (yes (by subst h; simp [RS]))) (fun h4 => ?_)
  refine cd (fun h => tbR (yes (by subst h; simp [RS]))) (fun h5 => ?_)
  refine cd (fun h => tbR (yes (by subst h; simp [RS]))) (fun h6 => ?_)
  refine cd (fun h => tbR (yes (by subst h; simp [RS]))) (fun h7 => ?_)
  refine cd (fun h => tbR (yes (by subst h; simp [RS]))) (fun h8 => ?_)
  refine cd (fun h => tbR (yes (by subst h; simp [RS]))) (fun h9 => ?_)
  refine cd (fun h => tbR (yes (by subst h; simp [RS]))) (fun h10 => ?_)
  refine cd (fun h => tbR (yes (by subst h; simp [RS]))) (fun h11 => ?_)
  refine cd (fun h => tbR (yes (by subst h; simp [RS]))) (fun h12 => ?_)
  refine cd (fun h => tbR (yes (by subst h; simp [RS]))) (fun h13 => tbR ?_)
  simp only [resv, RS, List.any_cons, List.any_nil, h1, h2, h3, h4, h5, h6, h7, h8, h9, h10, h11, h12, h13, decide_false, Bool.or_false]
/-- What can't go on: where. -/
def bd (a : Nat) (b : Bool) : Int := if b then (a : Int) else -1
abbrev rd (ws : List W_glyph_Word) (a : Nat) (b : Bool) : T := .cbox 114 [.sl 4 (ws.map W_glyph_Word.t), i64 (a : Int), i64 (bd a b)]
theorem r102 (ws : List W_glyph_Word) (a : Nat) (b : Bool) : Rn 102 [rd ws a b] (E.non.d.t, [rd ws a true]) := by
  cases b with
  | true => exact f102 _ _ _ _ (cF (by simp [bd]) rfl)
  | false => exact f102 _ _ _ _ (cT rfl rfl)
abbrev rw_ (w : W_glyph_Word) : W_tumbrelref03_Word := ⟨w.fKind, w.fText, w.fAt_Line, w.fAt_Col⟩
theorem getw {ws : List W_glyph_Word} {a : Nat} {w : W_glyph_Word} (h : ws[a]? = some w) : (ws.map W_glyph_Word.t)[Int.toNat (a : Int)]? = some (rw_ w).t := by rw [toN, List.getElem?_map, h]; rfl
theorem lenw {ws : List W_glyph_Word} {a : Nat} {w : W_glyph_Word} (h : ws[a]? = some w) : (a : Int) < (((ws.map W_glyph_Word.t).length : Nat) : Int) := by
  have := (List.getElem?_eq_some_iff.1 h).1
  simp; omega
theorem lenn {ws : List W_glyph_Word} {a : Nat} (h : ws[a]? = none) : (((ws.map W_glyph_Word.t).length : Nat) : Int) ≤ (a : Int) := by
  have := List.getElem?_eq_none_iff.1 h
  simp; omega
theorem r103 (ws : List W_glyph_Word) (a : Nat) (b : Bool) (s : ByteArray) : ∃ r : Bool, Rn 103 [rd ws a b, st s] (tb r, [rd ws a b, .dead]) ∧ (r = true ↔ b = false ∧ ∃ v, ws[a]? = some v ∧ v.fText = s) := by
  cases b with
  | true => exact ⟨false, f103 _ _ _ _ _ (cF (by simp [bd]) rfl), by simp⟩
  | false =>
    cases hg : ws[a]? with
    | none => exact ⟨false, f103 _ _ _ _ _ (cT rfl (cF (by have := lenn hg; simpa using this) rfl)), by simp⟩
    | some v => exact ⟨decide (v.fText = s), f103 _ _ _ _ _ (cT rfl (cT (by have := lenw hg; simpa using this) ⟨rw_ v, ⟨Int.natCast_nonneg _, getw hg⟩, rfl⟩)), by simp⟩
theorem kd_lvl {w : W_glyph_Word} (h : Kd w) (hk : w.fKind ≠ 3) : lvl w.fText = 0 ∧ w.fText ≠ bs [33] ∧ w.fText ≠ bs [45] ∧ w.fText ≠ bs [40] := by
  have key : ∀ s : ByteArray, nm s = false → numB s = false → w.fText ≠ s := by
    rintro s h1 h2 e
    rcases h with h | h | h
    · rw [e, h1] at h; cases h.2
    · rw [e, h2] at h; cases h.2
    · exact hk h
  have k1 := key (bs [124, 124]) (by decide +kernel) (by decide +kernel)
  have k2 := key (bs [38, 38]) (by decide +kernel) (by decide +kernel)
  have k3 := key (bs [60]) (by decide +kernel) (by decide +kernel)
  have k4 := key (bs [60, 61]) (by decide +kernel) (by decide +kernel)
  have k5 := key (bs [61, 61]) (by decide +kernel) (by decide +kernel)
  have k6 := key (bs [33, 61]) (by decide +kernel) (by decide +kernel)
  have k7 := key (bs [43]) (by decide +kernel) (by decide +kernel)
  have k8 := key (bs [45]) (by decide +kernel) (by decide +kernel)
  have k9 := key (bs [42]) (by decide +kernel) (by decide +kernel)
  refine ⟨?_, key _ (by decide +kernel) (by decide +kernel), k8, key _ (by decide +kernel) (by decide +kernel)⟩
  unfold lvl
  simp [k1, k2, k3, k4, k5, k6, k7, k8, k9]
section
variable {ws : List W_glyph_Word}
/-- The loop of a level, at its head. -/
structure LR (ws : List W_glyph_Word) (j : Nat) (y : E) (a : Nat) (c : Bool) (R : T × List T) : Prop where
  p : L58_0 (j : Int) ⟨ws.map W_glyph_Word.t, a, bd a c⟩ 0 0 (bs []) y.d R
  q : L58_0a (j : Int) ⟨ws.map W_glyph_Word.t, a, bd a c⟩ 0 0 (bs []) y.d.fKind y.d.fN y.d.fS y.d.fParts R
abbrev out (ws : List W_glyph_Word) (x : E) (a : Nat) (b : Bool) : T × List T := (x.d.t, [rd ws a b, .dead])
theorem LR.stop {j : Nat} {y : E} {a : Nat} {c : Bool} (h : c = true ∨ ∀ w, ws[a]? = some w → lvl w.fText ≠ j) : LR ws j y a c (out ws y a c) := by
  cases c with
  | true => exact ⟨l58_0 _ _ _ _ _ _ _ (cF (by simp [bd]) rfl), l58_0a _ _ _ _ _ _ _ _ _ _ (cF (by simp [bd]) rfl)⟩
  | false =>
    cases hg : ws[a]? with
    | none =>
      have hl := lenn hg
      exact ⟨l58_0 _ _ _ _ _ _ _ (cT rfl (cF (by simpa using hl) rfl)), l58_0a _ _ _ _ _ _ _ _ _ _ (cT rfl (cF (by simpa using hl) rfl))⟩
    | some w =>
      have hl := lenw hg
      have hn : lvl w.fText ≠ j := by
        rcases h with h | h
        · cases h
        · exact h w hg
      have hd : decide (((lvl w.fText : Nat) : Int) = (j : Int)) = false := decide_eq_false (by omega)
      exact ⟨l58_0 _ _ _ _ _ _ _ (cT rfl (cT (by simpa using hl) ⟨rw_ w, ⟨Int.natCast_nonneg _, getw hg⟩, _, r86 _, cF hd rfl⟩)), l58_0a _ _ _ _ _ _ _ _ _ _ (cT rfl (cT (by simpa using hl) ⟨rw_ w, ⟨Int.natCast_nonneg _, getw hg⟩, _, r86 _, cF hd rfl⟩))⟩
theorem LR.go {j : Nat} {y z : E} {a a1 : Nat} {b1 : Bool} {w : W_glyph_Word} {R : T × List T} (hn : ws.length ≤ 3000) (hg : ws[a]? = some w) (hj : lvl w.fText = j) (hz : Rn 58 [rd ws (a + 1) false, i64 ((j + 1 : Nat) : Int)] (out ws z a1 b1))
    (h : (j = 3 → R = out ws (.bin w.fText y z) a1 b1) ∧ (j ≠ 3 → LR ws j (.bin w.fText y z) a1 b1 R)) : LR ws j y a false R := by
  have hl := lenw hg
  have hi := (List.getElem?_eq_some_iff.1 hg).1
  have hle := lvl_le w.fText
  have hd : decide (((lvl w.fText : Nat) : Int) = (j : Int)) = true := decide_eq_true (by omega)
  have hz' : Rn 58 [.cbox 114 [.sl 4 (ws.map W_glyph_Word.t), i64 (IntKind.wrap .i64 ((a : Int) + 1)), i64 (bd a false)], i64 (IntKind.wrap .i64 ((j : Int) + 1))] (out ws z a1 b1) := by
    rw [wS (by omega), wS (by omega)]
    exact hz
  constructor
  · refine l58_0 _ _ _ _ _ _ _ (cT rfl (cT (by simpa using hl) ⟨rw_ w, ⟨Int.natCast_nonneg _, getw hg⟩, _, r86 _, cT hd ⟨rw_ w, ⟨Int.natCast_nonneg _, getw hg⟩, z.d, _, _, _, hz', cd (fun h3 => ?_) (fun h3 => ?_)⟩⟩))
    · exact h.1 (by omega)
    · exact (h.2 (by omega)).q
  · refine l58_0a _ _ _ _ _ _ _ _ _ _ (cT rfl (cT (by simpa using hl) ⟨rw_ w, ⟨Int.natCast_nonneg _, getw hg⟩, _, r86 _, cT hd ⟨rw_ w, ⟨Int.natCast_nonneg _, getw hg⟩, z.d, _, _, _, hz', cd (fun h3 => ?_) (fun h3 => ?_)⟩⟩))
    · exact h.1 (by omega)
    · exact (h.2 (by omega)).q
/-- The loops of a level and of the weaker ones, down to one. -/
def Chain (ws : List W_glyph_Word) (k : Nat) : Nat → E → Nat → Bool → E → Nat → Bool → Prop
  | 0, y, a, c, x, a', b => y = x ∧ a = a' ∧ c = b
  | j + 1, y, a, c, x, a', b => (j + 1 < k ∧ y = x ∧ a = a' ∧ c = b) ∨ (k ≤ j + 1 ∧ ∃ y1 a1 c1, LR ws (j + 1) y a c (out ws y1 a1 c1) ∧ Chain ws k j y1 a1 c1 x a' b)
theorem chain_stop {k : Nat} {y : E} {a : Nat} {c : Bool} : ∀ j : Nat, (c = true ∨ ∀ w, ws[a]? = some w → lvl w.fText < k ∨ j < lvl w.fText) → Chain ws k j y a c y a c
  | 0, h => ⟨rfl, rfl, rfl⟩
  | j + 1, h => by
    rcases Nat.lt_or_ge (j + 1) k with g | g
    · exact .inl ⟨g, rfl, rfl, rfl⟩
    · refine .inr ⟨g, y, a, c, LR.stop (h.imp id fun h w hw => by have := h w hw; omega), chain_stop j (h.imp id fun h w hw => by have := h w hw; omega)⟩
theorem chain_go {k l : Nat} {y z x : E} {a a1 a' : Nat} {b1 b : Bool} {w : W_glyph_Word} (hn : ws.length ≤ 3000) (hg : ws[a]? = some w) (hl : lvl w.fText = l) (hk : 1 ≤ k) (hkl : k ≤ l) (hz : Rn 58 [rd ws (a + 1) false, i64 ((l + 1 : Nat) : Int)] (out ws z a1 b1))
    (h : Chain ws k (if l = 3 then 2 else l) (.bin w.fText y z) a1 b1 x a' b) : ∀ j : Nat, l ≤ j → Chain ws k j y a false x a' b
  | 0, hj => by omega
  | j + 1, hj => by
    refine .inr ⟨by omega, ?_⟩
    by_cases hlj : l = j + 1
    · by_cases h3 : l = 3
      · rw [if_pos h3] at h
        have hj2 : j = 2 := by omega
        subst hj2
        exact ⟨.bin w.fText y z, a1, b1, LR.go hn hg (by omega) (by rw [← hlj]; exact hz) ⟨fun _ => rfl, fun h => absurd rfl h⟩, h⟩
      · rw [if_neg h3] at h
        subst hlj
        rcases h with h | ⟨_, y1, a2, c2, h1, h2⟩
        · omega
        · exact ⟨y1, a2, c2, LR.go hn hg hl hz ⟨fun h => absurd h h3, fun _ => h1⟩, h2⟩
    · exact ⟨y, a, false, LR.stop (.inr fun v hv => by rw [hg] at hv; cases hv; omega), chain_go hn hg hl hk hkl hz h j (by omega)⟩
theorem bin_of_chain {k a : Nat} {x : E} {a' : Nat} {b : Bool} (hk : 1 ≤ k) : ∀ (j : Nat) (y : E) (a1 : Nat) (c1 : Bool), j ≤ 5 → k ≤ j + 1 → Rn 58 [rd ws a false, i64 ((j + 1 : Nat) : Int)] (out ws y a1 c1) → Chain ws k j y a1 c1 x a' b → Rn 58 [rd ws a false, i64 (k : Int)] (out ws x a' b)
  | 0, y, a1, c1, h5, hkj, h, hc => by
    obtain ⟨rfl, rfl, rfl⟩ := hc
    rw [show k = 0 + 1 by omega]
    exact h
  | j + 1, y, a1, c1, h5, hkj, h, hc => by
    rcases hc with ⟨h1, rfl, rfl, rfl⟩ | ⟨h1, y1, a2, c2, h2, h3⟩
    · rw [show k = j + 1 + 1 by omega]
      exact h
    · refine bin_of_chain hk j y1 a2 c2 (by omega) h1 ?_ h3
      refine f58 _ _ _ _ _ (cF (by simp; omega) ⟨y.d, _, _, _, ?_, h2.p⟩)
      rw [wS (by omega)]
      exact h
end
/-- What is to be shown of the document's functions. -/
def MdD (ws : List W_glyph_Word) : Tag → E → Nat → Bool → Prop
  | .sg a, x, a', b => Rn 85 [rd ws a false] (x.d.t, [rd ws a' b])
  | .cl k a, x, a', b => 1 ≤ k → k ≤ 6 → Rn 58 [rd ws a false, i64 (k : Int)] (out ws x a' b)
  | .lp k m y a c, x, a', b => 1 ≤ k → ∀ j, j ≤ 5 → (j = m ∨ (j = 5 ∧ 5 ≤ m)) → Chain ws k j y a c x a' b
theorem pr_doc {ws : List W_glyph_Word} (hw : ∀ w ∈ ws, Kd w) (hn : ws.length ≤ 3000) {t : Tag} {x : E} {a' : Nat} {b : Bool} (h : Pr ws t x a' b) : MdD ws t x a' b := by
  have idx : ∀ {a : Nat} {w : W_glyph_Word}, ws[a]? = some w → a < 3000 := fun h => by have := (List.getElem?_eq_some_iff.1 h).1; omega
  induction h with
  | sEnd h => exact f85 _ _ _ _ (cF rfl (cT (by have := lenn h; simpa using this) ⟨_, _, _, _, r102 ws _ false, rfl⟩))
  | @sNum a w h hk =>
    have hi := idx h
    have hl := lenw h
    have hkd := hw w (List.mem_of_getElem? h)
    obtain ⟨h0, h1, h2, h3⟩ := kd_lvl hkd (by omega)
    have hv : numB w.fText = true := by
      rcases hkd with h | h | h
      · omega
      · exact h.2
      · omega
    have h78 : Rn 78 [st w.fText] (.tup [i64 ((numV w.fText).getD 0), tb (numB w.fText)], [.dead]) := by
      rcases r78 w.fText with h | ⟨h, _⟩
      · exact h
      · rw [hv] at h; cases h
    refine f85 _ _ _ _ (cF rfl (cF (by simp at hl ⊢; omega) ⟨rw_ w, ⟨Int.natCast_nonneg _, getw h⟩, cF (by simpa using h1) (cF (by simpa using h2) (cF (by simpa using h3) (cT (by simp [hk]) ⟨_, _, h78, ?_⟩)))⟩))
    rw [wS (by omega)]
    rfl
  | @sRef a w h hk hr =>
    have hi := idx h
    have hl := lenw h
    obtain ⟨h0, h1, h2, h3⟩ := kd_lvl (hw w (List.mem_of_getElem? h)) (by omega)
    have h104 := r104 w.fText
    rw [hr] at h104
    refine f85 _ _ _ _ (cF rfl (cF (by simp at hl ⊢; omega) ⟨rw_ w, ⟨Int.natCast_nonneg _, getw h⟩, cF (by simpa using h1) (cF (by simpa using h2) (cF (by simpa using h3) (cF (by simp [hk]) (cT (by simp [hk]) ⟨_, h104, cT rfl ?_⟩))))⟩))
    rw [wS (by omega)]
    rfl
  | @sNot a a1 w x b h hk ht hx ih =>
    have hi := idx h
    have hl := lenw h
    refine f85 _ _ _ _ (cF rfl (cF (by simp at hl ⊢; omega) ⟨rw_ w, ⟨Int.natCast_nonneg _, getw h⟩, cT (by simp [ht]) (cF (by simp only [ht]; decide) ⟨x.d, _, _, _, ?_, rfl⟩)⟩))
    rw [wS (by omega)]
    exact ih
  | @sNeg a a1 w x b h hk ht hx ih =>
    have hi := idx h
    have hl := lenw h
    refine f85 _ _ _ _ (cF rfl (cF (by simp at hl ⊢; omega) ⟨rw_ w, ⟨Int.natCast_nonneg _, getw h⟩, cF (by simp only [ht]; decide) (cT (by simp [ht]) (cT (by simp [ht]) ⟨x.d, _, _, _, ?_, rfl⟩))⟩))
    rw [wS (by omega)]
    exact ih
  | @sPar a a1 w v x h hk ht hx h' hv ih =>
    have hi := idx h
    have hi' := idx h'
    have hl := lenw h
    obtain ⟨r, h103, hr⟩ := r103 ws a1 false (bs [41])
    have hr := hr.2 ⟨rfl, v, h', hv⟩
    subst hr
    refine f85 _ _ _ _ (cF rfl (cF (by simp at hl ⊢; omega) ⟨rw_ w, ⟨Int.natCast_nonneg _, getw h⟩, cF (by simp only [ht]; decide) (cF (by simp only [ht]; decide) (cT (by simp [ht]) ⟨x.d, _, _, _, ?_, _, _, _, _, h103, cF rfl ?_⟩))⟩))
    · rw [wS (by omega)]
      exact ih (by omega) (by omega)
    · rw [wS (by omega)]
      rfl
  | @sParN a a1 w x b h hk ht hx hb ih =>
    have hi := idx h
    have hl := lenw h
    obtain ⟨r, h103, hr⟩ := r103 ws a1 b (bs [41])
    have hr : r = false := by
      cases r with
      | false => rfl
      | true =>
        obtain ⟨e, v, hv, hv'⟩ := hr.1 rfl
        exact absurd hv' (hb e v hv)
    subst hr
    refine f85 _ _ _ _ (cF rfl (cF (by simp at hl ⊢; omega) ⟨rw_ w, ⟨Int.natCast_nonneg _, getw h⟩, cF (by simp only [ht]; decide) (cF (by simp only [ht]; decide) (cT (by simp [ht]) ⟨x.d, _, _, _, ?_, _, _, _, _, h103, cT rfl ⟨E.non.d, _, _, _, r102 ws a1 b, rfl⟩⟩))⟩))
    rw [wS (by omega)]
    exact ih (by omega) (by omega)
  | @sBad a w h hk =>
    have hi := idx h
    have hl := lenw h
    have hne : w.fText ≠ bs [33] ∧ w.fText ≠ bs [45] ∧ w.fText ≠ bs [40] := by
      rcases hk with hk | hk
      · exact (kd_lvl (hw w (List.mem_of_getElem? h)) (by omega)).2
      · exact hk.2
    obtain ⟨h1, h2, h3⟩ := hne
    refine f85 _ _ _ _ (cF rfl (cF (by simp at hl ⊢; omega) ⟨rw_ w, ⟨Int.natCast_nonneg _, getw h⟩, cF (by simpa using h1) (cF (by simpa using h2) (cF (by simpa using h3) (cF (by simp; omega) ?_)))⟩))
    rcases hk with ⟨hk, hr⟩ | ⟨hk, _⟩
    · have h104 := r104 w.fText
      rw [hr] at h104
      exact cT (by simp [hk]) ⟨_, h104, cF rfl ⟨E.non.d, _, _, _, r102 ws a false, rfl⟩⟩
    · exact cF (by simp [hk]) ⟨E.non.d, _, _, _, r102 ws a false, rfl⟩
  | @clm k a a1 a2 x y b1 b2 h h' ih ih' =>
    intro hk1 hk
    have h6 : Rn 58 [rd ws a false, i64 ((5 + 1 : Nat) : Int)] (out ws x a1 b1) := f58 _ _ _ _ _ (cT rfl ⟨x.d, _, _, _, ih, rfl⟩)
    exact bin_of_chain hk1 5 x a1 b1 (by omega) (by omega) h6 (ih' hk1 5 (by omega) (.inr ⟨rfl, by omega⟩))
  | lBad => intro hk1 j hj hm; exact chain_stop j (.inl rfl)
  | @lEnd k m a x h =>
    intro hk1 j hj hm
    refine chain_stop j (.inr fun w hg => ?_)
    have hle := lvl_le w.fText
    by_cases h3 : w.fKind = 3
    · have := h w hg h3
      omega
    · have := (kd_lvl (hw w (List.mem_of_getElem? hg)) h3).1
      omega
  | @lBin k m a a1 a2 x y z b1 b2 w h hk h1 h2 hy hz ihy ihz =>
    intro hk1 j hj hm
    have hle := lvl_le w.fText
    refine chain_go hn h rfl hk1 h1 (ihy (by omega) (by omega)) (ihz hk1 _ ?_ (.inl rfl)) j (by omega)
    split <;> omega
end Go.Proofs.YthcaodlfnlhfbaaDoorT
