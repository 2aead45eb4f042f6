/- A line's words, by the program and by the document. -/
import Derived.Test.YtgfaadooijngnaaDoorA2
namespace Go.Proofs.YtgfaadooijngnaaDoorT
open Go Go.Proofs
set_option linter.unusedVariables false
/-- A word's kind: a number, a name, pairs. -/
inductive Kn where
  | i | n | p
def Kn.code : Kn → UInt8
  | .i => 105
  | .n => 110
  | .p => 112
def Kn.num : Kn → Int
  | .i => 1
  | .n => 2
  | .p => 3
def Kn.fits : Kn → ByteArray → Bool
  | .i, s => numb s
  | .n, s => nm s
  | .p, s => prs s
/-- The kinds of the words behind a first one. -/
def sh (s : ByteArray) : Option (List Kn) :=
  if s = bs [115, 116, 97, 114, 116] then some [.n, .i]
  else if s = bs [99, 97, 110, 99, 101, 108] then some [.i]
  else if s = bs [104, 111, 108, 100] then some [.i]
  else if s = bs [114, 101, 108, 101, 97, 115, 101] then some [.i]
  else if s = bs [115, 116, 97, 116, 117, 115] then some [.i]
  else if s = bs [115, 116, 97, 99, 107] then some [.i]
  else if s = bs [115, 105, 103, 110, 97, 108] then some [.i, .n]
  else if s = bs [109, 105, 103, 114, 97, 116, 101] then some [.i, .n, .i, .p]
  else if s = bs [108, 105, 115, 116] then some []
  else if s = bs [99, 104, 97, 114, 116, 115] then some []
  else if s = bs [99, 111, 109, 112, 97, 99, 116] then some []
  else none
theorem r12 (s : ByteArray) : Rn 12 [st s] (.tup [st (bs (((sh s).getD []).map Kn.code)), tb (sh s).isSome], [.dead]) := by
  refine f12 _ _ ?_
  refine cd (fun h => by subst h; exact rfl) (fun h1 => ?_)
  refine cd (fun h => by subst h; exact rfl) (fun h2 => ?_)
  refine cd (fun h => by subst h; exact rfl) (fun h3 => ?_)
  refine cd (fun h => by subst h; exact rfl) (fun h4 => ?_)
  refine cd (fun h => by subst h; exact rfl) (fun h5 => ?_)
  refine cd (fun h => by subst h; exact rfl) (fun h6 => ?_)
  refine cd (fun h => by subst h; exact rfl) (fun h7 => ?_)
  refine cd (fun h => by subst h; exact rfl) (fun h8 => ?_)
  refine cd (fun h => by subst h; exact rfl) (fun h9 => ?_)
  refine cd (fun h => by subst h; exact rfl) (fun h10 => ?_)
  refine cd (fun h => by subst h; exact rfl) (fun h11 => ?_)
  have : sh s = none := by simp only [sh, h1, h2, h3, h4, h5, h6, h7, h8, h9, h10, h11, if_false]
  rw [this]; rfl
theorem r17 (s : ByteArray) : Rn 17 [st s] (.tup [.sl 1 (((sh s).getD []).map fun k => i64 k.num), tb (sh s).isSome], [.dead]) := by
  refine f17 _ _ ?_
  refine cd (fun h => by subst h; exact rfl) (fun h1 => ?_)
  refine cd (fun h => by subst h; exact rfl) (fun h2 => ?_)
  refine cd (fun h => by subst h; exact rfl) (fun h3 => ?_)
  refine cd (fun h => by subst h; exact rfl) (fun h4 => ?_)
  refine cd (fun h => by subst h; exact rfl) (fun h5 => ?_)
  refine cd (fun h => by subst h; exact rfl) (fun h6 => ?_)
  refine cd (fun h => by subst h; exact rfl) (fun h7 => ?_)
  refine cd (fun h => by subst h; exact rfl) (fun h8 => ?_)
  refine cd (fun h => by subst h; exact rfl) (fun h9 => ?_)
  refine cd (fun h => by subst h; exact rfl) (fun h10 => ?_)
  refine cd (fun h => by subst h; exact rfl) (fun h11 => ?_)
  have : sh s = none := by simp only [sh, h1, h2, h3, h4, h5, h6, h7, h8, h9, h10, h11, if_false]
  rw [this]; rfl
theorem sh_len {s : ByteArray} {ks : List Kn} (h : sh s = some ks) : ks.length ≤ 4 := by
  unfold sh at h
  repeat' split at h
  all_goals first
    | (simp only [Option.some.injEq] at h; subst h; simp)
    | cases h
/-- What is answered where a word does not fit; where all fit. -/
def noR : T × List T := (.tup [.sl 1 [], i64 2], [.dead])
def okR (W : List ByteArray) : T × List T := (.tup [.sl 1 (W.map st), i64 0], [.dead])
def fitL : List Kn → List ByteArray → Bool
  | k :: ks, w :: ws => k.fits w && fitL ks ws
  | _, _ => true
theorem l5 {W ws : List ByteArray} {ks : List Kn} (hl : ws.length = ks.length) (h4 : ks.length ≤ 4) (hw : ∀ w ∈ ws, w.size ≤ 13000) :
    L5_0 (W.map st) (bs (ks.map Kn.code)) (ws.map st) (((ws.map st).length : Nat) : Int) 0 (if fitL ks ws = true then okR W else noR) := by
  have loop : ∀ (d k : Nat), k + d = ws.length → L5_0 (W.map st) (bs (ks.map Kn.code)) (ws.map st) (((ws.map st).length : Nat) : Int) (k : Int) (if fitL (ks.drop k) (ws.drop k) = true then okR W else noR) := by
    intro d
    induction d with
    | zero =>
      intro k hk
      refine l5_0 _ _ _ _ _ _ (cF (by simp; omega) ?_)
      rw [List.drop_of_length_le (by omega), List.drop_of_length_le (by omega)]
      rfl
    | succ d ih =>
      intro k hk
      have hlt : k < ws.length := by omega
      have hkt : k < ks.length := by omega
      have hwm := hw _ (List.getElem_mem hlt)
      rw [List.drop_eq_getElem_cons hlt, List.drop_eq_getElem_cons hkt]
      have hb : byteAt (bs (ks.map Kn.code)) k = ((ks[k]).code.toNat : Int) := by
        rw [byteAt_bt]; unfold bt; rw [bl_bs, List.getD_eq_getElem?_getD, List.getElem?_map, List.getElem?_eq_getElem hkt]; rfl
      have hsz : (bs (ks.map Kn.code)).size = ks.length := by rw [← bl_len, bl_bs, List.length_map]
      have ih' := ih (k + 1) (by omega)
      generalize hkk : ks[k] = kk at hb ⊢
      generalize hww : ws[k] = w at hwm ⊢
      have hg : (ws.map st)[Int.toNat (k : Int)]? = some (st w) := by rw [getp hlt, hww]
      refine l5_0 _ _ _ _ _ _ (cT (by simp; omega) ⟨w, ⟨by omega, hg⟩, ⟨by omega, by rw [hsz]; omega⟩, ?_⟩)
      rw [toN, hb, fitL, wS (by omega)]
      cases kk with
      | i =>
        obtain ⟨n, hn⟩ := r13 w (by omega)
        refine cT rfl ⟨n, _, hn, ?_⟩
        cases hf : numb w with
        | false => exact cT rfl (by simp [Kn.fits, hf, noR])
        | true => exact cF rfl (by simp only [Kn.fits, hf, Bool.true_and]; exact ih')
      | n =>
        refine cF rfl (cT rfl ⟨_, r14 w (ml20 (by omega)), ?_⟩)
        cases hf : nm w with
        | false => exact cT rfl (by simp [Kn.fits, hf, noR])
        | true => exact cF rfl (by simp only [Kn.fits, hf, Bool.true_and]; exact ih')
      | p =>
        obtain ⟨l, hl15⟩ := r15 w (by omega)
        refine cF rfl (cF rfl ⟨l, _, hl15, ?_⟩)
        cases hf : prs w with
        | false => exact cT rfl (by simp [Kn.fits, hf, noR])
        | true => exact cF rfl (by simp only [Kn.fits, hf, Bool.true_and]; exact ih')
  exact loop ws.length 0 (by omega)
theorem l6 {f : ByteArray} {ws : List ByteArray} {ks : List Kn} (hl : ws.length = ks.length) (h4 : ks.length ≤ 4) (hw : ∀ w ∈ ws, w.size ≤ 13000) :
    L6_0 ((f :: ws).map st) (ks.map fun k => i64 k.num) true (((ks.map fun k => i64 k.num).length : Nat) : Int) 0 (if fitL ks ws = true then okR (f :: ws) else noR) := by
  have loop : ∀ (d k : Nat), k + d = ws.length → L6_0 ((f :: ws).map st) (ks.map fun k => i64 k.num) true (((ks.map fun k => i64 k.num).length : Nat) : Int) (k : Int) (if fitL (ks.drop k) (ws.drop k) = true then okR (f :: ws) else noR) := by
    intro d
    induction d with
    | zero =>
      intro k hk
      refine l6_0 _ _ _ _ _ _ (cF (by simp; omega) ?_)
      rw [List.drop_of_length_le (by omega), List.drop_of_length_le (by omega)]
      rfl
    | succ d ih =>
      intro k hk
      have hlt : k < ws.length := by omega
      have hkt : k < ks.length := by omega
      have hwm := hw _ (List.getElem_mem hlt)
      have hgk : (ks.map fun k => i64 k.num)[Int.toNat (k : Int)]? = some (i64 (ks[k]).num) := getm (f := fun k : Kn => i64 k.num) hkt
      rw [List.drop_eq_getElem_cons hlt, List.drop_eq_getElem_cons hkt]
      have ih' := ih (k + 1) (by omega)
      generalize hkk : ks[k] = kk at hgk ⊢
      generalize hww : ws[k] = w at hwm ⊢
      have hg : ((f :: ws).map st)[Int.toNat (((k + 1 : Nat) : Int))]? = some (st w) := by
        rw [getp (by simp; omega)]
        simp [hww]
      refine l6_0 _ _ _ _ _ _ (cT (by simp; omega) ⟨kk.num, ⟨by omega, hgk⟩, ?_⟩)
      rw [fitL, wS (by omega)]
      cases kk with
      | i =>
        obtain ⟨n, hn⟩ := r18 w
        refine cT rfl ⟨w, ⟨by omega, hg⟩, n, _, hn, ?_⟩
        cases hf : numb w with
        | false => exact cT rfl (by simp [Kn.fits, hf, noR])
        | true => exact cF rfl (by simp only [Kn.fits, hf, Bool.true_and]; exact ih')
      | n =>
        refine cF rfl (cT rfl ⟨w, ⟨by omega, hg⟩, _, r19 w (ml20 (by omega)), ?_⟩)
        cases hf : nm w with
        | false => exact cT rfl (by simp [Kn.fits, hf, noR])
        | true => exact cF rfl (by simp only [Kn.fits, hf, Bool.true_and]; exact ih')
      | p =>
        obtain ⟨l, hl15⟩ := r20 w (by omega)
        refine cF rfl (cF rfl (cT rfl ⟨w, ⟨by omega, hg⟩, l, _, hl15, ?_⟩))
        cases hf : prs w with
        | false => exact cT rfl (by simp [Kn.fits, hf, noR])
        | true => exact cF rfl (by simp only [Kn.fits, hf, Bool.true_and]; exact ih')
  exact loop ws.length 0 (by omega)
/-- "add " -/
def ADD : List UInt8 := [97, 100, 100, 32]
/-- Behind the first words: what is answered. -/
def psR (s : ByteArray) : T × List T := match pieces 32 s with
  | [] => noR
  | f :: ws => match sh f with
    | none => noR
    | some ks => if ws.length = ks.length ∧ fitL ks ws = true then okR (f :: ws) else noR
def parseR (s : ByteArray) : T × List T :=
  if 13000 < s.size then (.tup [.sl 1 [], i64 4], [.dead])
  else if (bl s).take 4 = ADD then okR [bs [97, 100, 100], bs ((bl s).drop 4)]
  else psR s
theorem hasAdd (s : ByteArray) : Lib.hasPrefix (bl s) ADD = decide ((bl s).take 4 = ADD) := by
  refine Bool.eq_iff_iff.2 ?_
  simp only [Lib.hasPrefix, List.isPrefixOf_iff_prefix, decide_eq_true_eq, List.prefix_iff_eq_take]
  constructor
  · intro h; rw [h]; simp [ADD]
  · intro h; rw [← h]; simp [ADD]
theorem r5 (s : ByteArray) : Rn 5 [st s] (parseR s) := by
  refine f5 _ _ ?_
  unfold parseR
  by_cases hz : 13000 < s.size
  · rw [if_pos hz]
    exact cT (by simp; omega) rfl
  rw [if_neg hz]
  refine cF (by simp; omega) ⟨_, _, runs10 s (bs ADD), ?_⟩
  have e1 : Lib.hasPrefix s.data.toList (bs ADD).data.toList = decide ((bl s).take 4 = ADD) := hasAdd s
  rw [e1]
  by_cases ha : (bl s).take 4 = ADD
  · rw [if_pos ha, decide_eq_true ha]
    have e2 : Lib.trimPrefix s.data.toList (bs ADD).data.toList = (bl s).drop 4 := by
      unfold Lib.trimPrefix
      rw [e1, decide_eq_true ha, if_pos rfl]
      rfl
    rw [e2]
    exact rfl
  rw [if_neg ha, decide_eq_false ha]
  have hp := fun (w : ByteArray) (h : w ∈ pieces 32 s) => pieces_mem h
  have h11 := runs11 32 s (by omega)
  have hlen := pieces_len 32 s
  unfold psR
  cases hq : pieces 32 s with
  | nil => exact absurd hq (pieces_ne _ _)
  | cons f ws =>
    rw [hq] at h11 hp hlen
    simp only [List.length_cons] at hlen
    refine ⟨_, h11, f, ⟨by omega, rfl⟩, _, _, r12 f, ?_⟩
    simp only
    cases hs : sh f with
    | none => exact cT rfl rfl
    | some ks =>
      dsimp only
      have h4 := sh_len hs
      have hsz : (bs (((some ks).getD []).map Kn.code)).size = ks.length := by rw [← bl_len, bl_bs, List.length_map]; rfl
      refine cF rfl ?_
      rw [hsz, wS (by omega)]
      by_cases hl : ws.length = ks.length
      · refine cF (by simp; omega) ⟨⟨by omega, by rw [List.length_map, List.length_cons]; omega⟩, ?_⟩
        have e : List.drop 1 (List.take (List.map st (f :: ws)).length (List.map st (f :: ws))) = ws.map st := by
          rw [List.take_length]; rfl
        rw [e]
        have := l5 (W := f :: ws) hl h4 (fun w hw => by have := (hp w (List.mem_cons_of_mem _ hw)).1; omega)
        by_cases hf : fitL ks ws = true
        · rw [if_pos ⟨hl, hf⟩]; rw [if_pos hf] at this; exact this
        · rw [if_neg (fun h => hf h.2)]; rw [if_neg hf] at this; exact this
      · rw [if_neg (fun h => hl h.1)]
        exact cT (by simp; omega) rfl
theorem r6 (s : ByteArray) : Rn 6 [st s] (parseR s) := by
  refine f6 _ _ ?_
  unfold parseR
  by_cases hz : 13000 < s.size
  · rw [if_pos hz]
    exact cT (by simp; omega) rfl
  rw [if_neg hz]
  refine cF (by simp; omega) ?_
  have hbl := bl_len s
  have tail : ∀ R : T × List T, R = psR s → ∃ l : List T, (Rn 16 [st s, u8 32] (.sl 1 l, [.dead, .dead])) ∧ (∃ s1 : ByteArray, ((0 : Int) ≤ 0 ∧ l[0]? = some (st s1)) ∧
      (∃ l1 : List T, ∃ b : Bool, (Rn 17 [st s1] (.tup [.sl 1 l1, tb b], [.dead])) ∧
       (cond (!b) (R = (.tup [.sl 1 [], i64 2], [.dead]))
        (cond (!(decide ((((List.length l) : Nat) : Int) = (IntKind.wrap .i64 ((((List.length l1) : Nat) : Int) + 1)))))
         (R = (.tup [.sl 1 [], i64 2], [.dead]))
         (L6_0 l l1 b (((List.length l1) : Nat) : Int) 0 R))))) := by
    rintro R rfl
    have hp := fun (w : ByteArray) (h : w ∈ pieces 32 s) => pieces_mem h
    have h16 := r16 s 32 (by omega)
    have hlen := pieces_len 32 s
    unfold psR
    cases hq : pieces 32 s with
    | nil => exact absurd hq (pieces_ne _ _)
    | cons f ws =>
      rw [hq] at h16 hp hlen
      simp only [List.length_cons] at hlen
      refine ⟨_, h16, f, ⟨by omega, rfl⟩, _, _, r17 f, ?_⟩
      simp only
      cases hs : sh f with
      | none => exact cT rfl rfl
      | some ks =>
        dsimp only
        have h4 := sh_len hs
        refine cF rfl ?_
        have e0 : (((((some ks).getD []).map fun k : Kn => i64 k.num).length : Nat) : Int) = (ks.length : Int) := by simp
        rw [e0, wS (by omega)]
        by_cases hl : ws.length = ks.length
        · refine cF (by simp; omega) ?_
          have := l6 (f := f) hl h4 (fun w hw => by have := (hp w (List.mem_cons_of_mem _ hw)).1; omega)
          rw [List.length_map] at this
          by_cases hf : fitL ks ws = true
          · rw [if_pos ⟨hl, hf⟩]; rw [if_pos hf] at this; exact this
          · rw [if_neg (fun h => hf h.2)]; rw [if_neg hf] at this; exact this
        · rw [if_neg (fun h => hl h.1)]
          exact cT (by simp; omega) rfl
  have e1 : (s.extract 0 4 = bs ADD) ↔ (bl s).take 4 = ADD := by
    rw [bl_ext', List.drop_zero]
    constructor
    · intro h
      have := congrArg bl h
      rwa [bl_bs, bl_bs] at this
    · intro h; rw [h]
  have e2 : s.extract 4 s.size = bs ((bl s).drop 4) := by
    rw [bl_ext', List.take_of_length_le (by omega)]
  by_cases h4 : 4 ≤ s.size
  · refine cT (by simp; omega) ⟨⟨by omega, by omega⟩, ?_⟩
    by_cases ha : (bl s).take 4 = ADD
    · rw [if_pos ha]
      refine cT (decide_eq_true (e1.2 ha)) ⟨⟨by omega, by omega⟩, ?_⟩
      rw [e2]
      rfl
    · rw [if_neg ha]
      exact cF (decide_eq_false (fun h => ha (e1.1 h))) (tail _ rfl)
  · have ha : (bl s).take 4 ≠ ADD := by
      intro h
      have := congrArg List.length h
      rw [List.length_take] at this
      simp [ADD] at this
      omega
    rw [if_neg ha]
    exact cF (by simp; omega) (tail _ rfl)
/-- A list of texts. -/
theorem parse_shape (s : ByteArray) : ∃ (l : List ByteArray) (e : Int), parseR s = (.tup [.sl 1 (l.map st), i64 e], [.dead]) ∧ l.length ≤ 13002 := by
  unfold parseR
  split
  · exact ⟨[], 4, rfl, by simp⟩
  · split
    · exact ⟨_, 0, rfl, by simp⟩
    · have hlen := pieces_len 32 s
      unfold psR
      cases hq : pieces 32 s with
      | nil => exact ⟨[], 2, rfl, by simp⟩
      | cons f ws =>
        rw [hq] at hlen
        simp only
        cases sh f with
        | none => exact ⟨[], 2, rfl, by simp⟩
        | some ks =>
          simp only
          split
          · exact ⟨f :: ws, 0, rfl, by omega⟩
          · exact ⟨[], 2, rfl, by simp⟩
theorem r7 (l : List ByteArray) (hl : l.length ≤ 20000) : Rn 7 [.sl 1 (l.map st), .sl 1 (l.map st)] (tb true, [.dead, .dead]) := by
  have loop : ∀ (d k : Nat), k + d = l.length → L7_0 (l.map st) (l.map st) (((l.map st).length : Nat) : Int) (k : Int) (tb true, [.dead, .dead]) := by
    intro d
    induction d with
    | zero => intro k hk; exact l7_0 _ _ _ _ _ (cF (by simp; omega) rfl)
    | succ d ih =>
      intro k hk
      have hlt : k < l.length := by omega
      refine l7_0 _ _ _ _ _ (cT (by simp; omega) ⟨l[k], ⟨by omega, getp hlt⟩, l[k], ⟨by omega, getp hlt⟩, cF (by simp) ?_⟩)
      rw [wS (by omega)]
      exact ih (k + 1) (by omega)
  exact f7 _ _ _ (cF (by simp) (loop l.length 0 (by omega)))
/-- The errors' words. -/
def WDS : List ByteArray := [bs [], bs [97, 114, 103], bs [102, 111, 114, 109], bs [114, 97, 110, 103, 101], bs [108, 111, 110, 103], bs [110, 111, 110, 101], bs [101, 120, 105, 115, 116, 115], bs [102, 117, 108, 108], bs [108, 111, 115, 116], bs [98, 97, 100], bs [115, 116, 97, 116, 101], bs [119, 111, 114, 100], bs [115, 121, 110, 116, 97, 120], bs [100, 101, 101, 112], bs [110, 97, 109, 101], bs [116, 97, 114, 103, 101, 116], bs [108, 101, 97, 102], bs [98, 97, 99, 107], bs [109, 97, 112]]
def wrd (e : Int) : ByteArray := if e < 0 then bs [] else WDS.getD e.toNat (bs [])
theorem r8 (e : Int) : Rn 8 [i64 e] (st (wrd e), [.dead]) := by
  refine f8 _ _ (cd (fun h => ?_) (fun h => cd (fun h' => ?_) (fun h' => ⟨⟨by omega, by omega⟩, wrd e, ?_, rfl⟩)))
  · rw [wrd, if_pos (by omega)]
  · rw [wrd, if_neg (by omega), List.getD_eq_getElem?_getD, List.getElem?_eq_none (by simp [WDS]; omega)]
    rfl
  · obtain ⟨k, rfl⟩ : ∃ k : Nat, e = k := ⟨e.toNat, by omega⟩
    have hk : k < WDS.length := by simp [WDS]; omega
    rw [wrd, if_neg (by omega), List.getD_eq_getElem?_getD, toN, List.getElem?_eq_getElem hk]
    show (WDS.map st)[k]? = _
    rw [List.getElem?_map, List.getElem?_eq_getElem hk]
    rfl
theorem r9 (e : Int) : Rn 9 [i64 e] (st (wrd e), [.dead]) := by
  refine f9 _ _ ?_
  iterate 18 refine cd (fun h => by have h : e = _ := h; subst h; exact rfl) (fun _ => ?_)
  rename_i h1 h2 h3 h4 h5 h6 h7 h8 h9 h10 h11 h12 h13 h14 h15 h16 h17 h18
  have : wrd e = bs [] := by
    rw [wrd]
    split
    · rfl
    · by_cases h0 : e = 0
      · subst h0; rfl
      · rw [List.getD_eq_getElem?_getD, List.getElem?_eq_none (by simp [WDS]; omega)]
        rfl
  rw [this]
theorem r4 : Rn 4 [] (tb true, []) := f4 _ ⟨_, r8 5, rfl⟩
theorem adminParses_row (s : ByteArray) (e : Int) : Rn 3 [st s, i64 e] (tb true, [.dead, .dead]) := by
  refine f3 _ _ _ ⟨_, r4, cF rfl (cd (fun h => ⟨_, r4, rfl⟩) (fun h => ?_))⟩
  have h5 : Rn 5 [st s] (parseR s) := r5 s
  have h6 := r6 s
  obtain ⟨l, n, hp, hl⟩ := parse_shape s
  rw [hp] at h5 h6
  exact ⟨_, n, h5, _, n, h6, _, r7 l (by omega), cT rfl (cT (by simp) ⟨_, r8 e, _, r9 e, tbR (by simp)⟩)⟩
end Go.Proofs.YtgfaadooijngnaaDoorT
