/- Two instances are alike just if all of both is: what the functions of the law come to. -/
import Derived.Test.YthcaodlfnlhfbaaT26
import Derived.Test.YthcaodlfnlhfbaaP1
import Derived.Test.YthcaodlfnlhfbaaD
namespace Go.Proofs.YthcaodlfnlhfbaaT
open Go Go.Proofs
set_option linter.unusedVariables false

abbrev R3 (n : Int) : T × List T := (i64 n, [.dead, .dead, .dead])
/-- The chart's size is looked at: some answer. -/
theorem r24 : ∀ (m : Nat) (w : W_tumbrelref04_Node), SlT Try.prog m 46 w.fParts → ∀ depth left : Int, ∃ n : Int, Rn 24 [w.t, i64 depth, i64 left] (R3 n) := by
  intro m
  induction m using Nat.strongRecOn with
  | _ m ih =>
    intro w hs depth left
    have hl := Nat.le_trans hs.len maxLen_lt
    have loop : ∀ (d k : Nat) (left : Int), k + d = w.fParts.length → ∃ n : Int, L24_0 depth left ((w.fParts.length : Nat) : Int) (k : Int) w (R3 n) := by
      intro d
      induction d with
      | zero => exact fun k left hk => ⟨left, l24_0 _ _ _ _ _ _ (cF (by simp; omega) rfl)⟩
      | succ d ihd =>
        intro k left hk
        have hlt : k < w.fParts.length := by omega
        obtain ⟨y1, hx, hy1⟩ := hs.get (List.getElem?_eq_getElem hlt)
        obtain ⟨w1, hw1, _, _, _, m', hm', hs'⟩ := d46 hy1
        obtain ⟨n2, h2⟩ := ih m' hm' w1 hs' (IntKind.wrap .i64 (depth + 1)) left
        rw [hw1] at hx
        have hg : w.fParts[Int.toNat (k : Int)]? = some w1.t := by rw [toN, List.getElem?_eq_getElem hlt, hx]
        by_cases hn : n2 < 0
        · exact ⟨-1, l24_0 _ _ _ _ _ _ (cT (by simp; omega) ⟨w1, ⟨by omega, hg⟩, n2, h2, cT (by simpa using hn) rfl⟩)⟩
        · obtain ⟨n, hn'⟩ := ihd (k + 1) n2 (by omega)
          refine ⟨n, l24_0 _ _ _ _ _ _ (cT (by simp; omega) ⟨w1, ⟨by omega, hg⟩, n2, h2, cF (by simpa using hn) ?_⟩)⟩
          rw [wS (by omega)]
          exact hn'
    by_cases h1 : (60 : Int) < depth
    · exact ⟨-1, f24 _ _ _ _ (cT (by simpa using h1) rfl)⟩
    by_cases h2 : IntKind.wrap .i64 (left - 1) < 0
    · exact ⟨-1, f24 _ _ _ _ (cF (by simpa using h1) (cT (by simpa using h2) rfl))⟩
    by_cases h3 : (1000 : Int) < ((ByteArray.size w.fS : Nat) : Int)
    · exact ⟨-1, f24 _ _ _ _ (cF (by simpa using h1) (cF (by simpa using h2) (cT (by simpa using h3) rfl)))⟩
    obtain ⟨n, hn⟩ := loop w.fParts.length 0 (IntKind.wrap .i64 (left - 1)) (by omega)
    exact ⟨n, f24 _ _ _ _ (cF (by simpa using h1) (cF (by simpa using h2) (cF (by simpa using h3) hn)))⟩
theorem r11 {m : Nat} {w : W_tumbrelref04_Node} (hs : SlT Try.prog m 46 w.fParts) : ∃ b : Bool, Rn 11 [w.t] (tb b, [.dead]) := by
  obtain ⟨n, hn⟩ := r24 m w hs 0 200
  exact ⟨_, f11 _ _ ⟨n, hn, rfl⟩⟩
theorem r37 : ∀ (m : Nat) (l : List T), SlT Try.prog m 135 l → ∀ depth left : Int, ∃ n : Int, Rn 37 [.sl 11 l, i64 depth, i64 left] (R3 n) := by
  intro m
  induction m using Nat.strongRecOn with
  | _ m ih =>
    intro l hs depth left
    have hl := Nat.le_trans hs.len maxLen_lt
    have loop : ∀ (d k : Nat) (left : Int), k + d = l.length → ∃ n : Int, L37_0 l depth left ((l.length : Nat) : Int) (k : Int) (R3 n) := by
      intro d
      induction d with
      | zero => exact fun k left hk => ⟨left, l37_0 _ _ _ _ _ _ (cF (by simp; omega) rfl)⟩
      | succ d ihd =>
        intro k left hk
        have hlt : k < l.length := by omega
        have H0 : ∀ left, ∃ n : Int, L37_0 l depth left ((l.length : Nat) : Int) (IntKind.wrap .i64 ((k : Int) + 1)) (R3 n) := fun left => by
          rw [wS (by omega)]
          exact ihd (k + 1) left (by omega)
        obtain ⟨y1, hx, hy1⟩ := hs.get (List.getElem?_eq_getElem hlt)
        obtain ⟨w, hw, _, _, _, _, _, _, _, ⟨m1, hm1, hons⟩, m2, hm2, hinner⟩ := d135 hy1
        rw [hw] at hx
        have hg : l[Int.toNat (k : Int)]? = some w.t := by rw [toN, List.getElem?_eq_getElem hlt, hx]
        have hol := Nat.le_trans hons.len maxLen_lt
        have A : ∀ (d j : Nat) (left : Int), j + d = w.fOns.length → ∃ n : Int, L37_1 l depth left k ((l.length : Nat) : Int) k ((w.fOns.length : Nat) : Int) j (R3 n) := by
          intro d
          induction d with
          | zero =>
            intro j left hj
            obtain ⟨n4, h4⟩ := ih m2 hm2 w.fInner hinner (IntKind.wrap .i64 (depth + 1)) left
            by_cases hn : n4 < 0
            · exact ⟨-1, l37_1 _ _ _ _ _ _ _ _ _ (cF (by simp; omega) ⟨w, ⟨by omega, hg⟩, n4, h4, cT (by simpa using hn) rfl⟩)⟩
            · obtain ⟨n, hn'⟩ := H0 n4
              exact ⟨n, l37_1 _ _ _ _ _ _ _ _ _ (cF (by simp; omega) ⟨w, ⟨by omega, hg⟩, n4, h4, cF (by simpa using hn) hn'⟩)⟩
          | succ d ihA =>
            intro j left hj
            have hjt : j < w.fOns.length := by omega
            have H1 : ∀ left, ∃ n : Int, L37_1 l depth left k ((l.length : Nat) : Int) k ((w.fOns.length : Nat) : Int) (IntKind.wrap .i64 ((j : Int) + 1)) (R3 n) := fun left => by
              rw [wS (by omega)]
              exact ihA (j + 1) left (by omega)
            obtain ⟨y2, hx2, hy2⟩ := hons.get (List.getElem?_eq_getElem hjt)
            obtain ⟨o, ho, _, _, _, _, ⟨m3, _, hgp⟩, _, ⟨m4, _, hsets⟩, _⟩ := d138 hy2
            rw [ho] at hx2
            have hg2 : w.fOns[Int.toNat (j : Int)]? = some o.t := by rw [toN, List.getElem?_eq_getElem hjt, hx2]
            have hsl := Nat.le_trans hsets.len maxLen_lt
            have Bq : ∀ (d q : Nat) (left n4 n5 : Int) (s : ByteArray) (l1 : List T) (b b1 : Bool), q + d = o.fSets.length → ∃ n : Int, L37_2 l depth left k ((l.length : Nat) : Int) k ((w.fOns.length : Nat) : Int) j n4 n5 s l1 b b1 ((o.fSets.length : Nat) : Int) q o (R3 n) := by
              intro d
              induction d with
              | zero =>
                intro q left n4 n5 s l1 b b1 hq
                obtain ⟨n, hn⟩ := H1 left
                exact ⟨n, l37_2 _ _ _ _ _ _ _ _ _ _ _ _ _ _ _ _ _ _ (cF (by simp; omega) hn)⟩
              | succ d ihB =>
                intro q left n4 n5 s l1 b b1 hq
                have hqt : q < o.fSets.length := by omega
                obtain ⟨y3, hx3, hy3⟩ := hsets.get (List.getElem?_eq_getElem hqt)
                obtain ⟨z, hz, _, _, _, _, m5, _, hzp⟩ := d140 hy3
                rw [hz] at hx3
                have hg3 : o.fSets[Int.toNat (q : Int)]? = some z.t := by rw [toN, List.getElem?_eq_getElem hqt, hx3]
                obtain ⟨b2, hb2⟩ := r11 (w := ⟨z.fTo_Kind, z.fTo_N, z.fTo_S, z.fTo_Parts⟩) hzp
                obtain ⟨n, hn⟩ := ihB (q + 1) left n4 n5 s l1 b b1 (by omega)
                cases b2 with
                | false => exact ⟨-1, l37_2 _ _ _ _ _ _ _ _ _ _ _ _ _ _ _ _ _ _ (cT (by simp; omega) ⟨z, ⟨by omega, hg3⟩, false, hb2, rfl⟩)⟩
                | true =>
                  by_cases hnm : (1000 : Int) < ((ByteArray.size z.fName : Nat) : Int)
                  · exact ⟨-1, l37_2 _ _ _ _ _ _ _ _ _ _ _ _ _ _ _ _ _ _ (cT (by simp; omega) ⟨z, ⟨by omega, hg3⟩, true, hb2, z, ⟨by omega, hg3⟩, cT (by simpa using hnm) rfl⟩)⟩
                  · refine ⟨n, l37_2 _ _ _ _ _ _ _ _ _ _ _ _ _ _ _ _ _ _ (cT (by simp; omega) ⟨z, ⟨by omega, hg3⟩, true, hb2, z, ⟨by omega, hg3⟩, cF (by simpa using hnm) ?_⟩)⟩
                    rw [wS (by omega)]
                    exact hn
            obtain ⟨b, hb⟩ := r11 (w := ⟨o.fGuard_Kind, o.fGuard_N, o.fGuard_S, o.fGuard_Parts⟩) hgp
            generalize hX : IntKind.wrap .i64 (IntKind.wrap .i64 (IntKind.wrap .i64 (left - ((o.fSets.length : Nat) : Int)) - IntKind.wrap .i64 (Int.tdiv ((ByteArray.size o.fEvent : Nat) : Int) 50)) - IntKind.wrap .i64 (Int.tdiv ((ByteArray.size o.fTarget : Nat) : Int) 50)) = X
            by_cases hn : X < 0
            · exact ⟨-1, l37_1 _ _ _ _ _ _ _ _ _ (cT (by simp; omega) ⟨w, ⟨by omega, hg⟩, o, ⟨by omega, hg2⟩, by rw [hX]; exact cT (by simpa using hn) rfl⟩)⟩
            · cases b with
              | false => exact ⟨-1, l37_1 _ _ _ _ _ _ _ _ _ (cT (by simp; omega) ⟨w, ⟨by omega, hg⟩, o, ⟨by omega, hg2⟩, by rw [hX]; exact cF (by simpa using hn) ⟨false, hb, rfl⟩⟩)⟩
              | true =>
                obtain ⟨n, hB⟩ := Bq o.fSets.length 0 X o.fGuard_Kind o.fGuard_N o.fGuard_S o.fGuard_Parts true (!true) (by omega)
                exact ⟨n, l37_1 _ _ _ _ _ _ _ _ _ (cT (by simp; omega) ⟨w, ⟨by omega, hg⟩, o, ⟨by omega, hg2⟩, by rw [hX]; exact cF (by simpa using hn) ⟨true, hb, hB⟩⟩)⟩
        generalize hX : IntKind.wrap .i64 (IntKind.wrap .i64 (IntKind.wrap .i64 (IntKind.wrap .i64 (IntKind.wrap .i64 (left - 1) - ((w.fOns.length : Nat) : Int)) - IntKind.wrap .i64 (Int.tdiv ((ByteArray.size w.fName : Nat) : Int) 50)) - IntKind.wrap .i64 (Int.tdiv ((ByteArray.size w.fDo : Nat) : Int) 50)) - IntKind.wrap .i64 (Int.tdiv ((ByteArray.size w.fUndo : Nat) : Int) 50)) = X
        by_cases hn : X < 0
        · exact ⟨-1, l37_0 _ _ _ _ _ _ (cT (by simp; omega) ⟨w, ⟨by omega, hg⟩, w, ⟨by omega, hg⟩, w, ⟨by omega, hg⟩, w, ⟨by omega, hg⟩, by rw [hX]; exact cT (by simpa using hn) rfl⟩)⟩
        · obtain ⟨n, hA⟩ := A w.fOns.length 0 X (by omega)
          exact ⟨n, l37_0 _ _ _ _ _ _ (cT (by simp; omega) ⟨w, ⟨by omega, hg⟩, w, ⟨by omega, hg⟩, w, ⟨by omega, hg⟩, w, ⟨by omega, hg⟩, by rw [hX]; exact cF (by simpa using hn) ⟨w, ⟨by omega, hg⟩, hA⟩⟩)⟩
    by_cases h1 : (15 : Int) < depth
    · exact ⟨-1, f37 _ _ _ _ (cT (by simpa using h1) rfl)⟩
    obtain ⟨n, hn⟩ := loop l.length 0 left (by omega)
    exact ⟨n, f37 _ _ _ _ (cF (by simpa using h1) hn)⟩
theorem r17 {m : Nat} {w : W_tumbrelref06_Chart} (hs : SlT Try.prog m 135 w.fStates) : ∃ b : Bool, Rn 17 [w.t] (tb b, [.dead]) := by
  by_cases h1 : ((w.fVars.length : Nat) : Int) ≤ 200
  · by_cases h2 : ((ByteArray.size w.fName : Nat) : Int) ≤ 1000
    · obtain ⟨n, hn⟩ := r37 m w.fStates hs 0 400
      exact ⟨_, f17 _ _ (cT (by simpa using h1) (cT (by simpa using h2) ⟨n, hn, rfl⟩))⟩
    · exact ⟨_, f17 _ _ (cT (by simpa using h1) (cF (by simpa using h2) rfl))⟩
  · exact ⟨_, f17 _ _ (cF (by simpa using h1) rfl)⟩
abbrev D1 (b : Bool) : T × List T := (tb b, [.dead])
abbrev D2 (b : Bool) : T × List T := (tb b, [.dead, .dead])
theorem r18 (w : W_tumbrelref20_Instance) : ∃ b : Bool, Rn 18 [w.t] (D1 b) ∧ (b = true → w.fWorks.length ≤ 100 ∧ w.fStack.length ≤ 300) := by
  by_cases h1 : ((w.fActive.length : Nat) : Int) ≤ 100
  · by_cases h2 : ((w.fVars.length : Nat) : Int) ≤ 100
    · by_cases h3 : ((w.fWorks.length : Nat) : Int) ≤ 100
      · exact ⟨_, f18 _ _ (cT (by simpa using h1) (cT (by simpa using h2) (cT (by simpa using h3) rfl))), fun h => by simp at h; omega⟩
      · exact ⟨false, f18 _ _ (cT (by simpa using h1) (cT (by simpa using h2) (cF (by simpa using h3) rfl))), by simp⟩
    · exact ⟨false, f18 _ _ (cT (by simpa using h1) (cF (by simpa using h2) rfl)), by simp⟩
  · exact ⟨false, f18 _ _ (cF (by simpa using h1) rfl), by simp⟩
theorem r6 {m m' : Nat} {c : W_tumbrelref06_Chart} {w : W_tumbrelref20_Instance} (hs : SlT Try.prog m 135 c.fStates) (hst : SlT Try.prog m' 66 w.fStack) : ∃ b : Bool, Rn 6 [c.t, w.t] (D2 b) ∧ (b = true → w.fWorks.length ≤ 100 ∧ w.fStack.length ≤ 300) := by
  obtain ⟨b, hb⟩ := r17 hs
  cases b with
  | false => exact ⟨false, f6 _ _ _ ⟨false, hb, rfl⟩, by simp⟩
  | true =>
    obtain ⟨b1, hb1, hB⟩ := r18 w
    cases b1 with
    | false => exact ⟨false, f6 _ _ _ ⟨true, hb, false, hb1, rfl⟩, by simp⟩
    | true =>
      have hl := Nat.le_trans hst.len maxLen_lt
      have loop : ∀ (d k : Nat), k + d = w.fStack.length → ∃ b : Bool, L6_0 ((w.fStack.length : Nat) : Int) (k : Int) w (D2 b) := by
        intro d
        induction d with
        | zero => exact fun k hk => ⟨true, l6_0 _ _ _ _ (cF (by simp; omega) rfl)⟩
        | succ d ihd =>
          intro k hk
          have hlt : k < w.fStack.length := by omega
          obtain ⟨y1, hx, hy1⟩ := hst.get (List.getElem?_eq_getElem hlt)
          obtain ⟨e, he, _⟩ := d66 hy1
          rw [he] at hx
          have hg : w.fStack[Int.toNat (k : Int)]? = some e.t := by rw [toN, List.getElem?_eq_getElem hlt, hx]
          obtain ⟨b, hb⟩ := ihd (k + 1) (by omega)
          by_cases hn : (1000 : Int) < ((ByteArray.size e.fUndo : Nat) : Int)
          · exact ⟨false, l6_0 _ _ _ _ (cT (by simp; omega) ⟨e, ⟨by omega, hg⟩, cT (by simpa using hn) rfl⟩)⟩
          · refine ⟨b, l6_0 _ _ _ _ (cT (by simp; omega) ⟨e, ⟨by omega, hg⟩, cF (by simpa using hn) ?_⟩)⟩
            rw [wS (by omega)]
            exact hb
      obtain ⟨b, hb'⟩ := loop w.fStack.length 0 (by omega)
      exact ⟨b, f6 _ _ _ ⟨true, hb, true, hb1, hb'⟩, fun _ => hB rfl⟩
theorem not_of {b : Bool} {p : Prop} (hb : b = true ↔ p) (hn : ¬ p) : b = false := by
  cases b with
  | false => rfl
  | true => exact absurd (hb.1 rfl) hn
theorem r19 {A B : List Int} (hA : A.length ≤ maxLen) {b : Bool} (hb : b = true ↔ A = B) : Rn 19 [.sl 1 (A.map i64), .sl 1 (B.map i64)] (D2 b) := by
  refine f19 _ _ _ (cdn (fun h => ?_) (fun h => ?_)) <;> simp only [len_map] at h
  · rw [not_of hb (fun e => h (by rw [e]))]
  · exact eq_loop (E := fun x y => decide (x = y)) (by simp) (fun n k R => l19_0 _ _ n k R) rfl rfl hA (by omega) (fun e => by rw [hb.2 e]) (fun e => by rw [not_of hb e])
theorem r20 {A B : List Int} (hA : A.length ≤ maxLen) {b : Bool} (hb : b = true ↔ A = B) : Rn 20 [.sl 1 (A.map i64), .sl 1 (B.map i64)] (D2 b) := by
  refine f20 _ _ _ (cdn (fun h => ?_) (fun h => ?_)) <;> simp only [len_map] at h
  · rw [not_of hb (fun e => h (by rw [e]))]
  · exact eq_loop (E := fun x y => decide (x = y)) (by simp) (fun n k R => l20_0 _ _ n k R) rfl rfl hA (by omega) (fun e => by rw [hb.2 e]) (fun e => by rw [not_of hb e])
theorem r23 {A B : List Int} (hA : A.length ≤ maxLen) {b : Bool} (hb : b = true ↔ A = B) : Rn 23 [.sl 1 (A.map i64), .sl 1 (B.map i64)] (D2 b) := by
  refine f23 _ _ _ (cdn (fun h => ?_) (fun h => ?_)) <;> simp only [len_map] at h
  · rw [not_of hb (fun e => h (by rw [e]))]
  · exact eq_loop (E := fun x y => decide (x = y)) (by simp) (fun n k R => l23_0 _ _ n k R) rfl rfl hA (by omega) (fun e => by rw [hb.2 e]) (fun e => by rw [not_of hb e])
def eW (x y : W_saga_Work) : Bool := (((x.fState : Int) == y.fState) && (((x.fTurn : Int) == y.fTurn) && (((x.fAttempt : Int) == y.fAttempt) && ((x.fSent == y.fSent) && true))))
theorem eW_iff (x y : W_saga_Work) : eW x y = true ↔ x = y := by
  obtain ⟨a, b, c, d⟩ := x
  obtain ⟨a', b', c', d'⟩ := y
  simp [eW]
def eE (x y : W_saga_Entry) : Bool := (((x.fTurn : Int) == y.fTurn) && ((decide (x.fUndo = y.fUndo)) && (((x.fWhere : Int) == y.fWhere) && true)))
theorem eE_iff (x y : W_saga_Entry) : eE x y = true ↔ x = y := by
  obtain ⟨a, b, c⟩ := x
  obtain ⟨a', b', c'⟩ := y
  simp [eE]
theorem r21 {A B : List W_saga_Work} (hA : A.length ≤ maxLen) {b : Bool} (hb : b = true ↔ A = B) : Rn 21 [.sl 4 (A.map (·.t)), .sl 4 (B.map (·.t))] (D2 b) := by
  refine f21 _ _ _ (cdn (fun h => ?_) (fun h => ?_)) <;> simp only [len_map] at h
  · rw [not_of hb (fun e => h (by rw [e]))]
  · exact eq_loop (E := eW) eW_iff (fun n k R => l21_0 _ _ n k R) rfl rfl hA (by omega) (fun e => by rw [hb.2 e]) (fun e => by rw [not_of hb e])
theorem r22 {A B : List W_saga_Entry} (hA : A.length ≤ maxLen) {b : Bool} (hb : b = true ↔ A = B) : Rn 22 [.sl 3 (A.map (·.t)), .sl 3 (B.map (·.t))] (D2 b) := by
  refine f22 _ _ _ (cdn (fun h => ?_) (fun h => ?_)) <;> simp only [len_map] at h
  · rw [not_of hb (fun e => h (by rw [e]))]
  · exact eq_loop (E := eE) eE_iff (fun n k R => l22_0 _ _ n k R) rfl rfl hA (by omega) (fun e => by rw [hb.2 e]) (fun e => by rw [not_of hb e])
/-- An instance, with what stands in its lists. -/
structure Inst where
  phase : Int
  active : List Int
  vars : List Int
  works : List W_saga_Work
  last : Int
  stack : List W_saga_Entry
  att : Int
  sent : Bool
  held : Bool
def Inst.w (i : Inst) : W_saga_Instance := ⟨i.phase, i.active.map i64, i.vars.map i64, i.works.map (·.t), i.last, i.stack.map (·.t), i.att, i.sent, i.held⟩
def Inst.r (i : Inst) : W_tumbrelref20_Instance := ⟨i.phase, i.active.map i64, i.vars.map i64, i.works.map (·.t), i.last, i.stack.map (·.t), i.att, i.sent, i.held⟩
structure Inst.Len (i : Inst) : Prop where
  a : i.active.length ≤ maxLen
  v : i.vars.length ≤ maxLen
  w : i.works.length ≤ maxLen
  s : i.stack.length ≤ maxLen
theorem r7 {x y : Inst} (hx : x.Len) {b : Bool} (hb : b = true ↔ x = y) : Rn 7 [x.w.t, y.w.t] (D2 b) := by
  obtain ⟨a1, a2, a3, a4, a5, a6, a7, a8, a9⟩ := x
  obtain ⟨c1, c2, c3, c4, c5, c6, c7, c8, c9⟩ := y
  simp only [Inst.mk.injEq] at hb
  have no : (¬ (a1 = c1 ∧ a2 = c2 ∧ a3 = c3 ∧ a4 = c4 ∧ a5 = c5 ∧ a6 = c6 ∧ a7 = c7 ∧ a8 = c8 ∧ a9 = c9)) → D2 b = D2 false := fun h => by rw [not_of hb h]
  refine f7 _ _ _ (cd (fun h1 => cd (fun h5 => cd (fun h7 => cb (fun h8 => cb (fun h9 => ?_) (fun h => ?_)) (fun h => ?_)) (fun h => ?_)) (fun h => ?_)) (fun h => ?_))
  · have h8 : a8 = c8 := by simpa [Inst.w] using h8
    have h9 : a9 = c9 := by simpa [Inst.w] using h9
    have h1 : a1 = c1 := h1
    have h5 : a5 = c5 := h5
    have h7 : a7 = c7 := h7
    by_cases e2 : a2 = c2
    · refine ⟨true, r19 hx.a (by simpa using e2), ?_⟩
      by_cases e3 : a3 = c3
      · refine ⟨true, r20 hx.v (by simpa using e3), ?_⟩
        by_cases e4 : a4 = c4
        · refine ⟨true, r21 hx.w (by simpa using e4), ?_⟩
          refine ⟨b, r22 hx.s (hb.trans ⟨fun h => h.2.2.2.2.2.1, fun h => ⟨h1, e2, e3, e4, h5, h, h7, h8, h9⟩⟩), rfl⟩
        · exact ⟨false, r21 hx.w (by simpa using e4), no (fun h => e4 h.2.2.2.1)⟩
      · exact ⟨false, r20 hx.v (by simpa using e3), no (fun h => e3 h.2.2.1)⟩
    · exact ⟨false, r19 hx.a (by simpa using e2), no (fun h => e2 h.2.1)⟩
  · exact no (fun e => by simp [Inst.w, e.2.2.2.2.2.2.2.2] at h)
  · exact no (fun e => by simp [Inst.w, e.2.2.2.2.2.2.2.1] at h)
  · exact no (fun e => h e.2.2.2.2.2.2.1)
  · exact no (fun e => h e.2.2.2.2.1)
  · exact no (fun e => h e.1)
def i0 (n : Int) : Inst := ⟨0, [], [], [], n, [], 0, false, false⟩
theorem i0_len (n : Int) : (i0 n).Len := ⟨Nat.zero_le _, Nat.zero_le _, Nat.zero_le _, Nat.zero_le _⟩
theorem r5 : Rn 5 [] (tb true, []) := by
  refine f5 _ ⟨true, r7 (x := i0 1) (y := i0 1) (i0_len 1) (by simp), ?_⟩
  refine ⟨true, f16 (i0 0).w _ (cT rfl ⟨false, f35 _ _ ⟨-1, f57 _ _ ?_, by simp⟩, rfl⟩), rfl⟩
  exact l57_0 _ _ _ _ (cF (by simp [i0, Inst.w]) rfl)
theorem r8 {x : Inst} (hw : x.works.length ≤ 100) (hs : x.stack.length ≤ 300) : Rn 8 [x.r.t] (x.w.t, [.dead]) := by
  have second : ∀ (d k : Nat), k + d = x.stack.length → L8_1 ((x.stack.length : Nat) : Int) (k : Int) x.r 0 0 0 false false x.phase (x.active.map i64) (x.vars.map i64) (x.works.map (·.t)) x.last ((x.stack.map (·.t)).take k) x.att x.sent x.held (x.w.t, [.dead]) := by
    intro d
    induction d with
    | zero =>
      intro k hk
      refine l8_1 _ _ _ _ _ _ _ _ _ _ _ _ _ _ _ _ _ _ (cF (by simp; omega) ?_)
      rw [List.take_of_length_le (by simp; omega)]
      rfl
    | succ d ih =>
      intro k hk
      have hlt : k < x.stack.length := by omega
      have hlm : k < (x.stack.map (·.t)).length := by simpa using hlt
      refine l8_1 _ _ _ _ _ _ _ _ _ _ _ _ _ _ _ _ _ _ (cT (by simp; omega) ⟨⟨x.stack[k].fTurn, x.stack[k].fUndo, x.stack[k].fWhere⟩, ⟨by omega, getm hlt⟩, ckn (by rw [List.length_take]; omega) ?_⟩)
      rw [wS (by omega)]
      have e := List.take_succ_eq_append_getElem hlm
      rw [List.getElem_map] at e
      have := ih (k + 1) (by omega)
      rw [e] at this
      exact this
  have first : ∀ (d k : Nat), k + d = x.works.length → L8_0 ((x.works.length : Nat) : Int) (k : Int) x.r 0 0 0 false false x.phase (x.active.map i64) (x.vars.map i64) ((x.works.map (·.t)).take k) x.last x.att x.sent x.held (x.w.t, [.dead]) := by
    intro d
    induction d with
    | zero =>
      intro k hk
      refine l8_0 _ _ _ _ _ _ _ _ _ _ _ _ _ _ _ _ _ (cF (by simp; omega) ?_)
      rw [List.take_of_length_le (by simp; omega)]
      have := second x.stack.length 0 (by omega)
      simpa [Inst.r] using this
    | succ d ih =>
      intro k hk
      have hlt : k < x.works.length := by omega
      have hlm : k < (x.works.map (·.t)).length := by simpa using hlt
      refine l8_0 _ _ _ _ _ _ _ _ _ _ _ _ _ _ _ _ _ (cT (by simp; omega) ⟨⟨x.works[k].fState, x.works[k].fTurn, x.works[k].fAttempt, x.works[k].fSent⟩, ⟨by omega, getm hlt⟩, ckn (by rw [List.length_take]; omega) ?_⟩)
      rw [wS (by omega)]
      have e := List.take_succ_eq_append_getElem hlm
      rw [List.getElem_map] at e
      have := ih (k + 1) (by omega)
      rw [e] at this
      exact this
  refine f8 _ _ ?_
  have := first x.works.length 0 (by omega)
  simpa [Inst.r] using this
def cW (w : W_saga_Work) : W_tumbrelref20_Work := ⟨w.fState, w.fTurn, w.fAttempt, w.fSent⟩
def cE (w : W_saga_Entry) : W_tumbrelref20_Entry := ⟨w.fTurn, w.fUndo, w.fWhere⟩
theorem cW_inj {x y : W_saga_Work} (h : cW x = cW y) : x = y := by
  obtain ⟨a, b, c, d⟩ := x
  obtain ⟨a', b', c', d'⟩ := y
  simpa [cW] using h
theorem cE_inj {x y : W_saga_Entry} (h : cE x = cE y) : x = y := by
  obtain ⟨a, b, c⟩ := x
  obtain ⟨a', b', c'⟩ := y
  simpa [cE] using h
theorem mapW (l : List W_saga_Work) : l.map (·.t) = (l.map cW).map (·.t) := by rw [List.map_map]; rfl
theorem mapE (l : List W_saga_Entry) : l.map (·.t) = (l.map cE).map (·.t) := by rw [List.map_map]; rfl
theorem r9 {x y : Inst} (hx : x.Len) {b : Bool} (hb : b = true ↔ x = y) : Rn 9 [x.r.t, y.r.t] (D2 b) := by
  obtain ⟨a1, a2, a3, a4, a5, a6, a7, a8, a9⟩ := x
  obtain ⟨c1, c2, c3, c4, c5, c6, c7, c8, c9⟩ := y
  simp only [Inst.mk.injEq] at hb
  have no : (¬ (a1 = c1 ∧ a2 = c2 ∧ a3 = c3 ∧ a4 = c4 ∧ a5 = c5 ∧ a6 = c6 ∧ a7 = c7 ∧ a8 = c8 ∧ a9 = c9)) → D2 b = D2 false := fun h => by rw [not_of hb h]
  refine f9 _ _ _ (cdn (fun h => no (fun e => h e.1)) (fun h1 => ?_))
  by_cases e2 : a2 = c2
  · refine ⟨true, r23 hx.a (by simpa using e2), cF rfl ?_⟩
    refine cdn (fun h => no (fun e => h (by simp [Inst.r, e.2.2.1]))) (fun l3 => cdn (fun h => no (fun e => h (by simp [Inst.r, e.2.2.2.1]))) (fun l4 => cdn (fun h => no (fun e => h e.2.2.2.2.1)) (fun h5 => cdn (fun h => no (fun e => h (by simp [Inst.r, e.2.2.2.2.2.1]))) (fun l6 =>
      cdn (fun h => no (fun e => h e.2.2.2.2.2.2.1)) (fun h7 => cb (fun h => no (fun e => by simp [Inst.r, e.2.2.2.2.2.2.2.1] at h)) (fun h8 => cb (fun h => no (fun e => by simp [Inst.r, e.2.2.2.2.2.2.2.2] at h)) (fun h9 => ?_)))))))
    have h8 : a8 = c8 := by simpa [Inst.r] using h8
    have h9 : a9 = c9 := by simpa [Inst.r] using h9
    have h1 : a1 = c1 := h1
    have h5 : a5 = c5 := h5
    have h7 : a7 = c7 := h7
    have l3 : a3.length = c3.length := by simp only [Inst.r, len_map] at l3; omega
    have l4 : a4.length = c4.length := by simp only [Inst.r, len_map] at l4; omega
    have l6 : a6.length = c6.length := by simp only [Inst.r, len_map] at l6; omega
    generalize hX : Inst.r ⟨a1, a2, a3, a4, a5, a6, a7, a8, a9⟩ = X
    generalize hY : Inst.r ⟨c1, c2, c3, c4, c5, c6, c7, c8, c9⟩ = Y
    have x3 : X.fVars = a3.map i64 := by rw [← hX]; rfl
    have y3 : Y.fVars = c3.map i64 := by rw [← hY]; rfl
    have x4 : X.fWorks = (a4.map cW).map (·.t) := by rw [← hX]; exact mapW a4
    have y4 : Y.fWorks = (c4.map cW).map (·.t) := by rw [← hY]; exact mapW c4
    have x6 : X.fStack = (a6.map cE).map (·.t) := by rw [← hX]; exact mapE a6
    have y6 : Y.fStack = (c6.map cE).map (·.t) := by rw [← hY]; exact mapE c6
    refine eq_loop (f := i64) (s1 := X.fVars) (s2 := Y.fVars) (L := fun n k R => L9_0 n k X Y R) (E := fun x y => decide (x = y)) (by simp) (fun n k R => l9_0 n k X Y R) (A := a3) (B := c3) x3 y3 hx.v l3 (fun e3 => ?_) (fun e => no (fun h => e h.2.2.1))
    refine eq_loop (f := W_tumbrelref20_Work.t) (s1 := X.fWorks) (s2 := Y.fWorks) (L := fun n k R => L9_1 n k X Y R) (E := fun (x y : W_tumbrelref20_Work) => (((x.fState : Int) == y.fState) && (((x.fTurn : Int) == y.fTurn) && (((x.fAttempt : Int) == y.fAttempt) && ((x.fSent == y.fSent) && true))))) ?_ (fun n k R => l9_1 n k X Y R) (A := a4.map cW) (B := c4.map cW) x4 y4 (by rw [List.length_map]; exact hx.w) (by simpa using l4) (fun e4 => ?_) (fun e => no (fun h => e (by rw [h.2.2.2.1])))
    · rintro ⟨p, q, r, s⟩ ⟨p', q', r', s'⟩
      simp
    have e4 : a4 = c4 := (List.map_inj_right (fun _ _ => cW_inj)).1 e4
    refine eq_loop (f := W_tumbrelref20_Entry.t) (s1 := X.fStack) (s2 := Y.fStack) (L := fun n k R => L9_2 n k X Y R) (E := fun (x y : W_tumbrelref20_Entry) => (((x.fTurn : Int) == y.fTurn) && ((decide (x.fUndo = y.fUndo)) && (((x.fWhere : Int) == y.fWhere) && true)))) ?_ (fun n k R => l9_2 n k X Y R) (A := a6.map cE) (B := c6.map cE) x6 y6 (by rw [List.length_map]; exact hx.s) (by simpa using l6) (fun e6 => ?_) (fun e => no (fun h => e (by rw [h.2.2.2.2.2.1])))
    · rintro ⟨p, q, r⟩ ⟨p', q', r'⟩
      simp
    have e6 : a6 = c6 := (List.map_inj_right (fun _ _ => cE_inj)).1 e6
    rw [hb.2 ⟨h1, e2, e3, e4, h5, e6, h7, h8, h9⟩]
  · exact ⟨false, r23 hx.a (by simpa using e2), cT rfl (no (fun h => e2 h.2.1))⟩
set_option maxRecDepth 100000 in
theorem inst_of {n : Nat} {ts : List T} (h : Ty Try.prog n 33 ts) : ∃ x : Inst, valT Try.prog 33 ts = x.r.t ∧ x.Len ∧ ∃ m, SlT Try.prog m 66 x.r.fStack := by
  obtain ⟨w, hw, _, ⟨m1, _, h1⟩, ⟨m2, _, h2⟩, ⟨m3, _, h3⟩, _, ⟨m4, _, h4⟩, _⟩ := d33 h
  obtain ⟨A, hA⟩ := list_of (f := i64) (xs := w.fActive) (fun x hx => by
    obtain ⟨y, rfl, hy⟩ := h1.mem hx
    obtain ⟨i, hi, _⟩ := d3 hy
    exact ⟨i, hi⟩)
  obtain ⟨V, hV⟩ := list_of (f := i64) (xs := w.fVars) (fun x hx => by
    obtain ⟨y, rfl, hy⟩ := h2.mem hx
    obtain ⟨i, hi, _⟩ := d2 hy
    exact ⟨i, hi⟩)
  obtain ⟨K, hK⟩ := list_of (f := W_saga_Work.t) (xs := w.fWorks) (fun x hx => by
    obtain ⟨y, rfl, hy⟩ := h3.mem hx
    obtain ⟨i, hi, _⟩ := d74 hy
    exact ⟨⟨i.fState, i.fTurn, i.fAttempt, i.fSent⟩, hi⟩)
  obtain ⟨E, hE⟩ := list_of (f := W_saga_Entry.t) (xs := w.fStack) (fun x hx => by
    obtain ⟨y, rfl, hy⟩ := h4.mem hx
    obtain ⟨i, hi, _⟩ := d66 hy
    exact ⟨⟨i.fTurn, i.fUndo, i.fWhere⟩, hi⟩)
  have e : w = (⟨w.fPhase, A, V, K, w.fLast, E, w.fUndoAttempt, w.fUndoSent, w.fHeld⟩ : Inst).r := by
    obtain ⟨p1, p2, p3, p4, p5, p6, p7, p8, p9⟩ := w
    simp only at hA hV hK hE
    simp [Inst.r, hA, hV, hK, hE]
  refine ⟨_, by rw [hw]; exact congrArg (·.t) e, ⟨?_, ?_, ?_, ?_⟩, m4, ?_⟩
  · have := h1.len; rw [hA] at this; simpa using this
  · have := h2.len; rw [hV] at this; simpa using this
  · have := h3.len; rw [hK] at this; simpa using this
  · have := h4.len; rw [hE] at this; simpa using this
  · rw [← e]; exact h4
theorem r3 {m : Nat} {c : W_tumbrelref06_Chart} {a b : Inst} (hs : SlT Try.prog m 135 c.fStates) (ha : a.Len) (hb : b.Len) {m1 m2 : Nat} (sa : SlT Try.prog m1 66 a.r.fStack) (sb : SlT Try.prog m2 66 b.r.fStack) : Rn 3 [c.t, a.r.t, b.r.t] (R := (tb true, [.dead, .dead, .dead])) := by
  refine f3 _ _ _ _ ⟨true, r5, cF rfl ?_⟩
  obtain ⟨p, hp, pB⟩ := r6 hs sa
  refine ⟨p, hp, cb (fun _ => ⟨true, r5, rfl⟩) (fun hpt => ?_)⟩
  obtain ⟨q, hq, qB⟩ := r6 hs sb
  refine ⟨q, hq, cb (fun _ => ⟨true, r5, rfl⟩) (fun hqt => ?_)⟩
  have pB := pB (by simpa using hpt)
  have qB := qB (by simpa using hqt)
  have aw : a.works.length ≤ 100 ∧ a.stack.length ≤ 300 := by simpa [Inst.r] using pB
  have bw : b.works.length ≤ 100 ∧ b.stack.length ≤ 300 := by simpa [Inst.r] using qB
  have key : ∃ e : Bool, e = true ↔ a = b := by
    by_cases h : a = b
    · exact ⟨true, by simp [h]⟩
    · exact ⟨false, by simp [h]⟩
  obtain ⟨e, he⟩ := key
  refine ⟨a.w, r8 aw.1 aw.2, b.w, r8 bw.1 bw.2, e, r7 ha he, e, r9 ha he, cT (by simp) ?_⟩
  exact ⟨a.w, r8 aw.1 aw.2, a.w, r8 aw.1 aw.2, true, r7 ha (by simp), rfl⟩
/-- The law, at what it is handed. -/
theorem sagaSame_pure (n0 : Nat) (t0 : List T) (n1 : Nat) (t1 : List T) (n2 : Nat) (t2 : List T) (y0 : Ty Try.prog n0 27 t0) (y1 : Ty Try.prog n1 33 t1) (y2 : Ty Try.prog n2 33 t2) :
    ∃ outs, Rn 3 [valT Try.prog 27 t0, valT Try.prog 33 t1, valT Try.prog 33 t2] (tb true, outs) := by
  obtain ⟨c, hc, _, _, _, _, _, m, _, hs⟩ := d27 y0
  obtain ⟨a, ha, la, m1, sa⟩ := inst_of y1
  obtain ⟨b, hb, lb, m2, sb⟩ := inst_of y2
  rw [hc, ha, hb]
  exact ⟨_, r3 hs la lb sa sb⟩
end Go.Proofs.YthcaodlfnlhfbaaT
