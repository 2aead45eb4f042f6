/- Pieces, numbers, names, pairs: by the program and by the document. -/
import Derived.Test.YtgfaadooijngnaaDoorA1
import Derived.Test.YtgfaadooijngnaaDoorG4
import Derived.Test.YtgfaadooijngnaaDoorR0
import Derived.Lib.AtoiAllCases
namespace Go.Proofs.YtgfaadooijngnaaDoorT
open Go Go.Proofs
set_option linter.unusedVariables false
theorem bl_bs (l : List UInt8) : bl (bs l) = l := by simp [bl, bs]
theorem bs_bl (s : ByteArray) : bs (bl s) = s := by simp [bl, bs]
theorem pieces_bl (c : UInt8) (s : ByteArray) : pieces c s = (pcs c (bl s)).map bs := rfl
theorem pieces_ne (c : UInt8) (s : ByteArray) : pieces c s ≠ [] := by
  rw [pieces_bl]; simp [pcs_ne]
theorem pcs_len (c : UInt8) : ∀ l : List UInt8, (pcs c l).length ≤ l.length + 1
  | [] => by simp [pcs]
  | x :: r => by
    have := pcs_len c r
    rw [pcs]
    split
    · simp; omega
    · split
      · simp
      · rename_i h t e
        rw [e] at this
        simp at this ⊢; omega
theorem pieces_len (c : UInt8) (s : ByteArray) : (pieces c s).length ≤ s.size + 1 := by
  rw [pieces_bl, List.length_map, ← bl_len]; exact pcs_len c _
theorem pcs_mem (c : UInt8) : ∀ (l : List UInt8), ∀ p ∈ pcs c l, p.length ≤ l.length ∧ c ∉ p
  | [], p, hp => by simp [pcs] at hp; subst hp; simp
  | x :: r, p, hp => by
    have ih := pcs_mem c r
    rw [pcs] at hp
    split at hp
    · rcases List.mem_cons.1 hp with rfl | hp
      · simp
      · have := ih p hp; exact ⟨by simp; omega, this.2⟩
    · rename_i hx
      split at hp
      · rename_i e; exact absurd e (pcs_ne c r)
      · rename_i h t e
        rcases List.mem_cons.1 hp with rfl | hp
        · have := ih h (by rw [e]; simp)
          exact ⟨by simp; omega, by simp [Ne.symm hx, this.2]⟩
        · have := ih p (by rw [e]; simp [hp])
          exact ⟨by simp; omega, this.2⟩
theorem pieces_mem {c : UInt8} {s p : ByteArray} (h : p ∈ pieces c s) : p.size ≤ s.size ∧ c ∉ bl p := by
  rw [pieces_bl] at h
  obtain ⟨q, hq, rfl⟩ := List.mem_map.1 h
  have := pcs_mem c _ q hq
  exact ⟨by rw [← bl_len, ← bl_len, bl_bs]; exact this.1, by rw [bl_bs]; exact this.2⟩
/-- The first piece goes on. -/
def onto (p : List UInt8) : List (List UInt8) → List (List UInt8)
  | [] => [p]
  | h :: t => (p ++ h) :: t
theorem pcs_skip {c x : UInt8} (hx : x ≠ c) (p r : List UInt8) : onto p (pcs c (x :: r)) = onto (p ++ [x]) (pcs c r) := by
  cases h : pcs c r with
  | nil => exact absurd h (pcs_ne c r)
  | cons a b => rw [pcs_cons hx h]; simp [onto]
theorem bl_ext' (s : ByteArray) (a b : Nat) : s.extract a b = bs (((bl s).take b).drop a) := by
  refine ext_bl ?_
  rw [bl_extract, bl_bs]
theorem r16 (s : ByteArray) (c : UInt8) (hs : s.size ≤ 20000) : Rn 16 [st s, u8 c.toNat] (.sl 1 ((pieces c s).map st), [.dead, .dead]) := by
  have hl := bl_len s
  have loop : ∀ (d i a : Nat) (acc : List T), i + d = s.size → a ≤ i → acc.length ≤ i → L16_0 s (c.toNat : Int) (a : Int) (i : Int) acc (.sl 1 (acc ++ ((onto (((bl s).take i).drop a) (pcs c ((bl s).drop i))).map bs).map st), [.dead, .dead]) := by
    intro d
    induction d with
    | zero =>
      intro i a acc hi ha hac
      refine l16_0 _ _ _ _ _ _ (cF (by simp; omega) ⟨⟨by omega, by omega⟩, ckn (by omega) ?_⟩)
      have e0 : (bl s).drop i = [] := List.drop_of_length_le (by omega)
      rw [e0, toN, bl_ext']
      have e : s.size = i := by omega
      rw [e]
      simp [pcs, onto]
    | succ d ih =>
      intro i a acc hi ha hac
      have hlt : i < (bl s).length := by omega
      have hbt : byteAt s i = (((bl s)[i]).toNat : Int) := by rw [byteAt_bt]; unfold bt; rw [List.getD_eq_getElem?_getD, List.getElem?_eq_getElem hlt]; rfl
      have hdrop : (bl s).drop i = (bl s)[i] :: (bl s).drop (i + 1) := List.drop_eq_getElem_cons hlt
      refine l16_0 _ _ _ _ _ _ (cT (by simp; omega) ⟨⟨by omega, by omega⟩, ?_⟩)
      rw [toN, hbt]
      by_cases hc : (bl s)[i] = c
      · refine cT (by rw [hc]; simp) ⟨⟨by omega, by omega⟩, ⟨by omega, by omega⟩, ckn (by omega) ?_⟩
        rw [wS (by omega)]
        have := ih (i + 1) (i + 1) (acc ++ [st (ByteArray.extract s a i)]) (by omega) (by omega) (by simp; omega)
        rw [hdrop, hc, pcs, if_pos rfl, toN]
        have e0 : (List.drop (i + 1) (List.take (i + 1) (bl s))) = [] := List.drop_of_length_le (by rw [List.length_take]; omega)
        rw [e0] at this
        have e1 : onto [] (pcs c (List.drop (i + 1) (bl s))) = pcs c (List.drop (i + 1) (bl s)) := by
          cases h : pcs c (List.drop (i + 1) (bl s)) with
          | nil => exact absurd h (pcs_ne c _)
          | cons x y => simp [onto]
        rw [e1, bl_ext'] at this
        rw [bl_ext']
        simpa [onto] using this
      · refine cF (by simpa using fun h => hc (UInt8.toNat_inj.1 (by omega))) ?_
        rw [wS (by omega)]
        have := ih (i + 1) a acc (by omega) (by omega) (by omega)
        rw [hdrop, pcs_skip hc]
        have e : List.drop a (List.take i (bl s)) ++ [(bl s)[i]] = List.drop a (List.take (i + 1) (bl s)) := by
          rw [List.take_succ_eq_append_getElem hlt, List.drop_append_of_le_length (by rw [List.length_take]; omega)]
        rw [e]
        exact this
  have := loop s.size 0 0 [] (by omega) (by omega) (by simp)
  refine f16 _ _ _ ?_
  have e1 : onto (List.drop 0 (List.take 0 (bl s))) (pcs c (List.drop 0 (bl s))) = pcs c (bl s) := by
    cases h : pcs c (bl s) with
    | nil => exact absurd h (pcs_ne c _)
    | cons x y => simp [onto, h]
  rw [e1] at this
  exact this
/-! ### Numbers -/
def numb (s : ByteArray) : Bool := decide (s.size ≤ 9) && numB s
theorem dgt_lt : ∀ (l : List UInt8) (a v : Nat), dgt a l = some v → v < (a + 1) * 10 ^ l.length
  | [], a, v, h => by simp [dgt] at h; subst h; simp
  | x :: l, a, v, h => by
    rw [dgt] at h
    split at h
    · have := dgt_lt l _ v h
      rename_i hd
      have h1 : (10 * a + (x.toNat - 48) + 1) * 10 ^ l.length ≤ ((a + 1) * 10) * 10 ^ l.length := Nat.mul_le_mul_right _ (by omega)
      have h2 : (a + 1) * 10 ^ (x :: l).length = ((a + 1) * 10) * 10 ^ l.length := by rw [List.length_cons, Nat.pow_succ, Nat.mul_comm (10 ^ l.length) 10, ← Nat.mul_assoc]
      omega
    · cases h
theorem pu10 : ∀ (l : List UInt8) (a v : Nat), dgt a l = some v → v ≤ 1000000000 → Lib.parseUint10 a l = .ok v
  | [], a, v, h, hv => by simp [dgt] at h; subst h; rfl
  | x :: l, a, v, h, hv => by
    have hg := dgt_ge (x :: l) a v h
    rw [dgt] at h
    rw [Lib.parseUint10]
    split at h
    · rename_i hd
      have h2 := dgt_ge l _ v h
      rw [if_pos hd, if_neg (by omega), if_neg (by omega)]
      rw [show a * 10 + (x.toNat - 48) = 10 * a + (x.toNat - 48) by omega]
      exact pu10 l _ v h hv
    · cases h
theorem atoi_dec (v : Nat) (hv : v ≤ 1000000000) : Lib.atoiAll (Lib.decDigits v) = .ok (v : Int) := by
  have hd := dgt_dec v
  cases h : Lib.decDigits v with
  | nil => exact absurd h (dec_ne v)
  | cons x r =>
    rw [h] at hd
    have hx : 48 ≤ x.toNat ∧ x.toNat ≤ 57 := by
      rw [dgt] at hd
      split at hd
      · assumption
      · cases hd
    rw [Lib.atoiAll_plain x r (by omega) (by omega)]
    unfold Lib.parseMag
    rw [if_neg (by simp), pu10 _ 0 v hd hv]
    simp [Lib.signless]
    omega
theorem r13 (s : ByteArray) (hs : s.size ≤ 20000) : ∃ n : Int, Rn 13 [st s] (.tup [i64 n, tb (numb s)], [.dead]) := by
  have hl := bl_len s
  rcases runs23 s hs with ⟨v, hv, h23⟩ | ⟨hno, n, e, he, h23⟩
  · obtain ⟨b0, b1⟩ := Lib.atoiAll_bounds hv
    refine ⟨v, f13 _ _ ⟨v, ⟨0, .dead⟩, h23, cT rfl (cd (fun h0 => cd (fun h9 => ⟨_, runs24 v b0 b1, ?_⟩) (fun h9 => ?_)) (fun h0 => ?_))⟩⟩
    · obtain ⟨u, rfl⟩ : ∃ u : Nat, v = u := ⟨v.toNat, by omega⟩
      rw [Lib.itoa_nonneg]
      have : decide (bs (Lib.decDigits u) = s) = numb s := by
        unfold numb
        rw [decide_eq_true (show s.size ≤ 9 by omega), Bool.true_and]
        refine Bool.eq_iff_iff.2 ?_
        simp only [decide_eq_true_eq]
        constructor
        · intro e
          have e' : Lib.decDigits u = bl s := by rw [← e, bl_bs]
          have hd := dgt_dec u
          have hlt := dgt_lt _ _ _ hd
          rw [e', hl] at hlt
          have hp : 10 ^ s.size ≤ 10 ^ 9 := Nat.pow_le_pow_right (by omega) (by omega)
          unfold numB numV
          rw [← e', hd]
          simp only
          rw [if_pos ⟨by omega, trivial⟩]
          rfl
        · intro hb
          unfold numB numV at hb
          split at hb
          · rename_i w hw
            split at hb
            · rename_i hc
              have h2 := atoi_dec w hc.1
              rw [hc.2] at h2
              have hv' : Lib.atoiAll (bl s) = .ok (u : Int) := hv
              rw [h2] at hv'
              injection hv' with hv'
              have : w = u := by omega
              subst this
              rw [hc.2, bs_bl]
            · cases hb
          · cases hb
      rw [this]
    · have : numb s = false := by unfold numb; rw [decide_eq_false (by omega), Bool.false_and]
      rw [this]
    · have : numb s = false := by
        unfold numb
        cases hb : numB s with
        | false => simp
        | true =>
          unfold numB numV at hb
          split at hb
          · rename_i w hw
            split at hb
            · rename_i hc
              have h2 := atoi_dec w hc.1
              rw [hc.2] at h2
              have hv' : Lib.atoiAll (bl s) = .ok v := hv
              rw [h2] at hv'
              injection hv' with hv'
              omega
            · cases hb
          · cases hb
      rw [this]
  · refine ⟨n, f13 _ _ ⟨n, e, h23, cF (by simpa using he) ?_⟩⟩
    have : numb s = false := by
      unfold numb
      cases hb : numB s with
      | false => simp
      | true =>
        unfold numB numV at hb
        split at hb
        · rename_i w hw
          split at hb
          · rename_i hc
            have h2 := atoi_dec w hc.1
            rw [hc.2] at h2
            exact absurd h2 (hno _)
          · cases hb
        · cases hb
    rw [this]
theorem r18 (s : ByteArray) : ∃ n : Int, Rn 18 [st s] (.tup [i64 n, tb (numb s)], [.dead]) := by
  by_cases h9 : s.size ≤ 9
  · rcases r28 s with h | ⟨hb, n, h⟩
    · exact ⟨_, f18 _ _ (cF (by simp; omega) ⟨_, _, h, by unfold numb; rw [decide_eq_true h9, Bool.true_and]⟩)⟩
    · exact ⟨_, f18 _ _ (cF (by simp; omega) ⟨_, _, h, by unfold numb; rw [hb, Bool.and_false]⟩)⟩
  · exact ⟨0, f18 _ _ (cT (by simp; omega) (by unfold numb; rw [decide_eq_false h9, Bool.false_and]))⟩
/-! ### Pairs -/
theorem decN_two {n b0 b1 b2 b3 : Nat} (h : 1072 ≤ (Lib.decodeN n b0 b1 b2 b3).1 ∧ (Lib.decodeN n b0 b1 b2 b3).1 ≤ 1103) (h0 : ¬ b0 < 128) :
    b0 / 32 = 6 ∧ (1 < n ∧ b1 / 64 = 2) ∧ b0 % 32 * 64 + b1 % 64 ≥ 128 ∧ Lib.decodeN n b0 b1 b2 b3 = (b0 % 32 * 64 + b1 % 64, 2) := by
  unfold Lib.decodeN at h ⊢
  rw [if_neg h0] at h ⊢
  by_cases h2 : b0 / 32 = 6 ∧ (1 < n ∧ b1 / 64 = 2)
  · rw [if_pos h2] at h ⊢
    by_cases h3 : b0 % 32 * 64 + b1 % 64 ≥ 128
    · rw [if_pos h3]; exact ⟨h2.1, h2.2, h3, rfl⟩
    · rw [if_neg h3] at h; simp only at h; omega
  · rw [if_neg h2] at h
    exfalso
    repeat' split at h
    all_goals (simp only at h; omega)
theorem run_no62 {t : ByteArray} : ∀ (f n k : Nat), (run t f n k).1 = t.size → n ≤ t.size → ∀ j, n ≤ j → j < t.size → bt t j ≠ 62
  | 0, n, k, h, hn, j, h1, h2 => by rw [run] at h; simp only at h; omega
  | f + 1, n, k, h, hn, j, h1, h2 => by
    rw [run] at h
    by_cases hc : n < t.size ∧ ins (Utf8.decode t n).1 = true
    · rw [if_pos hc] at h
      have hz := dec_size hc.1
      by_cases hj : n + (Utf8.decode t n).2 ≤ j
      · exact run_no62 f _ _ h hz.2 j hj h2
      · by_cases hlow : bt t n < 128
        · have hd := dec_low (s := t) (i := n) hlow
          rw [hd] at hj hc
          simp only at hj
          have : j = n := by omega
          subst this
          intro h62
          rw [h62] at hc
          exact absurd hc.2 (by decide)
        · have hr : 1072 ≤ (Utf8.decode t n).1 ∧ (Utf8.decode t n).1 ≤ 1103 := by
            have hins := hc.2
            have := dec_high (s := t) (i := n) (by omega)
            simp [ins, ltr, dig] at hins
            omega
          rw [dec_eq] at hr hj
          obtain ⟨e1, e2, e3, e4⟩ := decN_two hr hlow
          rw [e4] at hj
          simp only at hj
          intro h62
          have : j = n ∨ j = n + 1 := by omega
          rcases this with rfl | rfl
          · omega
          · omega
    · rw [if_neg hc] at h; simp only at h; omega
theorem nm_no62 {t : ByteArray} (h : nm t = true) : (62 : UInt8) ∉ bl t := by
  simp only [nm, Bool.and_eq_true, decide_eq_true_eq] at h
  intro hm
  obtain ⟨j, hj, e⟩ := List.getElem_of_mem hm
  rw [bl_len] at hj
  refine run_no62 t.size 0 0 h.1.2 (by omega) j (by omega) hj ?_
  unfold bt
  rw [List.getD_eq_getElem?_getD, List.getElem?_eq_getElem (by rw [bl_len]; exact hj), Option.getD_some, e]
  rfl
/-- A pair's words. -/
def pr1 (p : ByteArray) : Bool := match pieces 62 p with
  | [a, b] => nm a && nm b
  | _ => false
theorem cut_pcs (c : UInt8) : ∀ l : List UInt8, (∀ h, pcs c l = [h] → Lib.cut l [c] = (l, [], false)) ∧ (∀ h i t, pcs c l = h :: i :: t → ∃ r, Lib.cut l [c] = (h, r, true) ∧ pcs c r = i :: t) := by
  intro l
  induction l with
  | nil =>
    refine ⟨fun h _ => by simp [Lib.cut, Lib.index], fun h i t e => by simp [pcs] at e⟩
  | cons x r ih =>
    by_cases hx : x = c
    · subst hx
      have hi : Lib.index (x :: r) [x] = 0 := by rw [Lib.index_one]; simp [Lib.indexByte]
      have hc : Lib.cut (x :: r) [x] = ([], r, true) := by
        unfold Lib.cut; rw [hi, if_pos (by decide)]; simp
      refine ⟨fun h e => ?_, fun h i t e => ?_⟩
      · rw [pcs, if_pos rfl] at e
        injection e with e1 e2
        exact absurd e2 (pcs_ne _ _)
      · rw [pcs, if_pos rfl] at e
        injection e with e1 e2
        exact ⟨r, by rw [hc, e1], e2⟩
    · have hi : Lib.index (x :: r) [c] = if Lib.index r [c] == -1 then -1 else Lib.index r [c] + 1 := by
        rw [Lib.index_one, Lib.index_one, Lib.indexByte, if_neg (by simpa using hx)]
      have hge : -1 ≤ Lib.index r [c] := by rw [Lib.index_one]; exact Lib.indexByte_ge r c
      have hcut : Lib.cut (x :: r) [c] = (x :: (Lib.cut r [c]).1, (Lib.cut r [c]).2.1, (Lib.cut r [c]).2.2) := by
        unfold Lib.cut
        by_cases hm : Lib.index r [c] = -1
        · rw [hi, hm]; simp
        · have hne : (Lib.index r [c] == -1) = false := by simpa using hm
          obtain ⟨j, hj⟩ : ∃ j : Nat, Lib.index r [c] = j := ⟨(Lib.index r [c]).toNat, by omega⟩
          have hi' : Lib.index (x :: r) [c] = ((j + 1 : Nat) : Int) := by rw [hi, hne, if_neg (by simp), hj]; omega
          rw [hi', hj, if_pos (by omega), if_pos (by omega)]
          simp
      cases hp : pcs c r with
      | nil => exact absurd hp (pcs_ne c r)
      | cons a b =>
        refine ⟨fun h e => ?_, fun h i t e => ?_⟩
        · rw [pcs_cons hx hp] at e
          injection e with e1 e2
          subst e2
          rw [hcut, ih.1 a hp]
        · rw [pcs_cons hx hp] at e
          injection e with e1 e2
          subst e2
          obtain ⟨r', h1, h2⟩ := ih.2 a i t hp
          rw [hcut, h1]
          exact ⟨r', by rw [← e1], h2⟩
theorem pcs_two_mem {c : UInt8} {r : List UInt8} {i j : List UInt8} {t : List (List UInt8)} (h : pcs c r = i :: j :: t) : c ∈ r := by
  refine Classical.byContradiction fun hn => ?_
  have : ∀ l : List UInt8, c ∉ l → pcs c l = [l] := by
    intro l
    induction l with
    | nil => intro _; rfl
    | cons x l ih =>
      intro hx
      simp only [List.mem_cons, not_or] at hx
      exact pcs_cons (Ne.symm hx.1) (ih hx.2)
  rw [this r hn] at h
  injection h with _ h
  cases h
/-- What the program makes of a pair. -/
theorem pr1_cut (p : ByteArray) : pr1 p = ((cut1 62 p).2.2 && nm (bs (cut1 62 p).1) && nm (bs (cut1 62 p).2.1)) := by
  have hc := cut_pcs 62 (bl p)
  have e0 : cut1 62 p = Lib.cut (bl p) [62] := rfl
  unfold pr1
  rw [pieces_bl]
  cases hp : pcs 62 (bl p) with
  | nil => exact absurd hp (pcs_ne _ _)
  | cons a b =>
    cases b with
    | nil =>
      rw [e0, hc.1 a hp]
      rfl
    | cons b t =>
      obtain ⟨r, h1, h2⟩ := hc.2 a b t hp
      rw [e0, h1]
      cases t with
      | nil =>
        have hr : r = b := by
          have hh := (cut_pcs 62 r).1 b h2
          have : ∀ l : List UInt8, (62 : UInt8) ∉ l → pcs 62 l = [l] := by
            intro l
            induction l with
            | nil => intro _; rfl
            | cons x l ih =>
              intro hx
              simp only [List.mem_cons, not_or] at hx
              exact pcs_cons (Ne.symm hx.1) (ih hx.2)
          have key : ∀ l h : List UInt8, pcs 62 l = [h] → l = h := by
            intro l
            induction l with
            | nil => intro h e; simp [pcs] at e; exact e.symm
            | cons x l ih =>
              intro h e
              by_cases hx : x = 62
              · rw [pcs, if_pos hx] at e
                injection e with _ e
                exact absurd e (pcs_ne _ _)
              · cases hq : pcs 62 l with
                | nil => exact absurd hq (pcs_ne _ _)
                | cons u v =>
                  rw [pcs_cons hx hq] at e
                  injection e with e1 e2
                  subst e2
                  rw [← e1, ih u hq]
          exact key r b h2
        subst hr
        simp
      | cons d t =>
        have hm := pcs_two_mem h2
        have : nm (bs r) = false := by
          cases hn : nm (bs r) with
          | false => rfl
          | true => exact absurd hm (by have := nm_no62 hn; rwa [bl_bs] at this)
        simp [this]
def prs (s : ByteArray) : Bool := decide (s = bs [45]) || (pieces 44 s).all pr1
theorem toNatN (k : Nat) : Int.toNat (k : Int) = k := by simp
theorem ml20 {n : Nat} (h : n ≤ 20000) : n ≤ maxLen := Nat.le_trans h (by decide)
theorem getp {l : List ByteArray} {k : Nat} (h : k < l.length) : (l.map st)[Int.toNat (k : Int)]? = some (st l[k]) := getm h
theorem r15 (s : ByteArray) (hs : s.size ≤ 20000) : ∃ l : List T, Rn 15 [st s] (.tup [.sl 2 l, tb (prs s)], [.dead]) := by
  by_cases h0 : s = bs [45]
  · exact ⟨[], f15 _ _ (cT (by simpa using h0) (by unfold prs; rw [decide_eq_true h0, Bool.true_or]))⟩
  have hlen := pieces_len 44 s
  have loop : ∀ (d k : Nat) (acc : List T), k + d = (pieces 44 s).length → acc.length ≤ k → ∃ l : List T, L15_0 acc ((pieces 44 s).map st) (((pieces 44 s).map st).length : Nat) (k : Int) (.tup [.sl 2 l, tb (((pieces 44 s).drop k).all pr1)], [.dead]) := by
    intro d
    induction d with
    | zero =>
      intro k acc hk ha
      refine ⟨acc, l15_0 _ _ _ _ _ (cF (by simp; omega) ?_)⟩
      rw [List.drop_of_length_le (by omega)]; rfl
    | succ d ih =>
      intro k acc hk ha
      have hlt : k < (pieces 44 s).length := by omega
      have hm := pieces_mem (List.getElem_mem hlt)
      rw [List.drop_eq_getElem_cons hlt, List.all_cons]
      generalize hp : (pieces 44 s)[k] = p at hm ⊢
      have hg : ((pieces 44 s).map st)[Int.toNat (k : Int)]? = some (st p) := by rw [getp hlt, hp]
      have hcut := pr1_cut p
      have sz : (bs (cut1 62 p).1).size ≤ maxLen ∧ (bs (cut1 62 p).2.1).size ≤ maxLen := by
        have hl := bl_len p
        have h1 : (cut1 62 p).1.length ≤ (bl p).length ∧ (cut1 62 p).2.1.length ≤ (bl p).length := by
          show (Lib.cut (bl p) [62]).1.length ≤ _ ∧ (Lib.cut (bl p) [62]).2.1.length ≤ _
          unfold Lib.cut
          split <;> simp
          all_goals (try omega)
        have b1 := bl_len (bs (cut1 62 p).1)
        have b2 := bl_len (bs (cut1 62 p).2.1)
        rw [bl_bs] at b1 b2
        exact ⟨ml20 (by omega), ml20 (by omega)⟩
      have step : ∀ R : T × List T, (pr1 p = false → R = (.tup [.sl 2 [], tb false], [.dead])) → (pr1 p = true → L15_0 (acc ++ [.agg [st (bs (cut1 62 p).1), st (bs (cut1 62 p).2.1)]]) ((pieces 44 s).map st) (((pieces 44 s).map st).length : Nat) (((k + 1 : Nat)) : Int) R) →
          L15_0 acc ((pieces 44 s).map st) (((pieces 44 s).map st).length : Nat) (k : Int) R := by
        intro R hf ht
        refine l15_0 _ _ _ _ _ (cT (by simp; omega) ⟨p, ⟨by omega, hg⟩, _, _, _, runs27 62 p (by omega), ?_⟩)
        cases hb0 : (cut1 62 p).2.2 with
        | false => exact cT rfl (hf (by rw [hcut, hb0]; rfl))
        | true =>
          refine cF rfl ⟨_, r14 _ sz.1, ?_⟩
          cases hb1 : nm (bs (cut1 62 p).1) with
          | false => exact cT rfl (hf (by rw [hcut, hb1]; simp))
          | true =>
            refine cF rfl ⟨_, r14 _ sz.2, ?_⟩
            cases hb2 : nm (bs (cut1 62 p).2.1) with
            | false => exact cT rfl (hf (by rw [hcut, hb2]; simp))
            | true =>
              refine cF rfl (ckn (by omega) ?_)
              rw [wS (by omega)]
              exact ht (by rw [hcut, hb0, hb1, hb2]; rfl)
      cases hpr : pr1 p with
      | false => exact ⟨[], step _ (fun _ => rfl) (fun h => by rw [hpr] at h; cases h)⟩
      | true =>
        obtain ⟨l, hl⟩ := ih (k + 1) (acc ++ [.agg [st (bs (cut1 62 p).1), st (bs (cut1 62 p).2.1)]]) (by omega) (by simp; omega)
        exact ⟨l, step _ (fun h => by rw [hpr] at h; cases h) (fun _ => hl)⟩
  obtain ⟨l, h⟩ := loop (pieces 44 s).length 0 [] (by omega) (by simp)
  refine ⟨l, f15 _ _ (cF (by simpa using h0) ⟨_, runs11 44 s hs, ?_⟩)⟩
  rw [List.drop_zero] at h
  unfold prs
  rw [decide_eq_false h0, Bool.false_or]
  exact h
theorem r20 (s : ByteArray) (hs : s.size ≤ 20000) : ∃ l : List T, Rn 20 [st s] (.tup [.sl 2 l, tb (prs s)], [.dead]) := by
  by_cases h0 : s = bs [45]
  · exact ⟨[], f20 _ _ (cT (by simpa using h0) (by unfold prs; rw [decide_eq_true h0, Bool.true_or]))⟩
  have hlen := pieces_len 44 s
  have loop : ∀ (d k : Nat) (acc : List T), k + d = (pieces 44 s).length → acc.length ≤ k → ∃ l : List T, L20_0 acc ((pieces 44 s).map st) (((pieces 44 s).map st).length : Nat) (k : Int) (.tup [.sl 2 l, tb (((pieces 44 s).drop k).all pr1)], [.dead]) := by
    intro d
    induction d with
    | zero =>
      intro k acc hk ha
      refine ⟨acc, l20_0 _ _ _ _ _ (cF (by simp; omega) ?_)⟩
      rw [List.drop_of_length_le (by omega)]; rfl
    | succ d ih =>
      intro k acc hk ha
      have hlt : k < (pieces 44 s).length := by omega
      have hm := pieces_mem (List.getElem_mem hlt)
      rw [List.drop_eq_getElem_cons hlt, List.all_cons]
      generalize hp : (pieces 44 s)[k] = p at hm ⊢
      have hg : ((pieces 44 s).map st)[Int.toNat (k : Int)]? = some (st p) := by rw [getp hlt, hp]
      have h16 := r16 p 62 (by omega)
      have hpm : ∀ q ∈ pieces 62 p, q.size ≤ maxLen := fun q hq => ml20 (by have := (pieces_mem hq).1; omega)
      have stop : ∀ (b : Bool), (pieces 62 p).length ≠ 2 → ∃ l : List T, L20_0 acc ((pieces 44 s).map st) (((pieces 44 s).map st).length : Nat) (k : Int) (.tup [.sl 2 l, tb false], [.dead]) := fun b h2 =>
        ⟨[], l20_0 _ _ _ _ _ (cT (by simp; omega) ⟨p, ⟨by omega, hg⟩, _, h16, cT (by simp; omega) rfl⟩)⟩
      have hpr : pr1 p = match pieces 62 p with | [a, b] => nm a && nm b | _ => false := rfl
      match hq : pieces 62 p with
      | [] => exact absurd hq (pieces_ne _ _)
      | [x] => rw [hpr, hq, Bool.false_and]; exact stop true (by rw [hq]; simp)
      | x :: y :: z :: t => rw [hpr, hq, Bool.false_and]; exact stop true (by rw [hq]; simp)
      | [x, y] =>
        rw [hpr, hq]
        rw [hq] at h16 hpm
        have nx := r19 x (hpm x (by simp))
        have ny := r19 y (hpm y (by simp))
        simp only
        have start : ∀ R : T × List T, _ → L20_0 acc ((pieces 44 s).map st) (((pieces 44 s).map st).length : Nat) (k : Int) R := fun R hR =>
          l20_0 _ _ _ _ _ (cT (by simp; omega) ⟨p, ⟨by omega, hg⟩, _, h16, cF rfl ⟨x, ⟨by omega, rfl⟩, _, nx, hR⟩⟩)
        cases hx : nm x with
        | false => exact ⟨[], start _ (by rw [hx]; exact cT rfl rfl)⟩
        | true =>
          cases hy : nm y with
          | false => exact ⟨[], start _ (by rw [hx]; exact cF rfl ⟨y, ⟨by omega, rfl⟩, _, ny, by rw [hy]; exact cT rfl rfl⟩)⟩
          | true =>
            obtain ⟨l, hl⟩ := ih (k + 1) (acc ++ [.agg [st x, st y]]) (by omega) (by simp; omega)
            refine ⟨l, start _ ?_⟩
            rw [hx]
            refine cF rfl ⟨y, ⟨by omega, rfl⟩, _, ny, ?_⟩
            rw [hy]
            refine cF rfl ⟨x, ⟨by omega, rfl⟩, y, ⟨by omega, rfl⟩, ckn (by omega) ?_⟩
            rw [wS (by omega)]
            exact hl
  obtain ⟨l, h⟩ := loop (pieces 44 s).length 0 [] (by omega) (by simp)
  refine ⟨l, f20 _ _ (cF (by simpa using h0) ⟨_, r16 s 44 hs, ?_⟩)⟩
  rw [List.drop_zero] at h
  unfold prs
  rw [decide_eq_false h0, Bool.false_or]
  exact h
end Go.Proofs.YtgfaadooijngnaaDoorT
