/- The text of a chart, by the document: states; the whole. -/
import Derived.Test.YtfknpnkdedckhaaGreatDoorM1
import Derived.Test.YtfknpnkdedckhaaGreatDoorM2
import Derived.Laws.AppendOwn
import Derived.OwnWalk
import Derived.WalkKit
import Derived.Maps.AppendAt
import Derived.Lib.Builder
import Derived.Lib.AppendStr
import Derived.Lib.UnsafeStr
import Derived.Shelf.Strings.Repeat
import Derived.Shelf.Strings.OnBuilder
import Derived.Deep.RegionWith
import Derived.Deep.DeepCutAuto
import Derived.Deep.CutBlock
import Derived.Deep.RegionHeld3
namespace Go.Proofs.YtfknpnkdedckhaaGreatDoorT
open Go Go.Proofs
set_option linter.unusedVariables false
theorem itoa_bs (n : Int) : (⟨(Lib.itoa n).toArray⟩ : ByteArray) = bs (Lib.itoa n) := rfl
theorem r97 {n : Int} (h0 : -1000000000 ≤ n) (h1 : n ≤ 1000000000) : Rn 97 [i64 n] (st (bs (Lib.itoa n)), [.dead]) :=
  runs_of_calls (us := [.int .i64 n]) ⟨Tryz.f97, Tryz.func97, by decide, by kernel_rfl⟩ (by simp [plainV]) fun w hG =>
    (Any.strconv_Itoa Tryz.laysItoa n (by omega) (by omega) w (glob_pow hG)).mono fun e w' ⟨he, k, os, hw⟩ => ⟨by rw [hw]; exact Lib.below_grow _ _ (Nat.le_refl _) _ _, _, he, fun ok => X_s rfl⟩
theorem r98i {n : Int} (h0 : -1000000000 ≤ n) (h1 : n ≤ 1000000000) : Rn 98 [i64 n, i64 10] (st (bs (Lib.itoa n)), [.dead, .dead]) :=
  f98 _ _ _ ⟨_, runsItoa n (by omega) (by omega), rfl⟩
theorem tabs_succ (d : Nat) : bs (tabs d) ++ bs [9] = bs (tabs (d + 1)) := ext_bl (by rw [bl_append, bl_bs, bl_bs, bl_bs]; simp only [tabs]; rw [List.replicate_succ'])
theorem tabs_len (d : Nat) : (tabs d).length = d := by simp [tabs]
/-- The states in a state. -/
theorem inner102 {d : Nat} {l : List Stt} {w : W_tumbrelref06_State} (hw : w.fInner = l.map fun s => s.d.t) (hl : l.length ≤ 400)
    (hr : ∀ s ∈ l, Rn 102 [s.d.t, st (bs (tabs (d + 1)))] (st (bs (s.tx (d + 1))), [.dead, .dead])) :
    ∀ (c k : Nat) (out : ByteArray), k + c = l.length → out.size + (((l.drop k).flatMap fun s => s.tx (d + 1)) ++ ln d [125]).length ≤ 1000000000 →
      L102_2 (bs (tabs d)) (bs (tabs (d + 1))) out ((w.fInner.length : Nat) : Int) (k : Int) w (st (bs (bl out ++ (((l.drop k).flatMap fun s => s.tx (d + 1)) ++ ln d [125]))), [.dead, .dead]) := by
  have ht := tabs_len d
  intro c
  induction c with
  | zero =>
    intro k out hk hsz
    rw [List.drop_of_length_le (by omega)] at hsz ⊢
    simp only [List.length_append, ln_len, List.flatMap_nil, List.length_cons, List.length_nil] at hsz
    refine l102_2 _ _ _ _ _ _ _ (cF (by rw [hw]; simp; omega) ⟨by simp only [sizeL, ht]; omega, by simp only [size_append, size_bs, sizeL, ht, List.length_cons, List.length_nil]; omega, sb ?_⟩)
    simp [bl_append, bl_bs, ln]
  | succ c ih =>
    intro k out hk hsz
    have hlt : k < l.length := by omega
    have hm := List.getElem_mem hlt
    have h0 := hr _ hm
    rw [List.drop_eq_getElem_cons hlt, List.flatMap_cons] at hsz ⊢
    have gg : w.fInner[Int.toNat (k : Int)]? = some (l[k]).d.t := by rw [hw]; exact getm (f := fun s : Stt => s.d.t) hlt
    have next := ih (k + 1) (out ++ bs ((l[k]).tx (d + 1))) (by omega) (by simp only [List.length_append] at hsz; simp only [List.length_append, size_append, sizeL]; omega)
    simp only [List.length_append] at hsz
    refine l102_2 _ _ _ _ _ _ _ (cT (by rw [hw]; simp; omega) ⟨(l[k]).d, ⟨by omega, gg⟩, _, h0, by simp only [sizeL]; omega, ?_⟩)
    rw [wS (by omega)]
    simpa [bl_append, bl_bs] using next
theorem head_ln {d : Nat} {n : ByteArray} {b : Sb} (h : b.name = n) : bs (tabs d) ++ bs [115, 116, 97, 116, 101, 32] ++ n ++ bs [32, 123, 10] = bs (ln d b.head) := by
  subst h
  exact ext_bl (by simp [bl_append, bl_bs, ln, Sb.head])
theorem r102 : ∀ s : Stt, s.sz → s.wt ≤ 400 → ∀ d : Nat, d ≤ 7 → s.fm d = true → Rn 102 [s.d.t, st (bs (tabs d))] (st (bs (s.tx d)), [.dead, .dead]) := by
  refine Stt.rec_in fun b l ih hsz hwt d hd hf => ?_
  have hlen := stt_len _ d hf
  have hlt := lt_of hwt
  rw [Stt.sz] at hsz
  obtain ⟨⟨hz1, hz2, hz3, hz4⟩, hzl⟩ := hsz
  have hzl := (szl_iff l).1 hzl
  have ein : (Stt.mk b l).d = b.d (l.map fun s => s.d.t) := d_mk _
  rw [fm_mk] at hf
  simp only [Bool.and_eq_true, decide_eq_true_eq, List.all_eq_true] at hf
  obtain ⟨⟨hd6, hb⟩, hl⟩ := hf
  have hb' := hb
  simp only [Sb.fm, Bool.and_eq_true] at hb'
  have hin := inner102 (d := d) (l := l) (w := b.d (l.map fun s => s.d.t)) rfl hlt.inner (fun s hm => ih s hm (hzl s hm) (hlt.each s hm) (d + 1) (by omega) (hl s hm))
  rw [ein]
  rw [tx_mk] at hlen ⊢
  have htot : (ln d b.head ++ (b.kd (d + 1) ++ (b.ons.flatMap (fun o => ln (d + 1) o.tx) ++ ((l.flatMap fun s => s.tx (d + 1)) ++ ln d [125])))).length ≤ 2000000 := by omega
  clear hlen
  simp only [List.length_append] at htot
  -- what follows the kind
  have rest : ∀ out : ByteArray, bl out = ln d b.head ++ b.kd (d + 1) →
      L102_0 (bs (tabs d)) (bs (tabs (d + 1))) out (((b.d (l.map fun s => s.d.t)).fOns.length : Nat) : Int) 0 (b.d (l.map fun s => s.d.t)) (st (bs (ln d b.head ++ (b.kd (d + 1) ++ (b.ons.flatMap (fun o => ln (d + 1) o.tx) ++ ((l.flatMap fun s => s.tx (d + 1)) ++ ln d [125]))))), [.dead, .dead]) := by
    intro out ho
    have hosz : out.size = (ln d b.head).length + (b.kd (d + 1)).length := by rw [← len_bl, ho, List.length_append]
    have h1 := hin l.length 0 (bs (bl out ++ b.ons.flatMap fun o => ln (d + 1) o.tx)) (by omega) (by rw [sizeL, List.drop_zero]; simp only [List.length_append, len_bl]; omega)
    have h2 := ons102 (d0 := d) (b := b) hz4 hb'.2 hlt.ons hlt.sets b.ons.length 0 out (by omega) (by rw [List.drop_zero]; omega) (by rw [List.drop_zero]; exact h1)
    have e : bs (bl (bs (bl out ++ b.ons.flatMap fun o => ln (d + 1) o.tx)) ++ (((l.drop 0).flatMap fun s => s.tx (d + 1)) ++ ln d [125])) = bs (ln d b.head ++ (b.kd (d + 1) ++ (b.ons.flatMap (fun o => ln (d + 1) o.tx) ++ ((l.flatMap fun s => s.tx (d + 1)) ++ ln d [125])))) := by
      rw [bl_bs, ho, List.drop_zero]; simp
    rw [e] at h2
    exact h2
  have hh := head_ln (d := d) (b := b) rfl
  have ht := tabs_len d
  have ht' := tabs_len (d + 1)
  have hhl : (ln d b.head).length = d + (6 + (b.name.size + 2)) + 1 := by rw [ln_len]; simp only [Sb.head, List.length_append, len_bl, List.length_cons, List.length_nil]
  have z1 : (b.d (l.map fun s => s.d.t)).fName = b.name := rfl
  have z2 : (b.d (l.map fun s => s.d.t)).fDo = b.do_ := rfl
  have z3 : (b.d (l.map fun s => s.d.t)).fUndo = b.undo := rfl
  have z4 : (b.d (l.map fun s => s.d.t)).fAll = b.all := rfl
  have z5 : (b.d (l.map fun s => s.d.t)).fEnd = b.en := rfl
  have z6 : (b.d (l.map fun s => s.d.t)).fWhere = b.where_ := rfl
  have z7 : (b.d (l.map fun s => s.d.t)).fRetries = b.retries := rfl
  refine f102 _ _ _ ?_
  rw [z1, z2, z3, z4, z5, z6, z7, hh, tabs_succ]
  refine ⟨by simp only [sizeL, size_bs, ht, List.length_cons, List.length_nil]; omega, by simp only [sizeL, size_bs, ht, List.length_cons, List.length_nil]; omega, by simp only [sizeL, size_append, size_bs, ht, List.length_cons, List.length_nil]; omega, by simp only [sizeL, size_append, size_bs, ht, List.length_cons, List.length_nil]; omega, ?_⟩
  have hkd : ∀ t : By, b.kd (d + 1) = t → (b.kd (d + 1)).length = t.length := fun t h => by rw [h]
  cases ha : b.all with
  | true =>
    have hk : b.kd (d + 1) = ln (d + 1) [97, 108, 108] := by simp [Sb.kd, ha]
    refine cT rfl ⟨by simp only [sizeL, ht']; omega, by simp only [sizeL, size_append, size_bs, ht', List.length_cons, List.length_nil]; omega, ?_⟩
    exact rest _ (by rw [hk]; simp [bl_append, bl_bs, ln])
  | false =>
    refine cF rfl ?_
    cases hen : b.en with
    | true =>
      have hk : b.kd (d + 1) = ln (d + 1) [101, 110, 100] := by simp [Sb.kd, ha, hen]
      refine cT rfl ⟨by simp only [sizeL, ht']; omega, by simp only [sizeL, size_append, size_bs, ht', List.length_cons, List.length_nil]; omega, ?_⟩
      exact rest _ (by rw [hk]; simp [bl_append, bl_bs, ln])
    | false =>
      refine cF rfl ?_
      by_cases hdo : b.do_ = bs []
      · have hk : b.kd (d + 1) = [] := by simp [Sb.kd, ha, hen, hdo]
        refine cF (by rw [hdo]; rfl) ?_
        exact rest _ (by rw [hk, bl_bs, List.append_nil])
      · have hs : b.step = true := by simp [Sb.step, hdo]
        have h4 : b.four = true := by
          rcases Bool.or_eq_true_iff.1 hb'.1.2 with h4 | h4
          · rw [hs] at h4; cases h4
          · exact h4
        simp only [Sb.four, Bool.and_eq_true] at h4
        have q3 := num9_b h4.1.2
        have q4 := num9_b h4.2
        have hk : b.kd (d + 1) = ln (d + 1) ([100, 111, 32] ++ (bl b.do_ ++ ([32, 117, 110, 100, 111, 32] ++ (bl b.undo ++ ([32, 97, 116, 32] ++ (Lib.itoa b.where_ ++ ([32, 114, 101, 116, 114, 105, 101, 115, 32] ++ Lib.itoa b.retries))))))) := by simp [Sb.kd, ha, hen, hdo]
        have hkl := hkd _ hk
        rw [ln_len] at hkl
        simp only [List.length_append, len_bl, List.length_cons, List.length_nil] at hkl
        refine cT (by simp [hdo]) ⟨?_, ?_, ?_, ?_, ?_, ?_, _, r97 (by omega) q3.2, ?_, ?_, _, r97 (by omega) q4.2, ?_, ?_, ?_⟩
        iterate 10 (focus (simp only [sizeL, size_append, size_bs, ht', List.length_cons, List.length_nil]; omega))
        exact rest _ (by rw [hk]; simp [bl_append, bl_bs, ln])
/-! ### Whole charts -/
/-- The variables. -/
theorem vars36 {c : Ch} {R : T × List T} (hl : c.vars.length ≤ 200) (hf : ∀ x ∈ c.vars, x.fm = true) :
    ∀ (d k : Nat) (out : ByteArray), k + d = c.vars.length → out.size + ((c.vars.drop k).flatMap fun x => ln 1 x.tx).length ≤ 1000000000 →
      L36_1 (bs (bl out ++ (c.vars.drop k).flatMap fun x => ln 1 x.tx)) ((c.d.fStates.length : Nat) : Int) 0 c.d R →
      L36_0 out ((c.d.fVars.length : Nat) : Int) (k : Int) c.d R := by
  have hsl : c.d.fVars = c.vars.map fun x => x.d.t := rfl
  intro d
  induction d with
  | zero =>
    intro k out hk hsz h
    rw [List.drop_of_length_le (by omega)] at h
    refine l36_0 _ _ _ _ _ (cF (by rw [hsl]; simp; omega) ?_)
    simpa [bs_bl] using h
  | succ d ih =>
    intro k out hk hsz h
    have hlt : k < c.vars.length := by omega
    have hm := List.getElem_mem hlt
    have hx := hf _ hm
    rw [List.drop_eq_getElem_cons hlt, List.flatMap_cons] at h hsz
    have gg : c.d.fVars[Int.toNat (k : Int)]? = some (c.vars[k]).d.t := by rw [hsl]; exact getm (f := fun x : Vr => x.d.t) hlt
    generalize c.vars[k] = x at hx h hsz gg
    simp only [Vr.fm, Bool.and_eq_true, decide_eq_true_eq] at hx
    have z1 : x.d.fName = x.name := rfl
    have z2 : x.d.fN = x.n := rfl
    generalize hrest : ((c.vars.drop (k + 1)).flatMap fun x => ln 1 x.tx) = rest at h hsz
    have next := ih (k + 1)
    rw [hrest] at next
    simp only [List.length_append, ln_len, Vr.tx, len_bl, List.length_cons, List.length_nil] at hsz
    refine l36_0 _ _ _ _ _ (cT (by rw [hsl]; simp; omega) ⟨?_, x.d, ⟨by omega, gg⟩, ?_, ?_, x.d, ⟨by omega, gg⟩, _, r98i hx.1.2 hx.2, ?_, ?_, ?_⟩)
    iterate 5 (focus (simp only [z1, z2, sizeL, size_append, size_bs, List.length_cons, List.length_nil]; omega))
    rw [wS (by omega)]
    refine next _ (by omega) (by simp only [z1, z2, sizeL, size_append, size_bs, List.length_cons, List.length_nil]; omega) ?_
    have e : bs (bl (out ++ bs [9, 118, 97, 114, 32] ++ x.d.fName ++ bs [32, 61, 32] ++ bs (Lib.itoa x.d.fN) ++ bs [10]) ++ rest) = bs (bl out ++ (ln 1 x.tx ++ rest)) := by
      congr 1
      simp [bl_append, bl_bs, ln, Vr.tx, z1, z2, tabs]
    rw [e]; exact h
/-- Print's answer. -/
def prC (c : Ch) : ByteArray × Int := if c.fm = true then (if (wordsOf (bs c.tx)).2.2 = 0 then (bs c.tx, 0) else (bs [], 4)) else (bs [], 1)
theorem r36 (c : Ch) (hs : c.sz) (hl : Light c) : Rn 36 [c.d.t] (.tup [st (prC c).1, i64 (prC c).2], [.dead]) := by
  refine f36 _ _ ⟨_, r38 c hs hl, ?_⟩
  cases hf : c.fm with
  | false => exact cT rfl (by unfold prC; rw [hf]; rfl)
  | true =>
    have hlen := ch_len hf hl
    have hf' := hf
    simp only [Ch.fm, Bool.and_eq_true, List.all_eq_true] at hf'
    have h1 := pl_size hf'.1.1.1
    have h2 := num9_b hf'.1.1.2
    have hst := hl.each
    have z1 : c.d.fName = c.name := rfl
    have z2 : c.d.fVersion = c.version := rfl
    have hh : bs [99, 104, 97, 114, 116, 32] ++ c.name ++ bs [32] ++ bs (Lib.itoa c.version) ++ bs [32, 123, 10] = bs (ln 0 c.head) := ext_bl (by simp [bl_append, bl_bs, ln, Ch.head, tabs])
    have hhl : (ln 0 c.head).length = 0 + (6 + (c.name.size + (1 + ((Lib.itoa c.version).length + 2)))) + 1 := by rw [ln_len]; simp only [Ch.head, List.length_append, len_bl, List.length_cons, List.length_nil]
    simp only [Ch.tx, List.length_append] at hlen
    -- the states
    have states : ∀ (d k : Nat) (out : ByteArray), k + d = c.states.length → bl out ++ (((c.states.drop k).flatMap fun s => s.tx 1) ++ ln 0 [125]) = c.tx →
        L36_1 out ((c.d.fStates.length : Nat) : Int) (k : Int) c.d (.tup [st (prC c).1, i64 (prC c).2], [.dead]) := by
      have hsl : c.d.fStates = c.states.map fun s => s.d.t := rfl
      have hlen := ch_len hf hl
      intro d
      induction d with
      | zero =>
        intro k out hk he
        have hsz := congrArg List.length he
        rw [List.drop_of_length_le (by omega)] at he hsz
        simp only [List.length_append, ln_len, len_bl, List.flatMap_nil, List.length_cons, List.length_nil] at hsz
        have e : out ++ bs [125, 10] = bs c.tx := ext_bl (by rw [← he]; simp [bl_append, bl_bs, ln, tabs])
        refine l36_1 _ _ _ _ _ (cF (by rw [hsl]; simp; omega) ⟨by simp only [size_bs, List.length_cons, List.length_nil]; omega, ?_⟩)
        rw [e]
        refine ⟨(wordsOf (bs c.tx)).1.map W_glyph_Word.t, ⟨((wordsOf (bs c.tx)).2.1.1 : Nat), ((wordsOf (bs c.tx)).2.1.2 : Nat)⟩, ((wordsOf (bs c.tx)).2.2 : Nat), r103 _, ?_⟩
        unfold prC
        rw [hf, if_pos rfl]
        by_cases h : (wordsOf (bs c.tx)).2.2 = 0
        · rw [if_pos h]; exact cF (by simp [h]) rfl
        · rw [if_neg h]; exact cT (by simp; omega) rfl
      | succ d ih =>
        intro k out hk he
        have hlt : k < c.states.length := by omega
        have hm := List.getElem_mem hlt
        have hsz := congrArg List.length he
        rw [List.drop_eq_getElem_cons hlt, List.flatMap_cons] at he hsz
        simp only [List.length_append, len_bl] at hsz
        have gg : c.d.fStates[Int.toNat (k : Int)]? = some (c.states[k]).d.t := by rw [hsl]; exact getm (f := fun s : Stt => s.d.t) hlt
        refine l36_1 _ _ _ _ _ (cT (by rw [hsl]; simp; omega) ⟨(c.states[k]).d, ⟨by omega, gg⟩, _, r102 _ (hs.states _ hm) (hst.1 _ hm) 1 (by omega) (hf'.2 _ hm), by simp only [sizeL]; omega, ?_⟩)
        rw [wS (by omega)]
        refine ih (k + 1) _ (by omega) ?_
        rw [← he]; simp [bl_append, bl_bs]
    refine cF rfl ?_
    rw [z1, z2]
    refine ⟨?_, ?_, _, r97 (by omega) h2.2, ?_, ?_, ?_⟩
    iterate 4 (focus (simp only [sizeL, size_append, size_bs, List.length_cons, List.length_nil]; omega))
    rw [hh]
    refine vars36 hl.vars hf'.1.2 c.vars.length 0 _ (by omega) (by rw [List.drop_zero, sizeL]; omega) ?_
    rw [List.drop_zero]
    refine states c.states.length 0 _ (by omega) ?_
    rw [List.drop_zero, bl_bs, bl_bs, Ch.tx]; simp
end Go.Proofs.YtfknpnkdedckhaaGreatDoorT

/- The printer: a box of a builder and a number of tabs; what the builder's functions do in it. -/
namespace Go.Proofs.YtfknpnkdedckhaaGreatDoorT
open Go Go.Proofs Go.RowKit
set_option linter.unusedVariables false
abbrev vi (n : Int) : Value := .int .i64 n
abbrev pb (b : Nat) : Value := .pointer (some ⟨b, 0, none⟩)
/-- The printer in block b: what it has written, and its tabs. -/
def PR (w : World) (b : Nat) (l : List UInt8) (t : Int) : Prop :=
  ∃ p v, w.heap[b]? = some (.cells #[p, v, vi t] 215 (0, 0)) ∧ (p = .pointer none ∨ p = pb b) ∧ w.ownsRow (b + 1) 5 1 v l.length (Lib.byteCells l)
theorem PR.lt {w : World} {b : Nat} {l : List UInt8} {t : Int} (h : PR w b l t) : b < w.heap.size := by
  obtain ⟨p, v, h, _⟩ := h
  exact lt_of_block h
theorem q0 {w : World} {b : Nat} {x y z : Value} {t : TypeId} (h : w.heap[b]? = some (.cells #[x, y, z] t (0, 0))) : w.cell? ⟨b, 0, none⟩ = some x := by simp [World.cell?, h]
theorem q1 {w : World} {b : Nat} {x y z : Value} {t : TypeId} (h : w.heap[b]? = some (.cells #[x, y, z] t (0, 0))) : w.cell? ⟨b, 1, none⟩ = some y := by simp [World.cell?, h]
theorem q2 {w : World} {b : Nat} {x y z : Value} {t : TypeId} (h : w.heap[b]? = some (.cells #[x, y, z] t (0, 0))) : w.cell? ⟨b, 2, none⟩ = some z := by simp [World.cell?, h]
theorem z0 {w : World} {b : Nat} {cs : Array Value} {t : TypeId} (h : w.heap[b]? = some (.cells cs t (0, 0))) (i : Nat) : w.frozen? ⟨b, i, none⟩ = false := by simp [World.frozen?, h]
theorem sh {w : World} {b : Nat} {x y z : Value} {t : TypeId} (h : w.heap[b]? = some (.cells #[x, y, z] t (0, 0))) : w.shape? b = some (t, 3) := by simp [World.shape?, h]
theorem set_at {w : World} {b i : Nat} {cs : Array Value} {u : Value} {t : TypeId} (h : w.heap[b]? = some (.cells cs t (0, 0))) (hi : i < cs.size) : (w.setCell ⟨b, i, none⟩ u).heap[b]? = some (.cells (cs.setIfInBounds i u) t (0, 0)) := by
  have hlt := lt_of_block h
  have h' : w.heap[b] = .cells cs t (0, 0) := by simpa [Array.getElem?_eq_getElem hlt] using h
  show (w.heap.modify b _)[b]? = _
  rw [Array.getElem?_eq_getElem (by simpa using hlt), Array.getElem_modify_self, h']
  rfl
theorem own_ne {w : World} {base : Nat} {e : TypeId} {size : Nat} {v : Value} {n : Nat} {xs : List Value} (h : w.ownsRow (base + 1) e size v n xs) : v.ownBlock ≠ some base := by
  obtain ⟨_, ⟨rfl, _⟩ | ⟨g, c, cur, rfl, hg, _⟩⟩ := h
  · simp [Value.ownBlock]
  · simp only [Value.ownBlock, ne_eq, Option.some.injEq]; omega
/-- The printer is as it was behind what changes nothing. -/
theorem PR.below {w w' : World} {b : Nat} {l : List UInt8} {t : Int} (h : PR w b l t) (bl : Below w.heap.size w w') : PR w' b l t := by
  obtain ⟨p, v, h1, hp, h2, h3⟩ := h
  refine ⟨p, v, (bl.block _ (lt_of_block h1)).trans h1, hp, h2, ?_⟩
  rcases h3 with h3 | ⟨g, c, cur, hv, hg, hh, r⟩
  · exact .inl h3
  · exact .inr ⟨g, c, cur, hv, hg, (bl.block _ (lt_of_block hh)).trans hh, r⟩
/-- What stays: all below the printer, and all that is neither a printer nor bytes. -/
structure FrP (b : Nat) (w w' : World) : Prop where
  b : Below b w w'
  k : ∀ (k : Nat) (cs : Array Value) (t : TypeId) (z : Nat × Nat), w.heap[k]? = some (.cells cs t z) → t ≠ 5 → t ≠ 215 → w'.heap[k]? = some (.cells cs t z)
theorem FrP.refl (b : Nat) (w : World) : FrP b w w := ⟨Below.refl _ _, fun _ _ _ _ h _ _ => h⟩
theorem FrP.trans {b : Nat} {u v w : World} (h : FrP b u v) (h' : FrP b v w) : FrP b u w := ⟨h.b.trans h'.b, fun k cs t z hk h5 h215 => h'.k k cs t z (h.k k cs t z hk h5 h215) h5 h215⟩
theorem FrP.set {w : World} {b i : Nat} {v : Value} {cs : Array Value} (h : w.heap[b]? = some (.cells cs 215 (0, 0))) : FrP b w (w.setCell ⟨b, i, none⟩ v) :=
  ⟨(Below.refl b w).setCell (p := ⟨b, i, none⟩) (Nat.le_refl b) _, fun k cs' t z hk h5 h215 => (Below.heap_setCell w ⟨b, i, none⟩ v k (by
    show k ≠ b
    rintro rfl
    rw [h] at hk
    simp at hk
    exact h215 hk.2.1.symm)).trans hk⟩
theorem FrP.drew {w w' : World} {b : Nat} (h : FrP b w w') : FrP b w w'.drew := ⟨h.b.drew, h.k⟩
theorem FrP.of {w w' : World} {b : Nat} (h : Below w.heap.size w w') (hb : b ≤ w.heap.size) : FrP b w w' := ⟨h.mono hb, fun k cs t z hk _ _ => (h.block _ (lt_of_block hk)).trans hk⟩
theorem FrP.alloc (w : World) (b : Nat) (hB : b ≤ w.heap.size) (o : Obj) : FrP b w (w.alloc o) := ⟨(Below.refl b w).alloc hB _, fun k cs t z hk _ _ => (Below.heap_alloc _ _ _ (lt_of_block hk)).trans hk⟩
theorem FrP.grown {w w' : World} {b : Nat} {row : Option Nat} (g : w.grownBy w' row) (hB : b ≤ w.heap.size) (hr : ∀ k, row = some k → b ≤ k ∧ ∃ cs, w.heap[k]? = some (.cells cs 5 (0, 0))) : FrP b w w' :=
  ⟨(Below.refl b w).grown g hB (fun k hk => (hr k hk).1), fun k cs t z hk h5 _ => (g.block k (lt_of_block hk) (fun e => by
    obtain ⟨cs', h⟩ := (hr k e.symm).2
    rw [h] at hk
    simp at hk
    exact h5 hk.2.1.symm)).trans hk⟩
theorem liesP : liesAt Tryz.prog Tryz.prog.depth 215 (3 / Tryz.prog.cellsOf 215) 0 213 1 = true := by kernel_rfl
theorem szB : (Tryz.prog.info? 213).map (·.size) = some 2 := by kernel_rfl
set_option maxRecDepth 100000 in
set_option maxHeartbeats 1000000 in
theorem copyCheck (w : World) (b : Nat) (l : List UInt8) (t : Int) (h : PR w b l t) :
    Calls Tryz.prog 260 #[pb b] w fun e w' => e = .returned (.tuple #[]) ∧ PR w' b l t ∧ FrP b w w' ∧ ∃ v, w'.heap[b]? = some (.cells #[pb b, v, vi t] 215 (0, 0)) ∧ w'.ownsRow (b + 1) 5 1 v l.length (Lib.byteCells l) := by
  obtain ⟨j, hj, hjs⟩ := Option.map_eq_some_iff.1 szB
  obtain ⟨p, v, h1, hp, h2⟩ := h
  have k0 := q0 h1
  have g0 := z0 h1 0
  rcases hp with rfl | rfl
  · go_enter Tryz.func260, Tryz.ntmps260
    go_wp2
    rw [Lib.run_to_unsafe w ⟨b, 0, none⟩ Tryz.underlying210 Tryz.underlying471 hj (by rw [hjs]; decide) (sh h1) (Nat.zero_lt_succ 2)]
    simp only [Result.andThen]
    rw [Oper.upon_value]
    go_wp2
    rw [run_callFunc_extern Tryz.func332 (by kernel_rfl) (by kernel_rfl) (by kernel_rfl) (e := Extern.AbiNoEscape.same) (by kernel_rfl)]
    rw [Lib.run_noEscape]
    simp only [Result.andThen]
    rw [Oper.upon_value]
    go_wp2
    rw [Lib.run_from_unsafe w ⟨b, 0, none⟩ Tryz.underlying471 Tryz.underlying210 hj (sh h1) liesP]
    simp only [Result.andThen]
    rw [Oper.upon_value]
    go_wp2
    go_end0
    have h1' : (w.setCell ⟨b, 0, none⟩ (pb b)).heap[b]? = some (.cells #[pb b, v, vi t] 215 (0, 0)) := set_at h1 (by simp)
    have h2' := ownsRow_setCell_other (a := ⟨b, 0, none⟩) h2 (own_ne h2) (pb b)
    exact ⟨rfl, ⟨_, v, h1', .inr rfl, h2'⟩, FrP.set h1, v, h1', h2'⟩
  · go_enter Tryz.func260, Tryz.ntmps260
    go_wp2
    rw [Lib.run_neq_ptr_same w _ Tryz.underlying210 hj]
    go_wp2
    go_end0
    exact ⟨rfl, ⟨_, v, h1, .inr rfl, h2⟩, FrP.refl _ _, v, h1, h2⟩
end Go.Proofs.YtfknpnkdedckhaaGreatDoorT

/- The printer: WriteString, String. -/
namespace Go.Proofs.YtfknpnkdedckhaaGreatDoorT
open Go Go.Proofs Go.RowKit
set_option linter.unusedVariables false
theorem infoU8 : (Tryz.prog.info? 5).map (fun i => (i.zero, i.size, i.bytes)) = some (some (.int .u8 0), 1, 1) := by kernel_rfl
theorem cellsU8 : Tryz.prog.cellsOf 5 = 1 := by kernel_rfl
theorem strCells_bl (s : ByteArray) : Lib.strCells s = Lib.byteCells (bl s) := rfl
set_option maxRecDepth 100000 in
set_option maxHeartbeats 2000000 in
theorem writeString (w : World) (b : Nat) (l : List UInt8) (t : Int) (s : ByteArray) (h : PR w b l t) (hl : l.length + s.size ≤ 140737488355328) :
    Calls Tryz.prog 182 #[pb b, .string s] w fun e w' => (∃ v, e = .returned v) ∧ PR w' b (l ++ bl s) t ∧ FrP b w w' := by
  obtain ⟨i0, hi, hz0, hz1, hz2⟩ := info_parts infoU8
  go_enter Tryz.func182, Tryz.ntmps182
  go_wp2_with (go_at_call 260; refine (copyCheck _ _ _ _ h).mono ?_)
  rintro e w1 ⟨rfl, -, fr1, v, h1, hown⟩
  have k1 := q1 h1
  go_wp2_with (at_builtin; refine Lib.wpList_append_own_string _ rfl _ _ 211 9 rfl (b + 1) 5 i0 Tryz.underlying211 Tryz.underlying9 hi hz0 hz1 hz2 _ _ _ rfl hown s rfl ?c3 ?c4 ?c5 ?_)
  case c3 => unfold maxLen; omega
  case c4 => omega
  case c5 => have := lt_of_block h1; omega
  intro v' w2 hown' hgrow _
  have hb2 : w2.heap[b]? = some (.cells #[pb b, v, vi t] 215 (0, 0)) := (hgrow.block b (lt_of_block h1) (fun e => own_ne hown e.symm)).trans h1
  have fr2 : FrP b w1 w2 := FrP.grown hgrow (Nat.le_of_lt (lt_of_block h1)) (fun k hk => by
    rcases hown.2 with ⟨hv, _⟩ | ⟨g, c, cur, hv, hg, hh, _⟩
    · rw [hv] at hk; simp [Value.ownBlock] at hk
    · rw [hv] at hk; simp only [Value.ownBlock, Option.some.injEq] at hk; subst hk; exact ⟨by omega, cur, hh⟩)
  have m1 := q1 hb2
  have m2 := z0 hb2 1
  obtain ⟨ao, n', cap, rfl⟩ : ∃ ao n' cap, v' = .slice ao n' cap := by
    rcases hown'.2 with ⟨hv, _⟩ | ⟨g, cap, cur, hv, _⟩
    · exact ⟨_, _, _, hv⟩
    · exact ⟨_, _, _, hv⟩
  go_wp2
  go_ret2
  refine ⟨⟨_, rfl⟩, ⟨pb b, .slice ao n' cap, set_at hb2 (by simp), .inr rfl, ?_⟩, (fr1.trans fr2).trans (FrP.set hb2)⟩
  have e1 : (l ++ bl s).length = l.length + s.size := by rw [List.length_append, bl_len]
  have e2 : Lib.byteCells (l ++ bl s) = Lib.byteCells l ++ Lib.strCells s := by simp [Lib.byteCells, Lib.strCells, bl]
  rw [e1, e2]
  exact ownsRow_setCell_other (a := ⟨b, 1, none⟩) hown' (own_ne hown') _
set_option maxRecDepth 100000 in
set_option maxHeartbeats 2000000 in
theorem builderString (w : World) (b : Nat) (l : List UInt8) (t : Int) (h : PR w b l t) (h0 : l ≠ []) :
    Calls Tryz.prog 100 #[pb b] w fun e w' => e = .returned (.string (bs l)) ∧ FrP b w w' := by
  obtain ⟨p, v, h1, hp, hown⟩ := h
  have hl0 : l.length ≠ 0 := by simpa using h0
  obtain ⟨g, cap, cur, rfl, hbg, hg, hnc, hcm, hcs, htake⟩ : ∃ g cap cur, v = .slice (some ⟨g, 0, none⟩) l.length cap ∧ b + 1 ≤ g ∧ w.heap[g]? = some (.cells cur 5 (0, 0)) ∧ l.length ≤ cap ∧ cap ≤ maxLen ∧ cur.size = cap * 1 ∧ cur.toList.take (l.length * 1) = Lib.byteCells l := by
    rcases hown.2 with ⟨_, hz⟩ | ⟨g, cap, cur, hv, r⟩
    · exact absurd hz hl0
    · exact ⟨g, cap, cur, hv, r⟩
  have k1 : w.drew.cell? ⟨b, 1, none⟩ = some (.slice (some ⟨g, 0, none⟩) l.length cap) := q1 (w := w.drew) h1
  have hSD : (Builtin.unsafeSliceData_ #[211] 320 #[.slice (some ⟨g, 0, none⟩) l.length cap]).run Tryz.prog w.drew = .ok (.pointer (some ⟨g, 0, none⟩)) w.drew :=
    Lib.run_unsafeSliceData_row _ _ _ _ _ _ (by omega)
  have hUS : (Builtin.unsafeString_ #[320, 3] 9 #[.pointer (some ⟨g, 0, none⟩), .int .i64 l.length]).run Tryz.prog w.drew = .ok (.string ⟨l.toArray⟩) (w.drew.freeze ⟨g, 0, none⟩ l.length) := by
    refine Lib.run_unsafeString_row w.drew 320 3 9 5 Tryz.underlying320 cellsU8 g cur.size (by have hg' : w.drew.heap[g]? = some (.cells cur 5 (0, 0)) := hg; simp [World.shape?, hg']) l h0 (by omega) (by unfold maxLen at hcm; omega) ?_
    intro j x hx
    have := hown.cells (g := g) rfl j (.int .u8 x.toNat) (by simp [Lib.byteCells, hx])
    exact this
  have hfr : FrP b w (w.drew.freeze ⟨g, 0, none⟩ l.length) := by
    refine ⟨Lib.below_freeze (Below.drew (Below.refl b w)) (p := ⟨g, 0, none⟩) (by show b ≤ g; omega) _, fun k cs t z hk h5 h215 => ?_⟩
    have hkg : k ≠ g := by
      rintro rfl
      rw [hg] at hk
      simp at hk
      exact h5 hk.2.1.symm
    have hk' : w.drew.heap[k]? = some (.cells cs t z) := hk
    unfold World.freeze
    split
    · exact hk'
    · simpa [Array.getElem?_modify, hkg.symm] using hk'
  have mixed := mixed
  go_enter Tryz.func100, Tryz.ntmps100
  go_wp2
  go_region_o
  all_goals (go_wp2; go_ret; exact ⟨rfl, hfr⟩)
end Go.Proofs.YtfknpnkdedckhaaGreatDoorT

/- The printer: a line. -/
namespace Go.Proofs.YtfknpnkdedckhaaGreatDoorT
open Go Go.Proofs Go.RowKit
set_option linter.unusedVariables false
theorem xRepeat : Builder.Extra Tryz.prog Tryz.laysRepeat_ren := ⟨⟨by kernel_rfl, by kernel_rfl⟩, Tryz.underlying5, Tryz.isAgg5, Tryz.sizeOf5, Tryz.zeroValue5, by kernel_rfl, by kernel_rfl, by kernel_rfl, by decide⟩
theorem xJoin : Builder.Extra Tryz.prog Tryz.laysJoin_ren := ⟨⟨by kernel_rfl, by kernel_rfl⟩, Tryz.underlying5, Tryz.isAgg5, Tryz.sizeOf5, Tryz.zeroValue5, by kernel_rfl, by kernel_rfl, by kernel_rfl, by decide⟩
def joins (xs : List ByteArray) : By := xs.flatMap bl
theorem join_joins (xs : List ByteArray) : Lib.join (xs.map (·.data.toList)) [] = joins xs := by
  induction xs with
  | nil => rfl
  | cons x xs ih =>
    cases xs with
    | nil => simp [Lib.join_one, joins, bl]
    | cons y ys => simp only [Lib.join, List.map_cons, List.intercalate, List.intersperse, List.flatten_cons, List.nil_append] at ih ⊢; rw [ih]; simp [joins, bl]
theorem repeat_tabs (d : Nat) : Lib.repeatL [9] d = tabs d := by
  induction d with
  | zero => rfl
  | succ d ih => simp only [Lib.repeatL, tabs, List.replicate_succ] at ih ⊢; simp [ih]
set_option maxRecDepth 100000 in
set_option maxHeartbeats 2000000 in
theorem line96 (w : World) (b : Nat) (l : List UInt8) (d : Nat) (xs : List ByteArray) (g c : Nat) (h : PR w b l d) (hd : d ≤ 1000)
    (hcells : ∀ (j : Nat) x, xs[j]? = some x → w.cell? ⟨g, j, none⟩ = some (.string x)) (hg : g < w.heap.size) (hN : xs.length ≤ 100000) (hcap : xs.length ≤ c)
    (hlen : l.length + (joins xs).length ≤ 1000000000) :
    Calls Tryz.prog 96 #[pb b, .slice (some ⟨g, 0, none⟩) xs.length c] w fun e w' => e = .returned (.tuple #[]) ∧ PR w' b (l ++ ln d (joins xs)) d ∧ FrP b w w' := by
  obtain ⟨p, v, h1, hp, hown⟩ := id h
  have mixed := mixed
  have k2 : ∀ w' : World, Below w.heap.size w w' → w'.cell? ⟨b, 2, none⟩ = some (vi d) := fun w' hb => q2 ((hb.block _ (lt_of_block h1)).trans h1)
  have k2' := k2 w (Below.refl _ _)
  have k2'' := k2 w.drew (Below.refl _ _).drew
  have jc : ∀ w' : World, Below w.heap.size w w' → Calls Tryz.prog 184 #[.slice (some ⟨g, 0, none⟩) xs.length c, .string ⟨#[]⟩] w' fun e w'' => e = .returned (.string (bs (joins xs))) ∧ Below w'.heap.size w' w'' := fun w' hb => by
    have := Any.strings_Join Tryz.laysJoin xJoin g 0 c xs ⟨#[]⟩ w' (fun j x hx => by rw [Nat.zero_add]; exact (hb.cell (p := ⟨g, j, none⟩) hg).trans (hcells j x hx)) (by have := hb.size; omega) (by omega) hcap (by rw [show (⟨#[]⟩ : ByteArray).data.toList = [] from rfl, join_joins]; omega)
    rw [show (⟨#[]⟩ : ByteArray).data.toList = [] from rfl, join_joins] at this
    exact this
  have rc : ∀ w' : World, Calls Tryz.prog 183 #[.string ⟨#[9]⟩, vi d] w' fun e w'' => e = .returned (.string (bs (tabs d))) ∧ Below w'.heap.size w' w'' := fun w' => by
    have := Any.strings_Repeat Tryz.laysRepeat xRepeat ⟨#[9]⟩ d w' (by omega) (by show 1 * d ≤ _; omega)
    rw [show (⟨#[9]⟩ : ByteArray).data.toList = [9] from rfl, repeat_tabs] at this
    exact this
  have wc : ∀ w' : World, Below w.heap.size w w' → Calls Tryz.prog 182 #[pb b, .string (bs (tabs d) ++ bs (joins xs) ++ bs [10])] w' fun e w'' => (∃ v, e = .returned v) ∧ PR w'' b (l ++ ln d (joins xs)) d ∧ FrP b w' w'' := fun w' hb => by
    have := writeString w' b l d (bs (tabs d) ++ bs (joins xs) ++ bs [10]) (h.below hb) (by simp only [size_append, sizeL, tabs_len, List.length_cons, List.length_nil]; omega)
    have e : bl (bs (tabs d) ++ bs (joins xs) ++ bs [10]) = ln d (joins xs) := by simp [bl_append, bl_bs, ln]
    rw [e] at this
    exact this
  have n1 : (bs (tabs d)).size ≤ 1000 := by rw [sizeL, tabs_len]; exact hd
  have n2 : (bs (joins xs)).size ≤ 1000000000 := by rw [sizeL]; omega
  generalize hT : bs (tabs d) = T at rc wc n1
  generalize hJ : bs (joins xs) = J at jc wc n2
  go_enter Tryz.func96, Tryz.ntmps96
  go_wp2
  go_region_with (first
    | (go_at_call 183; refine (rc _).mono ?_; rintro e w1 ⟨rfl, b1⟩)
    | (go_at_call 184; refine (jc _ ((Below.refl _ _).drew.trans b1)).mono ?_; rintro e w2 ⟨rfl, b2⟩)
    | (go_at_call 182; refine (wc _ (((Below.refl _ _).drew.trans b1).trans (b2.mono b1.size))).mono ?_; rintro e w3 ⟨⟨v3, rfl⟩, pr3, fr3⟩))
  all_goals go_end0
  all_goals exact ⟨rfl, pr3, (FrP.of (((Below.refl _ _).drew.trans b1).trans (b2.mono b1.size)) (Nat.le_of_lt h.lt)).trans fr3⟩
end Go.Proofs.YtfknpnkdedckhaaGreatDoorT

/- Charts' parts as values. -/
namespace Go.Proofs.YtfknpnkdedckhaaGreatDoorT
open Go Go.Proofs Go.RowKit
set_option linter.unusedVariables false
abbrev vb (b : Bool) : Value := .bool b
theorem rep_agg2 {C : Ctx} {x y : T} {v : Value} (h : Rep C (.agg [x, y]) v) : ∃ a b, v = .agg #[a, b] ∧ Rep C x a ∧ Rep C y b := by
  obtain ⟨vs, rfl, hl, hc, _⟩ := h.agg_parts
  match vs, hl with
  | [a, b], _ => exact ⟨a, b, rfl, hc 0 x a rfl rfl, hc 1 y b rfl rfl⟩
theorem rep_agg4 {C : Ctx} {x y z u : T} {v : Value} (h : Rep C (.agg [x, y, z, u]) v) : ∃ a b c d, v = .agg #[a, b, c, d] ∧ Rep C x a ∧ Rep C y b ∧ Rep C z c ∧ Rep C u d := by
  obtain ⟨vs, rfl, hl, hc, _⟩ := h.agg_parts
  match vs, hl with
  | [a, b, c, d], _ => exact ⟨a, b, c, d, rfl, hc 0 _ _ rfl rfl, hc 1 _ _ rfl rfl, hc 2 _ _ rfl rfl, hc 3 _ _ rfl rfl⟩
theorem rep_agg6 {C : Ctx} {x1 x2 x3 x4 x5 x6 : T} {v : Value} (h : Rep C (.agg [x1, x2, x3, x4, x5, x6]) v) :
    ∃ a1 a2 a3 a4 a5 a6, v = .agg #[a1, a2, a3, a4, a5, a6] ∧ Rep C x1 a1 ∧ Rep C x2 a2 ∧ Rep C x3 a3 ∧ Rep C x4 a4 ∧ Rep C x5 a5 ∧ Rep C x6 a6 := by
  obtain ⟨vs, rfl, hl, hc, _⟩ := h.agg_parts
  match vs, hl with
  | [a1, a2, a3, a4, a5, a6], _ => exact ⟨a1, a2, a3, a4, a5, a6, rfl, hc 0 _ _ rfl rfl, hc 1 _ _ rfl rfl, hc 2 _ _ rfl rfl, hc 3 _ _ rfl rfl, hc 4 _ _ rfl rfl, hc 5 _ _ rfl rfl⟩
theorem rep_agg11 {C : Ctx} {x1 x2 x3 x4 x5 x6 x7 x8 x9 xa xb : T} {v : Value} (h : Rep C (.agg [x1, x2, x3, x4, x5, x6, x7, x8, x9, xa, xb]) v) :
    ∃ a1 a2 a3 a4 a5 a6 a7 a8 a9 aa ab, v = .agg #[a1, a2, a3, a4, a5, a6, a7, a8, a9, aa, ab] ∧ Rep C x1 a1 ∧ Rep C x2 a2 ∧ Rep C x3 a3 ∧ Rep C x4 a4 ∧ Rep C x5 a5 ∧ Rep C x6 a6 ∧ Rep C x7 a7 ∧ Rep C x8 a8 ∧ Rep C x9 a9 ∧ Rep C xa aa ∧ Rep C xb ab := by
  obtain ⟨vs, rfl, hl, hc, _⟩ := h.agg_parts
  match vs, hl with
  | [a1, a2, a3, a4, a5, a6, a7, a8, a9, aa, ab], _ => exact ⟨a1, a2, a3, a4, a5, a6, a7, a8, a9, aa, ab, rfl, hc 0 _ _ rfl rfl, hc 1 _ _ rfl rfl, hc 2 _ _ rfl rfl, hc 3 _ _ rfl rfl, hc 4 _ _ rfl rfl, hc 5 _ _ rfl rfl, hc 6 _ _ rfl rfl, hc 7 _ _ rfl rfl, hc 8 _ _ rfl rfl, hc 9 _ _ rfl rfl, hc 10 _ _ rfl rfl⟩
/-- A slice of things of sz cells, of which each stands for one of a list. -/
theorem rep_rows {α : Type} {w : World} {ok : Nat → Prop} {f : α → T} {l : List α} {sz : Nat} {v : Value} (h : Rep (cctx w ok) (.sl sz (l.map f)) v) :
    ∃ A c, v = .slice A l.length c ∧ l.length ≤ c ∧ (l = [] ∨ ∃ bk off, A = some ⟨bk, off, none⟩ ∧ ok bk ∧
      ∀ (k : Nat) (a : α), l[k]? = some a → ∃ u, Rep (cctx w ok) (f a) u ∧ ∀ i cv, u.cells[i]? = some cv → w.cell? ⟨bk, off + k * sz + i, none⟩ = some cv) := by
  obtain ⟨A, c, rfl, hc, hm⟩ := h.sl_row
  rw [List.length_map] at hc
  refine ⟨A, c, by rw [List.length_map], hc, ?_⟩
  rcases hm with h | ⟨⟨bk, off, sp⟩, rfl, rfl, hok, hr⟩
  · exact .inl (by simpa using h)
  · refine .inr ⟨bk, off, rfl, hok, fun k a hk => ?_⟩
    obtain ⟨u, h1, _, h3⟩ := hr.get (j := k) (x := f a) (by rw [List.getElem?_map, hk]; rfl)
    exact ⟨u, h1, fun i cv hi => by rw [Nat.add_assoc]; exact h3 i cv hi⟩
theorem on_val {w : World} {ok : Nat → Prop} {o : On} {v : Value} (h : Rep (cctx w ok) o.v.t v) :
    ∃ A c, v = .agg #[.string o.event, o.guard.val, .string o.target, .slice A o.sets.length c, vi o.line, vi o.col] ∧ o.sets.length ≤ c ∧ (o.sets = [] ∨ ∃ bk off, A = some ⟨bk, off, none⟩ ∧ ok bk ∧
      ∀ (k : Nat) (g : Sg), o.sets[k]? = some g → w.cell? ⟨bk, off + k * 2, none⟩ = some (.string g.name) ∧ w.cell? ⟨bk, off + k * 2 + 1, none⟩ = some g.to.val) := by
  replace h : Rep (cctx w ok) (.agg [st o.event, o.guard.v.v, st o.target, .sl 2 (o.sets.map fun g => g.v.t), i64 o.line, i64 o.col]) v := h
  obtain ⟨a1, a2, a3, a4, a5, a6, rfl, h1, h2, h3, h4, h5, h6⟩ := rep_agg6 h
  obtain rfl := rep_scal h1
  obtain rfl := val_of_rep _ h2
  obtain rfl := rep_scal h3
  obtain rfl := rep_scal h5
  obtain rfl := rep_scal h6
  obtain ⟨A, c, rfl, hc, hm⟩ := rep_rows (f := fun g : Sg => g.v.t) h4
  refine ⟨A, c, rfl, hc, hm.imp id ?_⟩
  rintro ⟨bk, off, e, hok, hk⟩
  refine ⟨bk, off, e, hok, fun k g hg => ?_⟩
  obtain ⟨u, hu, hcell⟩ := hk k g hg
  replace hu : Rep (cctx w ok) (.agg [st g.name, g.to.v.v]) u := hu
  obtain ⟨b1, b2, rfl, g1, g2⟩ := rep_agg2 hu
  obtain rfl := rep_scal g1
  obtain rfl := val_of_rep _ g2
  exact ⟨hcell 0 _ rfl, hcell 1 _ rfl⟩
theorem var_val {w : World} {ok : Nat → Prop} {x : Vr} {v : Value} (h : Rep (cctx w ok) x.v.t v) : v = .agg #[.string x.name, vi x.n, vi x.line, vi x.col] := by
  replace h : Rep (cctx w ok) (.agg [st x.name, i64 x.n, i64 x.line, i64 x.col]) v := h
  obtain ⟨a1, a2, a3, a4, rfl, h1, h2, h3, h4⟩ := rep_agg4 h
  rw [rep_scal h1, rep_scal h2, rep_scal h3, rep_scal h4]
/-- The value of a state, and what lies behind its slices. -/
theorem stt_val {w : World} {ok : Nat → Prop} {b : Sb} {l : List Stt} {v : Value} (h : Rep (cctx w ok) (Stt.mk b l).v.t v) :
    ∃ A c A' c', v = .agg #[.string b.name, vi b.line, vi b.col, vb b.all, vb b.en, .string b.do_, .string b.undo, vi b.where_, vi b.retries, .slice A b.ons.length c, .slice A' l.length c'] ∧
      (b.ons = [] ∨ ∃ bk off, A = some ⟨bk, off, none⟩ ∧ ok bk ∧ ∀ (k : Nat) (o : On), b.ons[k]? = some o → ∃ u, Rep (cctx w ok) o.v.t u ∧ ∀ i cv, u.cells[i]? = some cv → w.cell? ⟨bk, off + k * 6 + i, none⟩ = some cv) ∧ b.ons.length ≤ c ∧
      (l = [] ∨ ∃ bk off, A' = some ⟨bk, off, none⟩ ∧ ok bk ∧ ∀ (k : Nat) (s : Stt), l[k]? = some s → ∃ u, Rep (cctx w ok) s.v.t u ∧ ∀ i cv, u.cells[i]? = some cv → w.cell? ⟨bk, off + k * 11 + i, none⟩ = some cv) ∧ l.length ≤ c' := by
  rw [v_mk] at h
  replace h : Rep (cctx w ok) (.agg [st b.name, i64 b.line, i64 b.col, tb b.all, tb b.en, st b.do_, st b.undo, i64 b.where_, i64 b.retries, .sl 6 (b.ons.map fun o => o.v.t), .sl 11 (l.map fun s => s.v.t)]) v := h
  obtain ⟨a1, a2, a3, a4, a5, a6, a7, a8, a9, aa, ab, rfl, h1, h2, h3, h4, h5, h6, h7, h8, h9, ha, hb⟩ := rep_agg11 h
  obtain ⟨A, c, rfl, hc, hm⟩ := rep_rows (f := fun o : On => o.v.t) ha
  obtain ⟨A', c', rfl, hc', hm'⟩ := rep_rows (f := fun s : Stt => s.v.t) hb
  exact ⟨A, c, A', c', by rw [rep_scal h1, rep_scal h2, rep_scal h3, rep_scal h4, rep_scal h5, rep_scal h6, rep_scal h7, rep_scal h8, rep_scal h9], hm, hc, hm', hc'⟩
theorem ch_val {w : World} {ok : Nat → Prop} {c : Ch} {v : Value} (h : Rep (cctx w ok) c.v.t v) :
    ∃ A n A' n', v = .agg #[.string c.name, vi c.version, vi c.line, vi c.col, .slice A c.vars.length n, .slice A' c.states.length n'] ∧
      (c.vars = [] ∨ ∃ bk off, A = some ⟨bk, off, none⟩ ∧ ok bk ∧ ∀ (k : Nat) (x : Vr), c.vars[k]? = some x → ∃ u, Rep (cctx w ok) x.v.t u ∧ ∀ i cv, u.cells[i]? = some cv → w.cell? ⟨bk, off + k * 4 + i, none⟩ = some cv) ∧ c.vars.length ≤ n ∧
      (c.states = [] ∨ ∃ bk off, A' = some ⟨bk, off, none⟩ ∧ ok bk ∧ ∀ (k : Nat) (s : Stt), c.states[k]? = some s → ∃ u, Rep (cctx w ok) s.v.t u ∧ ∀ i cv, u.cells[i]? = some cv → w.cell? ⟨bk, off + k * 11 + i, none⟩ = some cv) ∧ c.states.length ≤ n' := by
  replace h : Rep (cctx w ok) (.agg [st c.name, i64 c.version, i64 c.line, i64 c.col, .sl 4 (c.vars.map fun x => x.v.t), .sl 11 (c.states.map fun s => s.v.t)]) v := h
  obtain ⟨a1, a2, a3, a4, a5, a6, rfl, h1, h2, h3, h4, h5, h6⟩ := rep_agg6 h
  obtain ⟨A, n, rfl, hn, hm⟩ := rep_rows (f := fun x : Vr => x.v.t) h5
  obtain ⟨A', n', rfl, hn', hm'⟩ := rep_rows (f := fun s : Stt => s.v.t) h6
  exact ⟨A, n, A', n', by rw [rep_scal h1, rep_scal h2, rep_scal h3, rep_scal h4], hm, hn, hm', hn'⟩
/-- guard.Print, at a value. -/
theorem print269 (x : E) (hw : x.wf) (hr : rd x = true) (w : World) (hG : Glob w (fun k => k < w.heap.size)) :
    Calls Tryz.prog 269 #[x.val] w fun e w' => e = .returned (.tuple #[.string x.txt, vi 0]) ∧ Below w.heap.size w w' := by
  refine (calls_of_runs (r269 x hw) w hG).mono ?_
  rintro e w' ⟨hb, v, b, ok, rfl, hr', _⟩
  refine ⟨?_, hb⟩
  have e : prt x = (x.txt, 0) := by
    have hr' : (x.ok && x.plain) = true := hr
    unfold prt; rw [hr']; rfl
  rw [e] at hr'
  obtain ⟨vs, rfl, h⟩ := hr'
  obtain ⟨u, us, b1, b2, rfl, _, h1, h⟩ := h
  obtain ⟨u2, us2, b3, b4, rfl, _, h2, h⟩ := h
  obtain ⟨rfl, _⟩ := h
  rw [rep_scal h1.2, rep_scal h2.2]
end Go.Proofs.YtfknpnkdedckhaaGreatDoorT

/- The printer: an on. -/
namespace Go.Proofs.YtfknpnkdedckhaaGreatDoorT
open Go Go.Proofs Go.RowKit
set_option linter.unusedVariables false
theorem infoStr : (Tryz.prog.info? 9).map (fun i => (i.zero, i.size, i.bytes)) = some (some (.string ⟨#[]⟩), 1, 16) := by kernel_rfl
theorem val_non {x : E} (h : x.has = false) : x.val = .nilIface := by cases x <;> first | rfl | simp [E.has] at h
theorem val_has {x : E} (h : x.has = true) : ∃ t u, x.val = .iface t u := by
  cases x with
  | non => simp [E.has] at h
  | _ => exact ⟨_, _, rfl⟩
theorem cell_alloc {w : World} {cs : Array Value} {t : TypeId} {n i : Nat} (h : n = w.heap.size) : (w.alloc (.cells cs t)).cell? ⟨n, i, none⟩ = cs[i]? := by
  subst h
  simp only [World.cell?]
  rw [heap_alloc_new]
  rfl
theorem add_spot (b i j : Nat) : (⟨b, i, none⟩ : Addr).add j = ⟨b, i + j, none⟩ := by simp [Addr.add]
/-- The parts of a line, in a slice of one's own. -/
def Parts (B : Nat) (w0 wx : World) (v : Value) (xs : List ByteArray) : Prop := wx.ownsRow B 9 1 v xs.length (xs.map .string) ∧ Below B w0 wx ∧ B ≤ w0.heap.size
theorem Parts.made {w0 : World} {B : Nat} (hB : B = w0.heap.size) (xs : List ByteArray) (hx : xs ≠ []) (hl : xs.length ≤ 1000) (cs : Array Value) (hcs : cs = (xs.map Value.string).toArray) (n : Nat) (hn : n = xs.length) :
    Parts B w0 (w0.alloc (.cells cs 9)) (.slice (some ⟨B, 0, none⟩) n n) xs := by
  subst hB hn hcs
  refine ⟨⟨by simp, .inr ⟨w0.heap.size, xs.length, _, rfl, Nat.le_refl _, heap_alloc_new _ _, Nat.le_refl _, by unfold maxLen; omega, by simp, ?_⟩⟩, (Below.refl _ _).alloc (Nat.le_refl _) _, Nat.le_refl _⟩
  simp [List.take_of_length_le]
theorem Parts.app {B : Nat} {w0 w1 w2 : World} {v v' : Value} {xs : List ByteArray} (h : Parts B w0 w1 v xs) (ob : Obj) (ys : List ByteArray) (hown : w2.ownsRow B 9 1 v' (xs.length + ys.length) (xs.map .string ++ ys.map .string))
    (hg : (w1.alloc ob).grownBy w2 v.ownBlock) : Parts B w0 w2 v' (xs ++ ys) := by
  have hs := h.2.1.size
  have hB := h.2.2
  refine ⟨by rw [List.length_append, List.map_append]; exact hown, (h.2.1.alloc (by omega) ob).grown hg (by simp; omega) fun k hk => (h.1.lt k hk).1, hB⟩
theorem Parts.alloc {B : Nat} {w0 w1 : World} {v : Value} {xs : List ByteArray} (h : Parts B w0 w1 v xs) (ob : Obj) : Parts B w0 (w1.alloc ob) v xs := ⟨h.1.alloc _, h.2.1.alloc (Nat.le_trans h.2.2 h.2.1.size) _, h.2.2⟩
theorem Parts.below {B : Nat} {w0 w1 w2 : World} {v : Value} {xs : List ByteArray} (h : Parts B w0 w1 v xs) (b : Below w1.heap.size w1 w2) : Parts B w0 w2 v xs := by
  refine ⟨?_, h.2.1.trans (b.mono (Nat.le_trans h.2.2 h.2.1.size)), h.2.2⟩
  refine ⟨h.1.1, ?_⟩
  rcases h.1.2 with h3 | ⟨g, c, cur, hv, hg, hh, r⟩
  · exact .inl h3
  · exact .inr ⟨g, c, cur, hv, hg, (b.block _ (lt_of_block hh)).trans hh, r⟩
theorem Parts.slice {B : Nat} {w0 wx : World} {v : Value} {xs : List ByteArray} (h : Parts B w0 wx v xs) (hx : xs ≠ []) :
    ∃ g c, v = .slice (some ⟨g, 0, none⟩) xs.length c ∧ B ≤ g ∧ g < wx.heap.size ∧ xs.length ≤ c ∧ ∀ (j : Nat) x, xs[j]? = some x → wx.cell? ⟨g, j, none⟩ = some (.string x) := by
  have h1 := h.1
  rcases h.1.2 with ⟨_, h0⟩ | ⟨g, c, cur, rfl, hg, hh, hn, hc, hs, ht⟩
  · exact absurd (List.eq_nil_of_length_eq_zero h0) hx
  · refine ⟨g, c, rfl, hg, lt_of_block hh, hn, fun j x hj => ?_⟩
    have := h1.cells (g := g) rfl j (.string x) (by rw [List.getElem?_map, hj]; rfl)
    rw [add_spot, Nat.zero_add] at this
    exact this
theorem rd_has {x : E} (h : rd x = true) : x.has = true := by cases x <;> first | rfl | simp [rd, E.ok, E.sd, E.snd] at h
theorem joins_append (xs ys : List ByteArray) : joins (xs ++ ys) = joins xs ++ joins ys := by simp [joins]
set_option maxRecDepth 100000 in
set_option maxHeartbeats 8000000 in
theorem on187 (o : On) (hs : o.sz) (hf : o.fm = true) (hn : o.sets.length ≤ 400) (hw : ∀ g ∈ o.sets, g.to.wf) (hgw : o.guard.wf) (w : World) (b : Nat) (l : List UInt8) (d : Nat) (h : PR w b l d) (hd : d ≤ 1000) (hG : Glob w (fun k => k < b)) (v : Value)
    (hv : Rep (cctx w (fun k => k < b)) o.v.t v) (hlen : l.length + o.tx.length ≤ 100000000) :
    Calls Tryz.prog 187 #[pb b, v] w fun e w' => e = .returned (.tuple #[]) ∧ PR w' b (l ++ ln d o.tx) d ∧ FrP b w w' := by
  obtain ⟨A, c, rfl, hc, hm⟩ := on_val hv
  obtain ⟨i0, hi, hz0, hz1, hz2⟩ := info_parts infoStr
  have mixed := mixed
  simp only [On.fm, Bool.and_eq_true] at hf
  have hblt := h.lt
  have glob : ∀ wr, Below w.heap.size w wr → Glob wr (fun k => k < wr.heap.size) := fun wr hb => hG.mono fun k hk => ⟨Nat.lt_of_lt_of_le (Nat.lt_trans hk hblt) hb.size, hb.block k (Nat.lt_trans hk hblt)⟩
  have sets : ∀ (k : Nat) (g : Sg), o.sets[k]? = some g → ∃ bk off, A = some ⟨bk, off, none⟩ ∧ bk < b ∧ w.cell? ⟨bk, off + k * 2, none⟩ = some (.string g.name) ∧ w.cell? ⟨bk, off + k * 2 + 1, none⟩ = some g.to.val := fun k g hk => by
    rcases hm with hm | ⟨bk, off, rfl, hb, hcell⟩
    · rw [hm] at hk; simp at hk
    · exact ⟨bk, off, rfl, hb, hcell k g hk⟩
  have rds : ∀ (k : Nat) (g : Sg), o.sets[k]? = some g → rd g.to = true ∧ g.to.wf := fun k g hk => by
    have hm := List.mem_of_getElem? hk
    have := List.all_eq_true.1 hf.2 g hm
    simp only [Sg.fm, Bool.and_eq_true] at this
    exact ⟨this.2, hw g hm⟩
  obtain ⟨pre, hpre⟩ : ∃ pre : By, pre = [111, 110, 32] ++ (bl o.event ++ ((if o.guard.has = true then [32, 105, 102, 32] ++ bl o.guard.txt else []) ++ ([32, 103, 111, 32] ++ bl o.target))) := ⟨_, rfl⟩
  have htx : o.tx = pre ++ o.sets.flatMap Sg.tx := by rw [hpre]; simp [On.tx]
  cases hh : o.guard.has with
  | false =>
    have hgv := val_non hh
    rw [hgv]
    rw [hh] at hpre
    have P1 : Parts (w.heap.size + 1) (w.alloc (Obj.cells #[Value.string o.event, .nilIface, Value.string o.target, Value.slice A o.sets.length c, vi o.line, vi o.col] 175)) ((w.alloc (Obj.cells #[Value.string o.event, .nilIface, Value.string o.target, Value.slice A o.sets.length c, vi o.line, vi o.col] 175)).alloc (Obj.cells #[Value.string ⟨#[111, 110, 32]⟩, Value.string o.event] 9)) (.slice (some ⟨w.heap.size + 1, 0, none⟩) 2 2) [⟨#[111, 110, 32]⟩, o.event] :=
      Parts.made (by simp) _ (by simp) (by simp) _ rfl _ rfl
    go_enter Tryz.func187, Tryz.ntmps187
    go_wp2_with (at_builtin; go_loud (refine wpList_append_own _ rfl _ _ 104 rfl _ 9 i0 (.string ⟨#[]⟩) 1 16 Tryz.underlying104 hi hz0 hz1 hz2 rfl (by decide) _ _ _ rfl (P1.1.alloc _) ⟨w.heap.size + 1 + 1, 0, none⟩ 2 2 [.string ⟨#[32, 103, 111, 32]⟩, .string o.target] rfl rfl ?c1 ?c2 ?c3 ?c4 ?c5 ?_))
    case c1 =>
      intro j u hj
      match j, hj with
      | 0, hj => simp at hj; subst hj; rw [add_spot, cell_alloc (by simp)]; rfl
      | 1, hj => simp at hj; subst hj; rw [add_spot, cell_alloc (by simp)]; rfl
    case c2 => intro u hu; simp at hu; rcases hu with rfl | rfl <;> rfl
    case c3 => unfold maxLen; simp
    case c4 => simp
    case c5 => simp
    intro v2 w2 hown2 hg2 _
    have P2 := P1.app _ [⟨#[32, 103, 111, 32]⟩, o.target] hown2 hg2
    clear hown2 hg2 P1
    have B2 : Below w.heap.size w w2 := ((Below.refl _ w).alloc (Nat.le_refl _) _).trans (P2.2.1.mono (by simp))
    have J2 : joins ([⟨#[111, 110, 32]⟩, o.event] ++ [⟨#[32, 103, 111, 32]⟩, o.target]) = pre := by rw [hpre]; simp [joins]; rfl
    obtain ⟨x2, hx2⟩ : ∃ x, x = ([⟨#[111, 110, 32]⟩, o.event] ++ [⟨#[32, 103, 111, 32]⟩, o.target]) := ⟨_, rfl⟩
    have L2 : x2.length ≤ 6 ∧ 0 < x2.length := by rw [hx2]; simp
    rw [← hx2] at P2 J2
    clear hx2
    have bx : ∀ i, w2.cell? ⟨w.heap.size, i, none⟩ = #[Value.string o.event, .nilIface, Value.string o.target, Value.slice A o.sets.length c, vi o.line, vi o.col][i]? := fun i => by
      rw [P2.2.1.cell (p := ⟨w.heap.size, i, none⟩) (by simp), cell_alloc rfl]
    have bx3 := bx 3
    simp only [List.getElem?_toArray, List.getElem?_cons_succ, List.getElem?_cons_zero] at bx3
    go_wp2
    go_loopw [4, 35] (fun s4 s35 wr => ∃ (k : Nat) (xs : List ByteArray), k ≤ o.sets.length ∧ s35 = vi k ∧ Parts (w.heap.size + 1) (w.alloc (Obj.cells #[Value.string o.event, .nilIface, Value.string o.target, Value.slice A o.sets.length c, vi o.line, vi o.col] 175)) wr s4 xs ∧ joins xs = pre ++ (o.sets.take k).flatMap Sg.tx ∧ 0 < xs.length ∧ xs.length ≤ 6 + 4 * k) (fun _ s35 _ => o.sets.length - (intOf s35).toNat)
    case atStart => exact ⟨0, x2, Nat.zero_le _, rfl, P2, by simp [J2], L2.2, by omega⟩
    case round =>
      obtain ⟨k, xs, hk, rfl, PX, hJ, hx0, hx6⟩ := hrel
      have BW : Below w.heap.size w wr := ((Below.refl _ w).alloc (Nat.le_refl _) _).trans (PX.2.1.mono (by simp))
      by_cases hlt : k < o.sets.length
      · obtain ⟨g, hg⟩ : ∃ g, o.sets[k]? = some g := ⟨_, List.getElem?_eq_getElem hlt⟩
        obtain ⟨bk, off, rfl, hbk, e1, e2⟩ := sets k g hg
        obtain ⟨hrd, hgwf⟩ := rds k g hg
        obtain ⟨ty2, uu, hgv2⟩ := val_has (rd_has hrd)
        rw [hgv2] at e2
        have ck1 := (BW.cell (p := ⟨bk, off + k * 2, none⟩) (Nat.lt_trans hbk hblt)).trans e1
        have ck2 := (BW.cell (p := ⟨bk, off + k * 2 + 1, none⟩) (Nat.lt_trans hbk hblt)).trans e2
        have p269 : ∀ w', Below w.heap.size w w' → Calls Tryz.prog 269 #[.iface ty2 uu] w' fun e w'' => e = .returned (.tuple #[.string g.to.txt, vi 0]) ∧ Below w'.heap.size w' w'' := fun w' hb => by
          have := print269 g.to hgwf hrd w' (glob _ hb)
          rw [hgv2] at this
          exact this
        go_wp2_with (go_at_call 269; go_loud (refine (p269 _ (BW.alloc BW.size _)).mono ?_))
        rintro e w3 ⟨rfl, b3⟩
        have c8 : w3.cell? ⟨wr.heap.size, 0, none⟩ = some (.string g.name) := (b3.cell (p := ⟨wr.heap.size, 0, none⟩) (by simp)).trans (cell_alloc rfl)
        have P3 := (PX.alloc _).below b3
        go_wp2_with (at_builtin; go_loud (refine wpList_append_own _ rfl _ _ 104 rfl _ 9 i0 (.string ⟨#[]⟩) 1 16 Tryz.underlying104 hi hz0 hz1 hz2 rfl (by decide) _ _ _ rfl (P3.1.alloc _) ⟨w3.heap.size, 0, none⟩ 4 4 [.string ⟨#[32, 115, 101, 116, 32]⟩, .string g.name, .string ⟨#[32, 61, 32]⟩, .string g.to.txt] rfl rfl ?c1 ?c2 ?c3 ?c4 ?c5 ?_))
        case c1 =>
          intro j u hj
          match j, hj with
          | 0, hj => simp at hj; subst hj; rw [add_spot, cell_alloc (by simp)]; rfl
          | 1, hj => simp at hj; subst hj; rw [add_spot, cell_alloc (by simp)]; rfl
          | 2, hj => simp at hj; subst hj; rw [add_spot, cell_alloc (by simp)]; rfl
          | 3, hj => simp at hj; subst hj; rw [add_spot, cell_alloc (by simp)]; rfl
        case c2 => intro u hu; simp at hu; rcases hu with rfl | rfl | rfl | rfl <;> rfl
        case c3 => unfold maxLen; omega
        case c4 => omega
        case c5 => have := P3.2.1.size; have := P3.2.2; simp; omega
        intro v4 w4 hown4 hg4 _
        have P4 := P3.app _ [⟨#[32, 115, 101, 116, 32]⟩, g.name, ⟨#[32, 61, 32]⟩, g.to.txt] hown4 hg4
        go_wp2
        go_roundw
        case rel =>
          refine ⟨k + 1, _, by omega, by go_num, P4, ?_, by simp, by simp; omega⟩
          rw [joins_append, hJ, List.take_add_one, hg]
          simp [joins, Sg.tx]
          rfl
        case measure => simp [intOf]; omega
      · have hk' : k = o.sets.length := by omega
        subst hk'
        rw [List.take_length, ← htx] at hJ
        obtain ⟨g, c', rfl, hg1, hg2, hcap, hcell⟩ := PX.slice (by intro h; rw [h] at hx0; simp at hx0)
        go_wp2_with (go_at_call 96; go_loud (refine (line96 wr b l d xs g c' (h.below BW) hd hcell hg2 (by omega) hcap (by rw [hJ]; omega)).mono ?_))
        rintro e w3 ⟨rfl, p3, f3⟩
        go_wp2
        go_end0
        rw [hJ] at p3
        exact ⟨rfl, p3, (FrP.of BW (Nat.le_of_lt hblt)).trans f3⟩
  | true =>
    obtain ⟨ty, u, hgv⟩ := val_has hh
    have hrd := rdE hf.1.2 hh
    have pg : ∀ w', Below w.heap.size w w' → Calls Tryz.prog 269 #[.iface ty u] w' fun e w'' => e = .returned (.tuple #[.string o.guard.txt, vi 0]) ∧ Below w'.heap.size w' w'' := fun w' hb => by
      have := print269 o.guard hgw hrd w' (glob _ hb)
      rw [hgv] at this
      exact this
    rw [hgv]
    rw [hh] at hpre
    have P1 : Parts (w.heap.size + 1) (w.alloc (Obj.cells #[Value.string o.event, (.iface ty u), Value.string o.target, Value.slice A o.sets.length c, vi o.line, vi o.col] 175)) ((w.alloc (Obj.cells #[Value.string o.event, (.iface ty u), Value.string o.target, Value.slice A o.sets.length c, vi o.line, vi o.col] 175)).alloc (Obj.cells #[Value.string ⟨#[111, 110, 32]⟩, Value.string o.event] 9)) (.slice (some ⟨w.heap.size + 1, 0, none⟩) 2 2) [⟨#[111, 110, 32]⟩, o.event] :=
      Parts.made (by simp) _ (by simp) (by simp) _ rfl _ rfl
    have B1 : Below w.heap.size w ((w.alloc (Obj.cells #[Value.string o.event, (.iface ty u), Value.string o.target, Value.slice A o.sets.length c, vi o.line, vi o.col] 175)).alloc (Obj.cells #[Value.string ⟨#[111, 110, 32]⟩, Value.string o.event] 9)) := ((Below.refl _ w).alloc (Nat.le_refl _) _).trans (P1.2.1.mono (by simp))
    go_enter Tryz.func187, Tryz.ntmps187
    go_wp2_with (go_at_call 269; go_loud (refine (pg _ B1).mono ?_))
    rintro e wa rfl ba
    have PA := P1.below (by simpa using ba)
    go_wp2_with (at_builtin; go_loud (refine wpList_append_own _ rfl _ _ 104 rfl _ 9 i0 (.string ⟨#[]⟩) 1 16 Tryz.underlying104 hi hz0 hz1 hz2 rfl (by decide) _ _ _ rfl (PA.1.alloc _) ⟨wa.heap.size, 0, none⟩ 2 2 [.string ⟨#[32, 105, 102, 32]⟩, .string o.guard.txt] rfl rfl ?c1 ?c2 ?c3 ?c4 ?c5 ?_))
    case c1 =>
      intro j u hj
      match j, hj with
      | 0, hj => simp at hj; subst hj; rw [add_spot, cell_alloc (by simp)]; rfl
      | 1, hj => simp at hj; subst hj; rw [add_spot, cell_alloc (by simp)]; rfl
    case c2 => intro u hu; simp at hu; rcases hu with rfl | rfl <;> rfl
    case c3 => unfold maxLen; simp
    case c4 => simp
    case c5 => have := PA.2.1.size; have := PA.2.2; simp at *; omega
    intro vb wb hownb hgb _
    have PB := PA.app _ [⟨#[32, 105, 102, 32]⟩, o.guard.txt] hownb hgb
    clear hownb hgb PA
    have bxb : ∀ i, wb.cell? ⟨w.heap.size, i, none⟩ = #[Value.string o.event, .iface ty u, Value.string o.target, Value.slice A o.sets.length c, vi o.line, vi o.col][i]? := fun i => by
      rw [PB.2.1.cell (p := ⟨w.heap.size, i, none⟩) (by simp), cell_alloc rfl]
    have bxb2 := bxb 2
    simp only [List.getElem?_toArray, List.getElem?_cons_succ, List.getElem?_cons_zero] at bxb2
    go_wp2_with (at_builtin; go_loud (refine wpList_append_own _ rfl _ _ 104 rfl _ 9 i0 (.string ⟨#[]⟩) 1 16 Tryz.underlying104 hi hz0 hz1 hz2 rfl (by decide) _ _ _ rfl (PB.1.alloc _) ⟨wb.heap.size, 0, none⟩ 2 2 [.string ⟨#[32, 103, 111, 32]⟩, .string o.target] rfl rfl ?c1 ?c2 ?c3 ?c4 ?c5 ?_))
    case c1 =>
      intro j u hj
      match j, hj with
      | 0, hj => simp at hj; subst hj; rw [add_spot, cell_alloc (by simp)]; rfl
      | 1, hj => simp at hj; subst hj; rw [add_spot, cell_alloc (by simp)]; rfl
    case c2 => intro u hu; simp at hu; rcases hu with rfl | rfl <;> rfl
    case c3 => unfold maxLen; simp
    case c4 => simp
    case c5 => have := PB.2.1.size; have := PB.2.2; simp at *; omega
    intro v2 w2 hown2 hg2 _
    have P2 := PB.app _ [⟨#[32, 103, 111, 32]⟩, o.target] hown2 hg2
    clear hown2 hg2
    have B2 : Below w.heap.size w w2 := ((Below.refl _ w).alloc (Nat.le_refl _) _).trans (P2.2.1.mono (by simp))
    have J2 : joins (([⟨#[111, 110, 32]⟩, o.event] ++ [⟨#[32, 105, 102, 32]⟩, o.guard.txt]) ++ [⟨#[32, 103, 111, 32]⟩, o.target]) = pre := by rw [hpre]; simp [joins]; rfl
    obtain ⟨x2, hx2⟩ : ∃ x, x = (([⟨#[111, 110, 32]⟩, o.event] ++ [⟨#[32, 105, 102, 32]⟩, o.guard.txt]) ++ [⟨#[32, 103, 111, 32]⟩, o.target]) := ⟨_, rfl⟩
    have L2 : x2.length ≤ 6 ∧ 0 < x2.length := by rw [hx2]; simp
    rw [← hx2] at P2 J2
    clear hx2
    have bx : ∀ i, w2.cell? ⟨w.heap.size, i, none⟩ = #[Value.string o.event, (.iface ty u), Value.string o.target, Value.slice A o.sets.length c, vi o.line, vi o.col][i]? := fun i => by
      rw [P2.2.1.cell (p := ⟨w.heap.size, i, none⟩) (by simp), cell_alloc rfl]
    have bx3 := bx 3
    simp only [List.getElem?_toArray, List.getElem?_cons_succ, List.getElem?_cons_zero] at bx3
    go_wp2
    go_loopw [4, 35] (fun s4 s35 wr => ∃ (k : Nat) (xs : List ByteArray), k ≤ o.sets.length ∧ s35 = vi k ∧ Parts (w.heap.size + 1) (w.alloc (Obj.cells #[Value.string o.event, (.iface ty u), Value.string o.target, Value.slice A o.sets.length c, vi o.line, vi o.col] 175)) wr s4 xs ∧ joins xs = pre ++ (o.sets.take k).flatMap Sg.tx ∧ 0 < xs.length ∧ xs.length ≤ 6 + 4 * k) (fun _ s35 _ => o.sets.length - (intOf s35).toNat)
    case atStart => exact ⟨0, x2, Nat.zero_le _, rfl, P2, by simp [J2], L2.2, by omega⟩
    case round =>
      obtain ⟨k, xs, hk, rfl, PX, hJ, hx0, hx6⟩ := hrel
      have BW : Below w.heap.size w wr := ((Below.refl _ w).alloc (Nat.le_refl _) _).trans (PX.2.1.mono (by simp))
      by_cases hlt : k < o.sets.length
      · obtain ⟨g, hg⟩ : ∃ g, o.sets[k]? = some g := ⟨_, List.getElem?_eq_getElem hlt⟩
        obtain ⟨bk, off, rfl, hbk, e1, e2⟩ := sets k g hg
        obtain ⟨hrd, hgwf⟩ := rds k g hg
        obtain ⟨ty2, uu, hgv2⟩ := val_has (rd_has hrd)
        rw [hgv2] at e2
        have ck1 := (BW.cell (p := ⟨bk, off + k * 2, none⟩) (Nat.lt_trans hbk hblt)).trans e1
        have ck2 := (BW.cell (p := ⟨bk, off + k * 2 + 1, none⟩) (Nat.lt_trans hbk hblt)).trans e2
        have p269 : ∀ w', Below w.heap.size w w' → Calls Tryz.prog 269 #[.iface ty2 uu] w' fun e w'' => e = .returned (.tuple #[.string g.to.txt, vi 0]) ∧ Below w'.heap.size w' w'' := fun w' hb => by
          have := print269 g.to hgwf hrd w' (glob _ hb)
          rw [hgv2] at this
          exact this
        go_wp2_with (go_at_call 269; go_loud (refine (p269 _ (BW.alloc BW.size _)).mono ?_))
        rintro e w3 ⟨rfl, b3⟩
        have c8 : w3.cell? ⟨wr.heap.size, 0, none⟩ = some (.string g.name) := (b3.cell (p := ⟨wr.heap.size, 0, none⟩) (by simp)).trans (cell_alloc rfl)
        have P3 := (PX.alloc _).below b3
        go_wp2_with (at_builtin; go_loud (refine wpList_append_own _ rfl _ _ 104 rfl _ 9 i0 (.string ⟨#[]⟩) 1 16 Tryz.underlying104 hi hz0 hz1 hz2 rfl (by decide) _ _ _ rfl (P3.1.alloc _) ⟨w3.heap.size, 0, none⟩ 4 4 [.string ⟨#[32, 115, 101, 116, 32]⟩, .string g.name, .string ⟨#[32, 61, 32]⟩, .string g.to.txt] rfl rfl ?c1 ?c2 ?c3 ?c4 ?c5 ?_))
        case c1 =>
          intro j u hj
          match j, hj with
          | 0, hj => simp at hj; subst hj; rw [add_spot, cell_alloc (by simp)]; rfl
          | 1, hj => simp at hj; subst hj; rw [add_spot, cell_alloc (by simp)]; rfl
          | 2, hj => simp at hj; subst hj; rw [add_spot, cell_alloc (by simp)]; rfl
          | 3, hj => simp at hj; subst hj; rw [add_spot, cell_alloc (by simp)]; rfl
        case c2 => intro u hu; simp at hu; rcases hu with rfl | rfl | rfl | rfl <;> rfl
        case c3 => unfold maxLen; omega
        case c4 => omega
        case c5 => have := P3.2.1.size; have := P3.2.2; simp; omega
        intro v4 w4 hown4 hg4 _
        have P4 := P3.app _ [⟨#[32, 115, 101, 116, 32]⟩, g.name, ⟨#[32, 61, 32]⟩, g.to.txt] hown4 hg4
        go_wp2
        go_roundw
        case rel =>
          refine ⟨k + 1, _, by omega, by go_num, P4, ?_, by simp, by simp; omega⟩
          rw [joins_append, hJ, List.take_add_one, hg]
          simp [joins, Sg.tx]
          rfl
        case measure => simp [intOf]; omega
      · have hk' : k = o.sets.length := by omega
        subst hk'
        rw [List.take_length, ← htx] at hJ
        obtain ⟨g, c', rfl, hg1, hg2, hcap, hcell⟩ := PX.slice (by intro h; rw [h] at hx0; simp at hx0)
        go_wp2_with (go_at_call 96; go_loud (refine (line96 wr b l d xs g c' (h.below BW) hd hcell hg2 (by omega) hcap (by rw [hJ]; omega)).mono ?_))
        rintro e w3 ⟨rfl, p3, f3⟩
        go_wp2
        go_end0
        rw [hJ] at p3
        exact ⟨rfl, p3, (FrP.of BW (Nat.le_of_lt hblt)).trans f3⟩
end Go.Proofs.YtfknpnkdedckhaaGreatDoorT

/- The printer: a state. -/
namespace Go.Proofs.YtfknpnkdedckhaaGreatDoorT
open Go Go.Proofs Go.RowKit
set_option linter.unusedVariables false
/-- Kept out of simp's sight. -/
def Hd (p : Prop) : Prop := p
theorem hd {p : Prop} (h : p) : Hd p := h
theorem isE {s : ByteArray} (h : ¬ s = ⟨#[]⟩) : s.toList.isEmpty = false := by
  rw [ByteArray.toList_eq]
  cases h' : s.data.toList with
  | nil => exact absurd (by cases s; simp at h'; subst h'; rfl) h
  | cons a l => rfl
theorem PR.alloc {w : World} {b : Nat} {l : List UInt8} {t : Int} (h : PR w b l t) (o : Obj) : PR (w.alloc o) b l t := h.below ((Below.refl _ w).alloc (Nat.le_refl _) o)
theorem PR.tabs {w : World} {b : Nat} {l : List UInt8} {t : Int} (h : PR w b l t) (t' : Int) : PR (w.setCell ⟨b, 2, none⟩ (vi t')) b l t' ∧ FrP b w (w.setCell ⟨b, 2, none⟩ (vi t')) := by
  obtain ⟨p, v, h1, hp, h2⟩ := h
  exact ⟨⟨p, v, set_at h1 (by simp), hp, ownsRow_setCell_other (a := ⟨b, 2, none⟩) h2 (own_ne h2) _⟩, FrP.set h1⟩
theorem PR.cells {w : World} {b : Nat} {l : List UInt8} {t : Int} (h : PR w b l t) : w.cell? ⟨b, 2, none⟩ = some (vi t) ∧ w.frozen? ⟨b, 2, none⟩ = false := by
  obtain ⟨p, v, h1, hp, h2⟩ := h
  exact ⟨q2 h1, z0 h1 2⟩
theorem FrP.box {w w' : World} {b k : Nat} {cs : Array Value} {t : TypeId} (h : FrP b w w') (hk : w.heap[k]? = some (.cells cs t (0, 0))) (h5 : t ≠ 5) (h215 : t ≠ 215) (i : Nat) : w'.cell? ⟨k, i, none⟩ = cs[i]? := by
  have := h.k k cs t (0, 0) hk h5 h215
  simp only [World.cell?, this]
  rfl
/-- Of a line whose parts have just been laid. -/
theorem line_new (w : World) (b : Nat) (l : List UInt8) (d : Nat) (xs : List ByteArray) (h : PR w b l d) (hd : d ≤ 1000) (hN : xs.length ≤ 1000) (hlen : l.length + (joins xs).length ≤ 1000000000) (cs : Array Value) (hcs : cs = (xs.map Value.string).toArray) (n m : Nat) (hn : n = xs.length) (g : Nat) (hg : g = w.heap.size) :
    Calls Tryz.prog 96 #[pb b, .slice (some ⟨g, 0, none⟩) n n] (w.alloc (.cells cs 9)) fun e w' => e = .returned (.tuple #[]) ∧ PR w' b (l ++ ln d (joins xs)) d ∧ FrP b w w' := by
  subst hcs hn hg
  refine (line96 (w.alloc (.cells ((xs.map Value.string).toArray) 9)) b l d xs w.heap.size xs.length (h.alloc _) hd (fun j x hx => ?_) (by simp) (by omega) (Nat.le_refl _) hlen).mono ?_
  · rw [cell_alloc rfl]; simp [hx]
  · rintro e w' ⟨he, hp, hf⟩
    exact ⟨he, hp, (FrP.alloc _ _ (Nat.le_of_lt h.lt) _).trans hf⟩
theorem itoa97 {n : Int} (h0 : -1000000000 ≤ n) (h1 : n ≤ 1000000000) (w : World) (hG : Glob w (fun k => k < w.heap.size)) :
    Calls Tryz.prog 97 #[vi n] w fun e w' => e = .returned (.string (bs (Lib.itoa n))) ∧ Below w.heap.size w w' :=
  (Any.strconv_Itoa Tryz.laysItoa n (by omega) (by omega) w (glob_pow hG)).mono fun e w' ⟨he, k, os, hw⟩ => ⟨he, by rw [hw]; exact Lib.below_grow _ _ (Nat.le_refl _) _ _⟩
theorem take_flat {α : Type} (f : α → By) : ∀ (l : List α) (k : Nat) (x : α), l[k]? = some x → ((l.take k).flatMap f).length + (f x).length ≤ (l.flatMap f).length
  | [], k, x, h => by simp at h
  | a :: l, 0, x, h => by
    simp only [List.getElem?_cons_zero, Option.some.injEq] at h
    subst h
    simp [List.flatMap_cons]
  | a :: l, k + 1, x, h => by
    have := take_flat f l k x (by simpa using h)
    simp only [List.take_succ_cons, List.flatMap_cons, List.length_append]
    omega
theorem val_shape (x : E) : x.val = .nilIface ∨ ∃ t u, x.val = .iface t u := by
  cases h : x.has with
  | false => exact .inl (val_non h)
  | true => exact .inr (val_has h)
theorem rep_later {w w' : World} {b : Nat} {x : T} {v : Value} (h : Rep (cctx w (fun k => k < b)) x v) (hb : Below b w w') : Rep (cctx w' (fun k => k < b)) x v :=
  h.mono ⟨fun k hk => ⟨hk, hb.block k hk⟩, fun _ _ h => h.elim, fun _ _ _ h => h.elim, fun _ _ _ _ _ h => h.elim, fun _ _ h => h.elim⟩
theorem glob_later {w w' : World} {b : Nat} (h : Glob w (fun k => k < b)) (hb : Below b w w') : Glob w' (fun k => k < b) := h.mono fun k hk => ⟨hk, hb.block k hk⟩
set_option maxRecDepth 100000 in
set_option maxHeartbeats 16000000 in
theorem state99 : ∀ s : Stt, s.sz → s.wt ≤ 400 → ∀ (d : Nat), s.fm d = true → ∀ (w : World) (b : Nat) (l : List UInt8), PR w b l d → Glob w (fun k => k < b) → ∀ v : Value, Rep (cctx w (fun k => k < b)) s.v.t v → l.length + (s.tx d).length ≤ 100000000 →
    Calls Tryz.prog 99 #[pb b, v] w fun e w' => e = .returned (.tuple #[]) ∧ PR w' b (l ++ s.tx d) d ∧ FrP b w w' := by
  refine Stt.rec_in fun bb ll ih hsz hwt d hf w b l h hG v hv hlen => ?_
  have hlt := lt_of hwt
  rw [Stt.sz] at hsz
  obtain ⟨⟨hzz1, hzz2, hzz3, hzz4⟩, hzl⟩ := hsz
  have hzl := (szl_iff ll).1 hzl
  rw [fm_mk] at hf
  simp only [Bool.and_eq_true, decide_eq_true_eq, List.all_eq_true] at hf
  obtain ⟨⟨hd6, hb⟩, hll⟩ := hf
  have hb' := hb
  simp only [Sb.fm, Bool.and_eq_true, List.all_eq_true] at hb'
  rw [tx_mk] at hlen ⊢
  simp only [List.length_append] at hlen
  obtain ⟨A, c, A', c', rfl, hm, hc, hm', hc'⟩ := stt_val hv
  have mixed := mixed
  have hblt := h.lt
  have J1 : joins [⟨#[115, 116, 97, 116, 101, 32]⟩, bb.name, ⟨#[32, 123]⟩] = bb.head := by simp [joins, Sb.head]; rfl
  have J3 : joins [⟨#[97, 108, 108]⟩] = [97, 108, 108] := rfl
  have J4 : joins [⟨#[101, 110, 100]⟩] = [101, 110, 100] := rfl
  have l1 := line_new (w.alloc (Obj.cells #[Value.string bb.name, vi bb.line, vi bb.col, vb bb.all, vb bb.en, Value.string bb.do_, Value.string bb.undo, vi bb.where_, vi bb.retries, Value.slice A bb.ons.length c, Value.slice A' ll.length c'] 139)) b l d [⟨#[115, 116, 97, 116, 101, 32]⟩, bb.name, ⟨#[32, 123]⟩] (h.alloc _) (by omega) (by simp) (by rw [J1]; simp only [ln_len] at hlen; omega) _ rfl _ 0 rfl (w.heap.size + 1) (by simp)
  go_enter Tryz.func99, Tryz.ntmps99
  go_wp2_with (go_at_call 96; go_loud (refine l1.mono ?_))
  rintro e w1 ⟨rfl, p1, f1⟩
  rw [J1] at p1
  clear l1
  obtain ⟨kc, kf⟩ := p1.cells
  have hbox1 := f1.k w.heap.size _ 139 (0, 0) (heap_alloc_new _ _) (by decide) (by decide)
  go_upto_block 0 with fail
  have ed : ((d : Int) + 1) = ((d + 1 : Nat) : Int) := by omega
  have t2 : PR (w1.setCell ⟨b, 2, none⟩ (Value.int IntKind.i64 (↑d + 1))) b (l ++ ln d bb.head) (d + 1 : Nat) ∧ FrP b w1 (w1.setCell ⟨b, 2, none⟩ (Value.int IntKind.i64 (↑d + 1))) := by
    rw [← ed]; exact p1.tabs _
  clear ed
  generalize w1.setCell ⟨b, 2, none⟩ (Value.int IntKind.i64 (↑d + 1)) = w2 at t2 ⊢
  obtain ⟨p2, f2⟩ := t2
  have f02 := f1.trans f2
  clear kc kf hbox1 p1
  have hbox2 := f02.k w.heap.size _ 139 (0, 0) (heap_alloc_new _ _) (by decide) (by decide)
  have kbox : ∀ i, w2.cell? ⟨w.heap.size, i, none⟩ = #[Value.string bb.name, vi bb.line, vi bb.col, vb bb.all, vb bb.en, Value.string bb.do_, Value.string bb.undo, vi bb.where_, vi bb.retries, Value.slice A bb.ons.length c, Value.slice A' ll.length c'][i]? := fun i => by
    simp only [World.cell?, hbox2]; rfl
  go_cut [] from 4 (fun wx => PR wx b (l ++ ln d bb.head ++ bb.kd (d + 1)) (d + 1 : Nat) ∧ FrP b (w.alloc (Obj.cells #[Value.string bb.name, vi bb.line, vi bb.col, vb bb.all, vb bb.en, Value.string bb.do_, Value.string bb.undo, vi bb.where_, vi bb.retries, Value.slice A bb.ons.length c, Value.slice A' ll.length c'] 139)) wx)
  case first =>
    have k3 := kbox 3
    have k4 := kbox 4
    have k5 := kbox 5
    simp only [List.getElem?_toArray, List.getElem?_cons_succ, List.getElem?_cons_zero] at k3 k4 k5
    replace kbox := hd kbox
    replace ih := hd ih
    rcases Bool.eq_false_or_eq_true bb.all with ha | ha
    · rw [ha] at k3
      have hk : bb.kd (d + 1) = ln (d + 1) [97, 108, 108] := by simp [Sb.kd, ha]
      have l3 := line_new w2 b (l ++ ln d bb.head) (d + 1) [⟨#[97, 108, 108]⟩] p2 (by omega) (by simp) (by rw [J3]; simp only [List.length_append, List.length_cons, List.length_nil]; omega) _ rfl _ 0 rfl w2.heap.size rfl
      clear ha
      go_wp2_with (go_at_call 96; go_loud (refine l3.mono ?_))
      rintro e w3 ⟨rfl, p3, f3⟩
      go_wp2
      go_meet
      refine ⟨?_, f02.trans f3⟩
      rw [hk]; exact p3
    · rw [ha] at k3
      rcases Bool.eq_false_or_eq_true bb.en with hen | hen
      · rw [hen] at k4
        have hk : bb.kd (d + 1) = ln (d + 1) [101, 110, 100] := by simp [Sb.kd, ha, hen]
        have l3 := line_new w2 b (l ++ ln d bb.head) (d + 1) [⟨#[101, 110, 100]⟩] p2 (by omega) (by simp) (by rw [J4]; simp only [List.length_append, List.length_cons, List.length_nil]; omega) _ rfl _ 0 rfl w2.heap.size rfl
        clear ha hen
        go_wp2_with (go_at_call 96; go_loud (refine l3.mono ?_))
        rintro e w3 ⟨rfl, p3, f3⟩
        go_wp2
        go_meet
        refine ⟨?_, f02.trans f3⟩
        rw [hk]; exact p3
      · rw [hen] at k4
        by_cases hdo : bb.do_ = ⟨#[]⟩
        · have hk : bb.kd (d + 1) = [] := by unfold Sb.kd; rw [if_neg (by rw [ha]; decide), if_neg (by rw [hen]; decide)]; exact if_pos (show bb.do_ = bs [] from hdo)
          rw [hdo] at k5
          go_wp2
          go_meet
          refine ⟨?_, f02⟩
          rw [hk, List.append_nil]; exact p2
        · have hst : bb.step = true := by simp [Sb.step, show ¬ bb.do_ = bs [] from hdo]
          have h4 : bb.four = true := by
            rcases Bool.or_eq_true_iff.1 hb'.1.2 with h4 | h4
            · rw [hst] at h4; cases h4
            · exact h4
          simp only [Sb.four, Bool.and_eq_true] at h4
          have n3 := num9_b h4.1.2
          have n4 := num9_b h4.2
          have hk : bb.kd (d + 1) = ln (d + 1) ([100, 111, 32] ++ (bl bb.do_ ++ ([32, 117, 110, 100, 111, 32] ++ (bl bb.undo ++ ([32, 97, 116, 32] ++ (Lib.itoa bb.where_ ++ ([32, 114, 101, 116, 114, 105, 101, 115, 32] ++ Lib.itoa bb.retries))))))) := by
            unfold Sb.kd; rw [if_neg (by rw [ha]; decide), if_neg (by rw [hen]; decide)]; exact if_neg (show ¬ bb.do_ = bs [] from hdo)
          have J5 : joins [⟨#[100, 111, 32]⟩, bb.do_, ⟨#[32, 117, 110, 100, 111, 32]⟩, bb.undo, ⟨#[32, 97, 116, 32]⟩, bs (Lib.itoa bb.where_), ⟨#[32, 114, 101, 116, 114, 105, 101, 115, 32]⟩, bs (Lib.itoa bb.retries)] = [100, 111, 32] ++ (bl bb.do_ ++ ([32, 117, 110, 100, 111, 32] ++ (bl bb.undo ++ ([32, 97, 116, 32] ++ (Lib.itoa bb.where_ ++ ([32, 114, 101, 116, 114, 105, 101, 115, 32] ++ Lib.itoa bb.retries)))))) := by
            simp only [joins, List.flatMap_cons, List.flatMap_nil, List.append_nil, bl_bs]; rfl
          have hkl : (bb.kd (d + 1)).length = d + 1 + ([100, 111, 32] ++ (bl bb.do_ ++ ([32, 117, 110, 100, 111, 32] ++ (bl bb.undo ++ ([32, 97, 116, 32] ++ (Lib.itoa bb.where_ ++ ([32, 114, 101, 116, 114, 105, 101, 115, 32] ++ Lib.itoa bb.retries)))))) : By).length + 1 := by rw [hk, ln_len]
          have hw2 : w2.heap.size ≤ w2.heap.size := Nat.le_refl _
          have gl : ∀ W, Below w2.heap.size w2 W → Glob W (fun k => k < W.heap.size) := fun W hb => hG.mono fun k hk => by
            have hs := lt_of_block hbox2
            have hs' := hb.size
            have hp2 := p2.lt
            exact ⟨by omega, (hb.block k (by omega)).trans ((f02.b.block k hk).trans (Below.heap_alloc _ _ _ (by omega)))⟩
          have i1 : ∀ W, Below w2.heap.size w2 W → Calls Tryz.prog 97 #[vi bb.where_] W fun e w'' => e = .returned (.string (bs (Lib.itoa bb.where_))) ∧ Below W.heap.size W w'' := fun W hb => itoa97 (by omega) n3.2 W (gl W hb)
          have i2 : ∀ W, Below w2.heap.size w2 W → Calls Tryz.prog 97 #[vi bb.retries] W fun e w'' => e = .returned (.string (bs (Lib.itoa bb.retries))) ∧ Below W.heap.size W w'' := fun W hb => itoa97 (by omega) n4.2 W (gl W hb)
          generalize hI1 : bs (Lib.itoa bb.where_) = I1 at i1 J5
          generalize hI2 : bs (Lib.itoa bb.retries) = I2 at i2 J5
          have lc : ∀ W, Below w2.heap.size w2 W → Calls Tryz.prog 96 #[pb b, .slice (some ⟨W.heap.size, 0, none⟩) 8 8] (W.alloc (.cells #[.string ⟨#[100, 111, 32]⟩, .string bb.do_, .string ⟨#[32, 117, 110, 100, 111, 32]⟩, .string bb.undo, .string ⟨#[32, 97, 116, 32]⟩, .string I1, .string ⟨#[32, 114, 101, 116, 114, 105, 101, 115, 32]⟩, .string I2] 9)) fun e w' => e = .returned (.tuple #[]) ∧ PR w' b (l ++ ln d bb.head ++ bb.kd (d + 1)) (d + 1 : Nat) ∧ FrP b W w' := fun W hb => by
            have := line_new W b (l ++ ln d bb.head) (d + 1) [⟨#[100, 111, 32]⟩, bb.do_, ⟨#[32, 117, 110, 100, 111, 32]⟩, bb.undo, ⟨#[32, 97, 116, 32]⟩, I1, ⟨#[32, 114, 101, 116, 114, 105, 101, 115, 32]⟩, I2] (p2.below hb) (by omega) (by simp) (by rw [J5]; simp only [List.length_append] at hkl ⊢; omega) _ rfl 8 0 rfl W.heap.size rfl
            rw [J5, ← hk] at this
            exact this
          have kAt : ∀ W, Below w2.heap.size w2 W → W.cell? ⟨w.heap.size, 5, none⟩ = some (.string bb.do_) ∧ W.cell? ⟨w.heap.size, 6, none⟩ = some (.string bb.undo) ∧ W.cell? ⟨w.heap.size, 7, none⟩ = some (vi bb.where_) ∧ W.cell? ⟨w.heap.size, 8, none⟩ = some (vi bb.retries) := fun W hb => by
            have hlt2 := lt_of_block hbox2
            refine ⟨?_, ?_, ?_, ?_⟩ <;> rw [hb.cell (by exact hlt2), kbox] <;> rfl
          have kE : ∀ W W', Below w2.heap.size w2 W → FrP b W W' → W'.cell? ⟨w.heap.size, 5, none⟩ = some (.string bb.do_) ∧ W'.cell? ⟨w.heap.size, 6, none⟩ = some (.string bb.undo) ∧ W'.cell? ⟨w.heap.size, 7, none⟩ = some (vi bb.where_) ∧ W'.cell? ⟨w.heap.size, 8, none⟩ = some (vi bb.retries) := fun W W' hb hf => by
            have hbW := (hb.block _ (lt_of_block hbox2)).trans hbox2
            refine ⟨?_, ?_, ?_, ?_⟩ <;> rw [hf.box hbW (by decide) (by decide)] <;> rfl
          have bd : Below w2.heap.size w2 w2.drew := (Below.refl _ _).drew
          obtain ⟨m5, m6, m7, m8⟩ := kAt _ bd
          have he := isE hdo
          have hb2 := Nat.le_of_lt p2.lt
          clear hk ha hen
          replace kAt := hd kAt
          replace kE := hd kE
          replace i1 := hd i1
          replace i2 := hd i2
          replace lc := hd lc
          clear ih hwt h hG hlt hlen hll hb hb' hm hm' hc hc' hv kbox J5 hkl n3 n4 h4 hst hzz1 hzz2 hzz3 hzz4 J1 J3 J4 gl hI1 hI2 f1 f2 hw2 hbox2 p2
          go_wp2
          go_region_held3 (fun W => W.cell? ⟨w.heap.size, 5, none⟩ = some (.string bb.do_) ∧ W.cell? ⟨w.heap.size, 6, none⟩ = some (.string bb.undo) ∧ W.cell? ⟨w.heap.size, 7, none⟩ = some (vi bb.where_) ∧ W.cell? ⟨w.heap.size, 8, none⟩ = some (vi bb.retries))
            (first | exact kAt _ bd | exact kAt _ bda | exact kAt _ bdb | exact kAt _ (bdb.alloc bdb.size _) | exact kE _ _ bdb f3)
            (first
            | (go_at_call 97; refine (i1 _ bd).mono ?_; rintro e wa ⟨rfl, ba⟩; have bda := bd.trans (ba.mono bd.size))
            | (go_at_call 97; refine (i2 _ bda).mono ?_; rintro e wb ⟨rfl, b_⟩; have bdb := bda.trans (b_.mono bda.size))
            | (go_at_call 96; refine (lc _ bdb).mono ?_; rintro e w3 ⟨rfl, p3, f3⟩))
          all_goals (go_wp2_with fail; go_meet; exact ⟨p3, f02.trans ((FrP.of bdb hb2).trans f3)⟩)
  case rest =>
    obtain ⟨p4, f4⟩ := hcut
    have h400 := hlt.ons
    have h401 := hlt.inner
    clear p2 f2 f02 f1 hbox2 kbox
    have b0 : Below b w (w.alloc (Obj.cells #[Value.string bb.name, vi bb.line, vi bb.col, vb bb.all, vb bb.en, Value.string bb.do_, Value.string bb.undo, vi bb.where_, vi bb.retries, Value.slice A bb.ons.length c, Value.slice A' ll.length c'] 139)) := (Below.refl _ w).alloc (Nat.le_of_lt hblt) _
    have box : ∀ W, FrP b (w.alloc (Obj.cells #[Value.string bb.name, vi bb.line, vi bb.col, vb bb.all, vb bb.en, Value.string bb.do_, Value.string bb.undo, vi bb.where_, vi bb.retries, Value.slice A bb.ons.length c, Value.slice A' ll.length c'] 139)) W → ∀ i, W.cell? ⟨w.heap.size, i, none⟩ = #[Value.string bb.name, vi bb.line, vi bb.col, vb bb.all, vb bb.en, Value.string bb.do_, Value.string bb.undo, vi bb.where_, vi bb.retries, Value.slice A bb.ons.length c, Value.slice A' ll.length c'][i]? := fun W hf => hf.box (heap_alloc_new _ _) (by decide) (by decide)
    have k9 := box wc f4 9
    simp only [List.getElem?_toArray, List.getElem?_cons_succ, List.getElem?_cons_zero] at k9
    replace box := hd box
    replace ih := hd ih
    have c187 : ∀ (o : On), o ∈ bb.ons → ∀ (W : World) (L : By), PR W b L (d + 1 : Nat) → Below b w W → L.length + (ln (d + 1) o.tx).length ≤ 100000000 → ∀ u, Rep (cctx w (fun k => k < b)) o.v.t u → Calls Tryz.prog 187 #[pb b, u] W fun e w' => e = .returned (.tuple #[]) ∧ PR w' b (L ++ ln (d + 1) o.tx) (d + 1 : Nat) ∧ FrP b W w' := fun o ho W L hp hb hL u hu =>
      on187 o (hzz4 o ho) (hb'.2 o ho) (hlt.sets o ho) (fun g hg => ((hzz4 o ho).2.2.2 g hg).2) (hzz4 o ho).2.2.1 W b L (d + 1) hp (by omega) (glob_later hG hb) u (rep_later hu hb) (by rw [ln_len] at hL; omega)
    replace c187 := hd c187
    obtain ⟨L4, hL4⟩ : ∃ x : By, x = l ++ ln d bb.head ++ bb.kd (d + 1) := ⟨_, rfl⟩
    have hL4l : L4.length = l.length + (ln d bb.head).length + (bb.kd (d + 1)).length := by rw [hL4, List.length_append, List.length_append]
    rw [← hL4] at p4
    go_wp2
    go_loopw [52] (fun s52 wr => ∃ k : Nat, k ≤ bb.ons.length ∧ s52 = vi k ∧ PR wr b (L4 ++ (bb.ons.take k).flatMap fun o => ln (d + 1) o.tx) (d + 1 : Nat) ∧ FrP b (w.alloc (Obj.cells #[Value.string bb.name, vi bb.line, vi bb.col, vb bb.all, vb bb.en, Value.string bb.do_, Value.string bb.undo, vi bb.where_, vi bb.retries, Value.slice A bb.ons.length c, Value.slice A' ll.length c'] 139)) wr) (fun s52 _ => bb.ons.length - (intOf s52).toNat)
    case atStart => exact ⟨0, Nat.zero_le _, rfl, by simpa using p4, f4⟩
    case round =>
      obtain ⟨k, hk, rfl, pX, fX⟩ := hrel
      have bX : Below b w wr := b0.trans fX.b
      by_cases hlk : k < bb.ons.length
      · obtain ⟨o, ho⟩ : ∃ o, bb.ons[k]? = some o := ⟨_, List.getElem?_eq_getElem hlk⟩
        have hom := List.mem_of_getElem? ho
        rcases hm with hm | ⟨bk, off, rfl, hbk, hcell⟩
        · rw [hm] at ho; simp at ho
        obtain ⟨u, hu, huc⟩ := hcell k o ho
        have hLo : (L4 ++ (bb.ons.take k).flatMap fun o => ln (d + 1) o.tx).length + (ln (d + 1) o.tx).length ≤ 100000000 := by
          have := take_flat (fun o : On => ln (d + 1) o.tx) bb.ons k o ho
          rw [List.length_append]; omega
        obtain ⟨A2, c2, rfl, _, _⟩ := on_val hu
        have cc := fun W hp hb => c187 o hom W _ hp hb hLo _ hu
        rcases val_shape o.guard with hgv | ⟨ty, uu, hgv⟩
        all_goals
          rw [hgv] at huc cc
          have e0 := (bX.cell (p := ⟨bk, off + k * 6 + 0, none⟩) hbk).trans (huc 0 _ rfl)
          have e1 := (bX.cell (p := ⟨bk, off + k * 6 + 1, none⟩) hbk).trans (huc 1 _ rfl)
          have e2 := (bX.cell (p := ⟨bk, off + k * 6 + 2, none⟩) hbk).trans (huc 2 _ rfl)
          have e3 := (bX.cell (p := ⟨bk, off + k * 6 + 3, none⟩) hbk).trans (huc 3 _ rfl)
          have e4 := (bX.cell (p := ⟨bk, off + k * 6 + 4, none⟩) hbk).trans (huc 4 _ rfl)
          have e5 := (bX.cell (p := ⟨bk, off + k * 6 + 5, none⟩) hbk).trans (huc 5 _ rfl)
          rw [Nat.add_zero] at e0
          replace cc := hd cc
          clear huc hu
          go_wp2_with (go_at_call 187; go_loud (refine (cc _ (pX.alloc _) (bX.trans ((Below.refl _ _).alloc (Nat.le_of_lt pX.lt) _))).mono ?_))
          rintro e w5 ⟨rfl, p5, f5⟩
          go_wp2
          go_roundw
          case rel =>
            refine ⟨k + 1, by omega, by go_num, ?_, fX.trans ((FrP.alloc _ _ (Nat.le_of_lt pX.lt) _).trans f5)⟩
            rw [List.take_add_one, ho]
            simpa using p5
          case measure => simp [intOf]; omega
      · have hk' : k = bb.ons.length := by omega
        subst hk'
        rw [List.take_length] at pX
        have k10 := box wr fX 10
        simp only [List.getElem?_toArray, List.getElem?_cons_succ, List.getElem?_cons_zero] at k10
        have c99 : ∀ (s : Stt), s ∈ ll → ∀ (W : World) (L : By), PR W b L (d + 1 : Nat) → Below b w W → L.length + (s.tx (d + 1)).length ≤ 100000000 → ∀ u, Rep (cctx w (fun k => k < b)) s.v.t u → Calls Tryz.prog 99 #[pb b, u] W fun e w' => e = .returned (.tuple #[]) ∧ PR w' b (L ++ s.tx (d + 1)) (d + 1 : Nat) ∧ FrP b W w' := fun s hs W L hp hb hL u hu =>
          ih s hs (hzl s hs) (hlt.each s hs) (d + 1) (hll s hs) W b L hp (glob_later hG hb) u (rep_later hu hb) hL
        replace c99 := hd c99
        obtain ⟨L5, hL5⟩ : ∃ x : By, x = L4 ++ bb.ons.flatMap fun o => ln (d + 1) o.tx := ⟨_, rfl⟩
        have hL5l : L5.length = L4.length + (bb.ons.flatMap fun o => ln (d + 1) o.tx).length := by rw [hL5, List.length_append]
        rw [← hL5] at pX
        go_wp2
        go_loopw [63] (fun s63 wr => ∃ k : Nat, k ≤ ll.length ∧ s63 = vi k ∧ PR wr b (L5 ++ (ll.take k).flatMap fun s => s.tx (d + 1)) (d + 1 : Nat) ∧ FrP b (w.alloc (Obj.cells #[Value.string bb.name, vi bb.line, vi bb.col, vb bb.all, vb bb.en, Value.string bb.do_, Value.string bb.undo, vi bb.where_, vi bb.retries, Value.slice A bb.ons.length c, Value.slice A' ll.length c'] 139)) wr) (fun s63 _ => ll.length - (intOf s63).toNat)
        case atStart => exact ⟨0, Nat.zero_le _, rfl, by simpa using pX, fX⟩
        case round =>
          obtain ⟨k, hk, rfl, pY, fY⟩ := hrel
          have bY : Below b w wr := b0.trans fY.b
          by_cases hlk : k < ll.length
          · obtain ⟨s, hs⟩ : ∃ s, ll[k]? = some s := ⟨_, List.getElem?_eq_getElem hlk⟩
            have hsm := List.mem_of_getElem? hs
            rcases hm' with hm' | ⟨bk, off, rfl, hbk, hcell⟩
            · rw [hm'] at hs; simp at hs
            obtain ⟨u, hu, huc⟩ := hcell k s hs
            have hLs : (L5 ++ (ll.take k).flatMap fun s => s.tx (d + 1)).length + (s.tx (d + 1)).length ≤ 100000000 := by
              have := take_flat (fun s : Stt => s.tx (d + 1)) ll k s hs
              rw [List.length_append]; omega
            have cc := fun W hp hb => c99 s hsm W _ hp hb hLs _ hu
            obtain ⟨sb, sl⟩ := s
            obtain ⟨A2, c2, A3, c3, rfl, _, _, _, _⟩ := stt_val hu
            have e0 := (bY.cell (p := ⟨bk, off + k * 11 + 0, none⟩) hbk).trans (huc 0 _ rfl)
            have e1 := (bY.cell (p := ⟨bk, off + k * 11 + 1, none⟩) hbk).trans (huc 1 _ rfl)
            have e2 := (bY.cell (p := ⟨bk, off + k * 11 + 2, none⟩) hbk).trans (huc 2 _ rfl)
            have e3 := (bY.cell (p := ⟨bk, off + k * 11 + 3, none⟩) hbk).trans (huc 3 _ rfl)
            have e4 := (bY.cell (p := ⟨bk, off + k * 11 + 4, none⟩) hbk).trans (huc 4 _ rfl)
            have e5 := (bY.cell (p := ⟨bk, off + k * 11 + 5, none⟩) hbk).trans (huc 5 _ rfl)
            have e6 := (bY.cell (p := ⟨bk, off + k * 11 + 6, none⟩) hbk).trans (huc 6 _ rfl)
            have e7 := (bY.cell (p := ⟨bk, off + k * 11 + 7, none⟩) hbk).trans (huc 7 _ rfl)
            have e8 := (bY.cell (p := ⟨bk, off + k * 11 + 8, none⟩) hbk).trans (huc 8 _ rfl)
            have e9 := (bY.cell (p := ⟨bk, off + k * 11 + 9, none⟩) hbk).trans (huc 9 _ rfl)
            have e10 := (bY.cell (p := ⟨bk, off + k * 11 + 10, none⟩) hbk).trans (huc 10 _ rfl)
            rw [Nat.add_zero] at e0
            replace cc := hd cc
            clear huc hu
            go_wp2_with (go_at_call 99; go_loud (refine (cc _ (pY.alloc _) (bY.trans ((Below.refl _ _).alloc (Nat.le_of_lt pY.lt) _))).mono ?_))
            rintro e w5 ⟨rfl, p5, f5⟩
            go_wp2
            go_roundw
            case rel =>
              refine ⟨k + 1, by omega, by go_num, ?_, fY.trans ((FrP.alloc _ _ (Nat.le_of_lt pY.lt) _).trans f5)⟩
              rw [List.take_add_one, hs]
              simpa using p5
            case measure => simp [intOf]; omega
          · have hk' : k = ll.length := by omega
            subst hk'
            rw [List.take_length] at pY
            obtain ⟨kc, kf⟩ := pY.cells
            have tt := pY.tabs d
            have hJ : joins [⟨#[125]⟩] = [125] := rfl
            have lF := line_new (wr.setCell ⟨b, 2, none⟩ (vi d)) b (L5 ++ ll.flatMap fun s => s.tx (d + 1)) d [⟨#[125]⟩] tt.1 (by omega) (by simp) (by rw [hJ, List.length_append]; simp only [List.length_cons, List.length_nil]; omega) _ rfl _ 0 rfl wr.heap.size (by simp)
            rw [hJ] at lF
            go_wp2_with (go_at_call 96; go_loud (refine lF.mono ?_))
            rintro e w6 ⟨rfl, p6, f6⟩
            go_wp2
            go_end0
            refine ⟨rfl, ?_, (FrP.alloc w b (Nat.le_of_lt hblt) _).trans ((fY.trans tt.2).trans f6)⟩
            have eL : l ++ (ln d bb.head ++ (bb.kd (d + 1) ++ (bb.ons.flatMap (fun o => ln (d + 1) o.tx) ++ ((ll.flatMap fun s => s.tx (d + 1)) ++ ln d [125])))) = L5 ++ (ll.flatMap fun s => s.tx (d + 1)) ++ ln d [125] := by
              rw [hL5, hL4]; simp only [List.append_assoc]
            rw [eL]; exact p6
end Go.Proofs.YtfknpnkdedckhaaGreatDoorT

/- show.Print: what it calls, as contracts. -/
namespace Go.Proofs.YtfknpnkdedckhaaGreatDoorT
open Go Go.Proofs Go.RowKit
set_option linter.unusedVariables false
/-- A chart handed over, as it is read. -/
theorem ch_rep {w : World} {ok : Nat → Prop} {c : Ch} {v : Value} {bs : List Nat} (h : RepX w ok c.v.t v bs) : Rep (cctx w ok) c.v.t v ∧ bs = [] := by
  replace h : RepX w ok (.agg [st c.name, i64 c.version, i64 c.line, i64 c.col, .sl 4 (c.vars.map fun x => x.v.t), .sl 11 (c.states.map fun s => s.v.t)]) v bs := h
  show Rep (cctx w ok) (.agg [st c.name, i64 c.version, i64 c.line, i64 c.col, .sl 4 (c.vars.map fun x => x.v.t), .sl 11 (c.states.map fun s => s.v.t)]) v ∧ bs = []
  obtain ⟨vs, rfl, hx, h1⟩ := h
  obtain ⟨u1, us, b1, r1, rfl, rfl, ⟨rfl, g1⟩, hx⟩ := hx
  obtain ⟨u2, us, b1, r2, rfl, rfl, ⟨rfl, g2⟩, hx⟩ := hx
  obtain ⟨u3, us, b1, r3, rfl, rfl, ⟨rfl, g3⟩, hx⟩ := hx
  obtain ⟨u4, us, b1, r4, rfl, rfl, ⟨rfl, g4⟩, hx⟩ := hx
  obtain ⟨u5, us, b1, r5, rfl, rfl, ⟨rfl, g5⟩, hx⟩ := hx
  obtain ⟨u6, us, b1, r6, rfl, rfl, ⟨rfl, g6⟩, hx⟩ := hx
  obtain ⟨rfl, rfl⟩ := hx
  refine ⟨.agg rfl (fun j x u hx hu => ?_) h1, rfl⟩
  match j, hx, hu with
  | 0, hx, hu => simp at hx hu; subst hx hu; exact g1
  | 1, hx, hu => simp at hx hu; subst hx hu; exact g2
  | 2, hx, hu => simp at hx hu; subst hx hu; exact g3
  | 3, hx, hu => simp at hx hu; subst hx hu; exact g4
  | 4, hx, hu => simp at hx hu; subst hx hu; exact g5
  | 5, hx, hu => simp at hx hu; subst hx hu; exact g6
  | j + 6, hx, hu => simp at hx
theorem rep_ch {w : World} {ok : Nat → Prop} {c : Ch} {v : Value} (h : Rep (cctx w ok) c.v.t v) : RepX w ok c.v.t v [] := by
  replace h : Rep (cctx w ok) (.agg [st c.name, i64 c.version, i64 c.line, i64 c.col, .sl 4 (c.vars.map fun x => x.v.t), .sl 11 (c.states.map fun s => s.v.t)]) v := h
  show RepX w ok (.agg [st c.name, i64 c.version, i64 c.line, i64 c.col, .sl 4 (c.vars.map fun x => x.v.t), .sl 11 (c.states.map fun s => s.v.t)]) v []
  have ho := h.agg_parts
  obtain ⟨vs, e, _, _, h1⟩ := ho
  obtain ⟨a1, a2, a3, a4, a5, a6, rfl, g1, g2, g3, g4, g5, g6⟩ := rep_agg6 h
  obtain rfl : [a1, a2, a3, a4, a5, a6] = vs := by simpa using e
  exact ⟨_, rfl, ⟨_, _, [], [], rfl, rfl, ⟨rfl, g1⟩, ⟨_, _, [], [], rfl, rfl, ⟨rfl, g2⟩, ⟨_, _, [], [], rfl, rfl, ⟨rfl, g3⟩, ⟨_, _, [], [], rfl, rfl, ⟨rfl, g4⟩, ⟨_, _, [], [], rfl, rfl, ⟨rfl, g5⟩, ⟨_, _, [], [], rfl, rfl, ⟨rfl, g6⟩, rfl, rfl⟩⟩⟩⟩⟩⟩, h1⟩
/-- show.Formed, at a value. -/
theorem formed37 (c : Ch) (hs : c.sz) (hl : Light c) (w : World) (hG : Glob w (fun k => k < w.heap.size)) (v : Value) (hv : Rep (cctx w (fun k => k < w.heap.size)) c.v.t v) :
    Calls Tryz.prog 37 #[v] w fun e w' => e = .returned (vb c.fm) ∧ Below w.heap.size w w' := by
  refine ((r37 c hs hl).2 w (fun k => k < w.heap.size) [v] [] ⟨_, _, [], [], rfl, rfl, rep_ch hv, rfl, rfl⟩ .nil (fun k hk => (List.not_mem_nil hk).elim) (fun k hk => hk) hG).mono ?_
  rintro e w' ⟨v, b1, b2, rfl, _, _, hfr, hr, _⟩
  exact ⟨by rw [rep_scal hr.2], (hfr.mono (fun i hi => (List.not_mem_nil hi).elim)).below⟩
/-- A function at a text, or at plain values: nothing that was there has turned. -/
theorem words101 (s : ByteArray) (w : World) (hG : Glob w (fun k => k < w.heap.size)) :
    Calls Tryz.prog 101 #[.string s] w fun e w' => (∃ A n m, e = .returned (.tuple #[.slice A n m, .agg #[vi ((wordsOf s).2.1.1 : Nat), vi ((wordsOf s).2.1.2 : Nat)], vi ((wordsOf s).2.2 : Nat)])) ∧ Below w.heap.size w w' := by
  refine ((r101 s).2 w (fun k => k < w.heap.size) [.string s] [] ⟨_, _, [], [], rfl, rfl, X_s rfl, rfl, rfl⟩ .nil (fun k hk => (List.not_mem_nil hk).elim) (fun k hk => hk) hG).mono ?_
  rintro e w' ⟨v, b1, b2, rfl, _, _, hfr, hr, _⟩
  refine ⟨?_, (hfr.mono (fun i hi => (List.not_mem_nil hi).elim)).below⟩
  obtain ⟨vs, rfl, hx⟩ := hr
  obtain ⟨u1, us, c1, r1, rfl, _, ⟨_, g1⟩, hx⟩ := hx
  obtain ⟨u2, us, c2, r2, rfl, _, g2, hx⟩ := hx
  obtain ⟨u3, us, c3, r3, rfl, _, ⟨_, g3⟩, hx⟩ := hx
  obtain ⟨rfl, _⟩ := hx
  obtain ⟨ws, rfl, hy, _⟩ := g2
  obtain ⟨y1, us, d1, s1, rfl, _, ⟨_, k1⟩, hy⟩ := hy
  obtain ⟨y2, us, d2, s2, rfl, _, ⟨_, k2⟩, hy⟩ := hy
  obtain ⟨rfl, _⟩ := hy
  obtain ⟨A, n, rfl, _, _⟩ := g1.sl_row
  rw [rep_scal g3, rep_scal k1, rep_scal k2]
  exact ⟨_, _, _, rfl⟩
theorem itoa98 {n : Int} (h0 : -1000000000 ≤ n) (h1 : n ≤ 1000000000) (w : World) (hG : Glob w (fun k => k < w.heap.size)) :
    Calls Tryz.prog 98 #[vi n, vi 10] w fun e w' => e = .returned (.string (bs (Lib.itoa n))) ∧ Below w.heap.size w w' := by
  refine ((r98i h0 h1).2 w (fun k => k < w.heap.size) [vi n, vi 10] [] ⟨_, _, [], [], rfl, rfl, X_s rfl, ⟨_, _, [], [], rfl, rfl, X_s rfl, rfl, rfl⟩⟩ .nil (fun k hk => (List.not_mem_nil hk).elim) (fun k hk => hk) hG).mono ?_
  rintro e w' ⟨v, b1, b2, rfl, _, _, hfr, hr, _⟩
  exact ⟨by rw [rep_scal hr.2], (hfr.mono (fun i hi => (List.not_mem_nil hi).elim)).below⟩
end Go.Proofs.YtfknpnkdedckhaaGreatDoorT

/- show.Print. -/
namespace Go.Proofs.YtfknpnkdedckhaaGreatDoorT
open Go Go.Proofs Go.RowKit
set_option linter.unusedVariables false
set_option maxRecDepth 100000 in
set_option maxHeartbeats 16000000 in
theorem calls35 (c : Ch) (hs : c.sz) (hl : Light c) (w : World) (hG : Glob w (fun k => k < w.heap.size)) (v : Value) (hv : Rep (cctx w (fun k => k < w.heap.size)) c.v.t v) :
    Calls Tryz.prog 35 #[v] w fun e w' => e = .returned (.tuple #[.string (prC c).1, vi (prC c).2]) ∧ Below w.heap.size w w' := by
  obtain ⟨A, n, A', n', rfl, hm, hn, hm', hn'⟩ := ch_val hv
  have mixed := mixed
  have b0 : Below w.heap.size w (w.alloc (Obj.cells #[Value.string c.name, vi c.version, vi c.line, vi c.col, Value.slice A c.vars.length n, Value.slice A' c.states.length n'] 41)) := (Below.refl _ w).alloc (Nat.le_refl _) _
  have f37 := formed37 c hs hl (w.alloc (Obj.cells #[Value.string c.name, vi c.version, vi c.line, vi c.col, Value.slice A c.vars.length n, Value.slice A' c.states.length n'] 41)) (hG.mono fun k hk => ⟨Nat.lt_of_lt_of_le hk b0.size, b0.block k hk⟩) _ (hv.mono ⟨fun k hk => ⟨Nat.lt_of_lt_of_le hk b0.size, b0.block k hk⟩, fun _ _ h => h.elim, fun _ _ _ h => h.elim, fun _ _ _ _ _ h => h.elim, fun _ _ h => h.elim⟩)
  obtain ⟨pr, hpr⟩ : ∃ x, x = prC c := ⟨_, rfl⟩
  rw [← hpr]
  go_enter Tryz.func35, Tryz.ntmps35
  go_wp2_with (go_at_call 37; go_loud (refine f37.mono ?_))
  rintro e w1 ⟨rfl, b1⟩
  have b01 : Below w.heap.size w w1 := b0.trans (b1.mono b0.size)
  rcases Bool.eq_false_or_eq_true c.fm with hf | hf
  · rw [hf]
    have PR0 : PR (w1.alloc (Obj.cells #[Value.pointer none, Value.slice none 0 0, vi 0] 215)) w1.heap.size [] (0 : Nat) := ⟨_, _, heap_alloc_new _ _, .inl rfl, rfl, .inl ⟨rfl, rfl⟩⟩
    have hf' := hf
    simp only [Ch.fm, Bool.and_eq_true, List.all_eq_true] at hf'
    have n2 := num9_b hf'.1.1.2
    have hlen := ch_len hf hl
    simp only [Ch.tx, List.length_append] at hlen
    have hbox1 := (b1.block w.heap.size (by simp)).trans (heap_alloc_new w (Obj.cells #[Value.string c.name, vi c.version, vi c.line, vi c.col, Value.slice A c.vars.length n, Value.slice A' c.states.length n'] 41))
    have hlt1 := lt_of_block hbox1
    have b02 : Below w.heap.size w (w1.alloc (Obj.cells #[Value.pointer none, Value.slice none 0 0, vi 0] 215)) := b01.alloc b01.size _
    have hbox2 := (Below.heap_alloc w1 (Obj.cells #[Value.pointer none, Value.slice none 0 0, vi 0] 215) w.heap.size hlt1).trans hbox1
    go_upto_region 4 with fail
    obtain ⟨b, hb⟩ : ∃ b, b = w1.heap.size := ⟨_, rfl⟩
    rw [← hb] at PR0 hlt1 ⊢
    have hlb : w.heap.size ≤ b := by omega
    have hbs : b ≤ (w1.alloc (Obj.cells #[Value.pointer none, Value.slice none 0 0, vi 0] 215)).heap.size := Nat.le_of_lt PR0.lt
    generalize w1.alloc (Obj.cells #[Value.pointer none, Value.slice none 0 0, vi 0] 215) = w2 at PR0 b02 hbox2 hbs ⊢
    clear hbox1 b1 b01 f37 b0 hb
    go_cut [4] from 5 (fun s4 wx => s4 = pb b ∧ PR wx b (ln 0 c.head) (0 : Nat) ∧ FrP b w2 wx)
    case first =>
     have J1 : ∀ I : ByteArray, joins [⟨#[99, 104, 97, 114, 116, 32]⟩, c.name, ⟨#[32]⟩, I, ⟨#[32, 123]⟩] = [99, 104, 97, 114, 116, 32] ++ (bl c.name ++ ([32] ++ (bl I ++ [32, 123]))) := fun I => by simp [joins]; rfl
     have J1' : joins [⟨#[99, 104, 97, 114, 116, 32]⟩, c.name, ⟨#[32]⟩, bs (Lib.itoa c.version), ⟨#[32, 123]⟩] = c.head := by rw [J1, bl_bs]; rfl
     have gl : ∀ W, Below w2.heap.size w2 W → Glob W (fun k => k < W.heap.size) := fun W hb => hG.mono fun k hk => by
      have h1 := b02.size
      have h2 := hb.size
      exact ⟨by omega, (hb.block k (by omega)).trans (b02.block k hk)⟩
     have i1 : ∀ W, Below w2.heap.size w2 W → Calls Tryz.prog 97 #[vi c.version] W fun e w'' => e = .returned (.string (bs (Lib.itoa c.version))) ∧ Below W.heap.size W w'' := fun W hb => itoa97 (by omega) n2.2 W (gl W hb)
     generalize hI1 : bs (Lib.itoa c.version) = I1 at i1 J1'
     have lc : ∀ W, Below w2.heap.size w2 W → Calls Tryz.prog 96 #[pb b, .slice (some ⟨W.heap.size, 0, none⟩) 5 5] (W.alloc (.cells #[.string ⟨#[99, 104, 97, 114, 116, 32]⟩, .string c.name, .string ⟨#[32]⟩, .string I1, .string ⟨#[32, 123]⟩] 9)) fun e w' => e = .returned (.tuple #[]) ∧ PR w' b (ln 0 c.head) (0 : Nat) ∧ FrP b W w' := fun W hb => by
      have := line_new W b [] 0 [⟨#[99, 104, 97, 114, 116, 32]⟩, c.name, ⟨#[32]⟩, I1, ⟨#[32, 123]⟩] (PR0.below hb) (by omega) (by simp) (by rw [J1']; simp only [ln_len] at hlen; simp only [List.length_nil]; omega) _ rfl 5 0 rfl W.heap.size rfl
      rw [J1', List.nil_append] at this
      exact this
     have kAt : ∀ W, Below w2.heap.size w2 W → W.cell? ⟨w.heap.size, 0, none⟩ = some (.string c.name) ∧ W.cell? ⟨w.heap.size, 1, none⟩ = some (vi c.version) := fun W hb => by
      have hbW := (hb.block _ (lt_of_block hbox2)).trans hbox2
      constructor <;> simp [World.cell?, hbW]
     have kE : ∀ W W', Below w2.heap.size w2 W → FrP b W W' → W'.cell? ⟨w.heap.size, 0, none⟩ = some (.string c.name) ∧ W'.cell? ⟨w.heap.size, 1, none⟩ = some (vi c.version) := fun W W' hb hf => by
      have hbW := (hb.block _ (lt_of_block hbox2)).trans hbox2
      refine ⟨?_, ?_⟩ <;> rw [hf.box hbW (by decide) (by decide)] <;> rfl
     have bd : Below w2.heap.size w2 w2.drew := (Below.refl _ _).drew
     obtain ⟨m0, m1⟩ := kAt _ bd
     replace kAt := hd kAt
     replace kE := hd kE
     replace i1 := hd i1
     replace lc := hd lc
     clear J1 J1' gl hI1 hbox2 hlen PR0 b02 hG hv hm hm' hn hn' hs hl hf hf' n2 hlt1 hlb hpr
     go_region_held3 (fun W => W.cell? ⟨w.heap.size, 0, none⟩ = some (.string c.name) ∧ W.cell? ⟨w.heap.size, 1, none⟩ = some (vi c.version))
      (first | exact kAt _ bd | exact kAt _ bda | exact kAt _ (bda.alloc bda.size _) | exact kE _ _ bda f3)
      (first
      | (go_at_call 97; refine (i1 _ bd).mono ?_; rintro e wa ⟨rfl, ba⟩; have bda := bd.trans (ba.mono bd.size))
      | (go_at_call 96; refine (lc _ bda).mono ?_; rintro e w3 ⟨rfl, p3, f3⟩))
     all_goals (go_wp2_with fail; go_meet; exact ⟨rfl, p3, (FrP.of bda hbs).trans f3⟩)
    case rest =>
     obtain ⟨rfl, p4, f4⟩ := hcut
     have box : ∀ W, FrP b w2 W → ∀ i, W.cell? ⟨w.heap.size, i, none⟩ = #[Value.string c.name, vi c.version, vi c.line, vi c.col, Value.slice A c.vars.length n, Value.slice A' c.states.length n'][i]? := fun W hf => hf.box hbox2 (by decide) (by decide)
     have bel : ∀ W, FrP b w2 W → Below w.heap.size w W := fun W hf => b02.trans (hf.b.mono hlb)
     have glo : ∀ W, Below w.heap.size w W → Glob W (fun k => k < W.heap.size) := fun W hb => hG.mono fun k hk => ⟨Nat.lt_of_lt_of_le hk hb.size, hb.block k hk⟩
     have hvars := hl.vars
     have heach := hl.each
     have h400 := heach.2
     have c98 : ∀ x ∈ c.vars, ∀ W, Below w.heap.size w W → Calls Tryz.prog 98 #[vi x.n, vi 10] W fun e w' => e = .returned (.string (bs (Lib.itoa x.n))) ∧ Below W.heap.size W w' := fun x hx W hb => by
       have h := hf'.1.2 x hx
       simp only [Vr.fm, Bool.and_eq_true, decide_eq_true_eq] at h
       exact itoa98 h.1.2 h.2 W (glo W hb)
     have c99 : ∀ (s : Stt), s ∈ c.states → ∀ (W : World) (L : By), PR W b L (1 : Nat) → Below w.heap.size w W → L.length + (s.tx 1).length ≤ 100000000 → ∀ u, Rep (cctx w (fun k => k < w.heap.size)) s.v.t u → Calls Tryz.prog 99 #[pb b, u] W fun e w' => e = .returned (.tuple #[]) ∧ PR w' b (L ++ s.tx 1) (1 : Nat) ∧ FrP b W w' := fun s hsm W L hp hb hL u hu =>
       state99 s (hs.states s hsm) (heach.1 s hsm) 1 (hf'.2 s hsm) W b L hp (hG.mono fun k hk => ⟨Nat.lt_of_lt_of_le hk hlb, hb.block k hk⟩) u (hu.mono ⟨fun k hk => ⟨Nat.lt_of_lt_of_le hk hlb, hb.block k hk⟩, fun _ _ h => h.elim, fun _ _ _ h => h.elim, fun _ _ _ _ _ h => h.elim, fun _ _ h => h.elim⟩) hL
     obtain ⟨kc, kf⟩ := p4.cells
     have k4 := box wc f4 4
     simp only [List.getElem?_toArray, List.getElem?_cons_succ, List.getElem?_cons_zero] at k4
     have t2 : PR (wc.setCell ⟨b, 2, none⟩ (Value.int IntKind.i64 1)) b (ln 0 c.head) (1 : Nat) ∧ FrP b wc (wc.setCell ⟨b, 2, none⟩ (Value.int IntKind.i64 1)) := p4.tabs _
     replace box := hd box
     replace bel := hd bel
     replace glo := hd glo
     replace c98 := hd c98
     replace c99 := hd c99
     replace hs := hd hs
     replace hl := hd hl
     replace heach := hd heach
     clear hbox2 PR0 p4 hv hG
     go_upto_region 6 with fail
     generalize wc.setCell ⟨b, 2, none⟩ (Value.int IntKind.i64 1) = w5 at t2 ⊢
     obtain ⟨p5, f45⟩ := t2
     have f5 := f4.trans f45
     clear kc kf k4 f45 f4
     have k4 := box w5 f5 4
     simp only [List.getElem?_toArray, List.getElem?_cons_succ, List.getElem?_cons_zero] at k4
     obtain ⟨L1, hL1⟩ : ∃ x : By, x = ln 0 c.head := ⟨_, rfl⟩
     have hL1l : L1.length = (ln 0 c.head).length := by rw [hL1]
     rw [← hL1] at p5
     replace hf' := hd hf'
     replace hf := hd hf
     replace hL1 := hd hL1
     go_wp2
     go_loopw [36] (fun s36 wr => ∃ k : Nat, k ≤ c.vars.length ∧ s36 = vi k ∧ PR wr b (L1 ++ (c.vars.take k).flatMap fun x => ln 1 x.tx) (1 : Nat) ∧ FrP b w2 wr) (fun s36 _ => c.vars.length - (intOf s36).toNat)
     case atStart => exact ⟨0, Nat.zero_le _, rfl, by simpa using p5, f5⟩
     case round =>
      obtain ⟨k, hk, rfl, pX, fX⟩ := hrel
      have bX := bel wr fX
      by_cases hlk : k < c.vars.length
      · obtain ⟨x, hx⟩ : ∃ x, c.vars[k]? = some x := ⟨_, List.getElem?_eq_getElem hlk⟩
        have hxm := List.mem_of_getElem? hx
        rcases hm with hm | ⟨bk, off, rfl, hbk, hcell⟩
        · rw [hm] at hx; simp at hx
        obtain ⟨u, hu, huc⟩ := hcell k x hx
        have hLx : (L1 ++ (c.vars.take k).flatMap fun x => ln 1 x.tx).length + (ln 1 x.tx).length ≤ 100000000 := by
          have := take_flat (fun x : Vr => ln 1 x.tx) c.vars k x hx
          rw [List.length_append]; omega
        obtain rfl := var_val hu
        have e0 := (bX.cell (p := ⟨bk, off + k * 4 + 0, none⟩) hbk).trans (huc 0 _ rfl)
        have e1 := (bX.cell (p := ⟨bk, off + k * 4 + 1, none⟩) hbk).trans (huc 1 _ rfl)
        have e2 := (bX.cell (p := ⟨bk, off + k * 4 + 2, none⟩) hbk).trans (huc 2 _ rfl)
        have e3 := (bX.cell (p := ⟨bk, off + k * 4 + 3, none⟩) hbk).trans (huc 3 _ rfl)
        rw [Nat.add_zero] at e0
        clear huc hu hcell
        go_upto_region 9 with fail
        have hWe : Below wr.heap.size wr (wr.alloc (Obj.cells #[Value.string x.name, Value.int IntKind.i64 x.n, Value.int IntKind.i64 x.line, Value.int IntKind.i64 x.col] 147)) := (Below.refl _ _).alloc (Nat.le_refl _) _
        have hbx := heap_alloc_new wr (Obj.cells #[Value.string x.name, Value.int IntKind.i64 x.n, Value.int IntKind.i64 x.line, Value.int IntKind.i64 x.col] 147)
        have pW := pX.alloc (Obj.cells #[Value.string x.name, Value.int IntKind.i64 x.n, Value.int IntKind.i64 x.line, Value.int IntKind.i64 x.col] 147)
        have fW := fX.trans (FrP.alloc wr b (Nat.le_of_lt pX.lt) (Obj.cells #[Value.string x.name, Value.int IntKind.i64 x.n, Value.int IntKind.i64 x.line, Value.int IntKind.i64 x.col] 147))
        generalize wr.alloc (Obj.cells #[Value.string x.name, Value.int IntKind.i64 x.n, Value.int IntKind.i64 x.line, Value.int IntKind.i64 x.col] 147) = wl at hWe hbx pW fW ⊢
        generalize wr.heap.size = zr at hWe hbx ⊢
        have bW := bel wl fW
        have J1 : joins [⟨#[118, 97, 114, 32]⟩, x.name, ⟨#[32, 61, 32]⟩, bs (Lib.itoa x.n)] = x.tx := by simp only [joins, List.flatMap_cons, List.flatMap_nil, List.append_nil, bl_bs]; rfl
        have i1 : ∀ W, Below wl.heap.size wl W → Calls Tryz.prog 98 #[vi x.n, vi 10] W fun e w'' => e = .returned (.string (bs (Lib.itoa x.n))) ∧ Below W.heap.size W w'' := fun W hb => c98 x hxm W (bW.trans (hb.mono bW.size))
        have hLn := ln_len 1 x.tx
        generalize hI1 : bs (Lib.itoa x.n) = I1 at i1 J1
        have lc : ∀ W, Below wl.heap.size wl W → Calls Tryz.prog 96 #[pb b, .slice (some ⟨W.heap.size, 0, none⟩) 4 4] (W.alloc (.cells #[.string ⟨#[118, 97, 114, 32]⟩, .string x.name, .string ⟨#[32, 61, 32]⟩, .string I1] 9)) fun e w' => e = .returned (.tuple #[]) ∧ PR w' b ((L1 ++ (c.vars.take k).flatMap fun x => ln 1 x.tx) ++ ln 1 x.tx) (1 : Nat) ∧ FrP b W w' := fun W hb => by
          have := line_new W b (L1 ++ (c.vars.take k).flatMap fun x => ln 1 x.tx) 1 [⟨#[118, 97, 114, 32]⟩, x.name, ⟨#[32, 61, 32]⟩, I1] (pW.below hb) (by omega) (by simp) (by rw [J1]; omega) _ rfl 4 0 rfl W.heap.size rfl
          rw [J1] at this
          exact this
        have kAt : ∀ W, Below wl.heap.size wl W → W.cell? ⟨zr, 0, none⟩ = some (.string x.name) ∧ W.cell? ⟨zr, 1, none⟩ = some (vi x.n) := fun W hb => by
          have hbW := (hb.block _ (lt_of_block hbx)).trans hbx
          constructor <;> simp [World.cell?, hbW]
        have kE : ∀ W W', Below wl.heap.size wl W → FrP b W W' → W'.cell? ⟨zr, 0, none⟩ = some (.string x.name) ∧ W'.cell? ⟨zr, 1, none⟩ = some (vi x.n) := fun W W' hb hf => by
          have hbW := (hb.block _ (lt_of_block hbx)).trans hbx
          refine ⟨?_, ?_⟩ <;> rw [hf.box hbW (by decide) (by decide)] <;> rfl
        have bd : Below wl.heap.size wl wl.drew := (Below.refl _ _).drew
        have hbs2 := Nat.le_of_lt pW.lt
        obtain ⟨m0, m1⟩ := kAt _ bd
        replace kAt := hd kAt
        replace kE := hd kE
        replace i1 := hd i1
        replace lc := hd lc
        clear J1 hLn hI1 hbx pW bW e0 e1 e2 e3 hLx hxm hWe pX fX bX hm' hn hn' hlb hpr hlt1 hlen box bel glo c98 c99 h400 f5 p5 hbs k4 hf hf' n2 b02
        go_region_held3 (fun W => W.cell? ⟨zr, 0, none⟩ = some (.string x.name) ∧ W.cell? ⟨zr, 1, none⟩ = some (vi x.n))
          (first | exact kAt _ bd | exact kAt _ bda | exact kAt _ (bda.alloc bda.size _) | exact kE _ _ bda f3)
          (first
          | (go_at_call 98; refine (i1 _ bd).mono ?_; rintro e wa ⟨rfl, ba⟩; have bda := bd.trans (ba.mono bd.size))
          | (go_at_call 96; refine (lc _ bda).mono ?_; rintro e w3 ⟨rfl, p3, f3⟩))
        all_goals (go_wp2_with fail; go_roundw)
        case rel =>
          refine ⟨k + 1, by omega, by go_num, ?_, fW.trans ((FrP.of bda hbs2).trans f3)⟩
          rw [List.take_add_one, hx]
          simpa using p3
        case measure => simp [intOf]; omega
      · have hk' : k = c.vars.length := by omega
        subst hk'
        rw [List.take_length] at pX
        have k5 := box wr fX 5
        simp only [List.getElem?_toArray, List.getElem?_cons_succ, List.getElem?_cons_zero] at k5
        obtain ⟨L2, hL2⟩ : ∃ x : By, x = L1 ++ c.vars.flatMap fun x => ln 1 x.tx := ⟨_, rfl⟩
        have hL2l : L2.length = L1.length + (c.vars.flatMap fun x => ln 1 x.tx).length := by rw [hL2, List.length_append]
        rw [← hL2] at pX
        clear hm c98 k4 p5 f5
        go_wp2
        go_loopw [52] (fun s52 wr => ∃ k : Nat, k ≤ c.states.length ∧ s52 = vi k ∧ PR wr b (L2 ++ (c.states.take k).flatMap fun s => s.tx 1) (1 : Nat) ∧ FrP b w2 wr) (fun s52 _ => c.states.length - (intOf s52).toNat)
        case atStart => exact ⟨0, Nat.zero_le _, rfl, by simpa using pX, fX⟩
        case round =>
          obtain ⟨k, hk, rfl, pY, fY⟩ := hrel
          have bY := bel wr fY
          by_cases hlk : k < c.states.length
          · obtain ⟨s, hs'⟩ : ∃ s, c.states[k]? = some s := ⟨_, List.getElem?_eq_getElem hlk⟩
            have hsm := List.mem_of_getElem? hs'
            rcases hm' with hm' | ⟨bk, off, rfl, hbk, hcell⟩
            · rw [hm'] at hs'; simp at hs'
            obtain ⟨u, hu, huc⟩ := hcell k s hs'
            have hLs : (L2 ++ (c.states.take k).flatMap fun s => s.tx 1).length + (s.tx 1).length ≤ 100000000 := by
              have := take_flat (fun s : Stt => s.tx 1) c.states k s hs'
              rw [List.length_append]; omega
            have cc := fun W hp hb => c99 s hsm W _ hp hb hLs _ hu
            obtain ⟨sb, sl⟩ := s
            obtain ⟨A2, c2, A3, c3, rfl, _, _, _, _⟩ := stt_val hu
            have e0 := (bY.cell (p := ⟨bk, off + k * 11 + 0, none⟩) hbk).trans (huc 0 _ rfl)
            have e1 := (bY.cell (p := ⟨bk, off + k * 11 + 1, none⟩) hbk).trans (huc 1 _ rfl)
            have e2 := (bY.cell (p := ⟨bk, off + k * 11 + 2, none⟩) hbk).trans (huc 2 _ rfl)
            have e3 := (bY.cell (p := ⟨bk, off + k * 11 + 3, none⟩) hbk).trans (huc 3 _ rfl)
            have e4 := (bY.cell (p := ⟨bk, off + k * 11 + 4, none⟩) hbk).trans (huc 4 _ rfl)
            have e5 := (bY.cell (p := ⟨bk, off + k * 11 + 5, none⟩) hbk).trans (huc 5 _ rfl)
            have e6 := (bY.cell (p := ⟨bk, off + k * 11 + 6, none⟩) hbk).trans (huc 6 _ rfl)
            have e7 := (bY.cell (p := ⟨bk, off + k * 11 + 7, none⟩) hbk).trans (huc 7 _ rfl)
            have e8 := (bY.cell (p := ⟨bk, off + k * 11 + 8, none⟩) hbk).trans (huc 8 _ rfl)
            have e9 := (bY.cell (p := ⟨bk, off + k * 11 + 9, none⟩) hbk).trans (huc 9 _ rfl)
            have e10 := (bY.cell (p := ⟨bk, off + k * 11 + 10, none⟩) hbk).trans (huc 10 _ rfl)
            rw [Nat.add_zero] at e0
            replace cc := hd cc
            clear huc hu hcell c99
            go_wp2_with (go_at_call 99; go_loud (refine (cc _ (pY.alloc _) (bY.trans ((Below.refl _ _).alloc (Nat.le_of_lt (Nat.lt_of_le_of_lt hlb pY.lt)) _))).mono ?_))
            rintro e w6 ⟨rfl, p6, f6⟩
            go_wp2
            go_roundw
            case rel =>
              refine ⟨k + 1, by omega, by go_num, ?_, fY.trans ((FrP.alloc _ _ (Nat.le_of_lt pY.lt) _).trans f6)⟩
              rw [List.take_add_one, hs']
              simpa using p6
            case measure => simp [intOf]; omega
          · have hk' : k = c.states.length := by omega
            subst hk'
            rw [List.take_length] at pY
            obtain ⟨kc, kf⟩ := pY.cells
            have tt := pY.tabs (0 : Nat)
            have hJ : joins [⟨#[125]⟩] = [125] := rfl
            have lF := line_new (wr.setCell ⟨b, 2, none⟩ (vi (0 : Nat))) b (L2 ++ c.states.flatMap fun s => s.tx 1) 0 [⟨#[125]⟩] tt.1 (by omega) (by simp) (by rw [hJ, List.length_append]; simp only [List.length_cons, List.length_nil]; omega) _ rfl _ 0 rfl wr.heap.size (by simp)
            rw [hJ] at lF
            have eL : L2 ++ (c.states.flatMap fun s => s.tx 1) ++ ln 0 [125] = c.tx := by
              have hL1 : L1 = ln 0 c.head := hL1
              rw [hL2, hL1, Ch.tx]; simp only [List.append_assoc]
            rw [eL] at lF
            clear hm' c99 k5
            go_wp2_with (go_at_call 96; go_loud (refine lF.mono ?_))
            rintro e w6 ⟨rfl, p6, f6⟩
            have f06 := (fY.trans tt.2).trans f6
            have sF := builderString w6 b c.tx _ p6 (by rw [← eL]; simp [ln])
            clear lF kc kf tt
            go_wp2_with (go_at_call 100; go_loud (refine sF.mono ?_))
            rintro e w7 ⟨rfl, f7⟩
            have b7 := bel w7 (f06.trans f7)
            have wF := words101 (bs c.tx) w7 (glo w7 b7)
            unfold prC at hpr
            rw [if_pos (show c.fm = true from hf)] at hpr
            generalize (wordsOf (bs c.tx)).2.2 = ec at wF hpr
            generalize ((wordsOf (bs c.tx)).2.1.1 : Int) = z1 at wF
            generalize ((wordsOf (bs c.tx)).2.1.2 : Int) = z2 at wF
            clear sF
            go_wp2_with (go_at_call 101; go_loud (refine wF.mono ?_))
            rintro e w8 ⟨⟨A8, n8, m8, rfl⟩, b8⟩
            have b08 : Below w.heap.size w w8 := b7.trans (b8.mono b7.size)
            clear wF
            by_cases hec : ec = 0
            · rw [if_pos hec] at hpr
              subst hec hpr
              go_wp2
              go_ret2
              exact ⟨rfl, b08.alloc b08.size _⟩
            · rw [if_neg hec] at hpr
              subst hpr
              go_wp2
              go_ret2
              exact ⟨rfl, b08.alloc b08.size _⟩
  · have hp : prC c = (bs [], 1) := by unfold prC; rw [if_neg (by rw [hf]; decide)]
    rw [hp] at hpr
    rw [hf]
    go_wp2
    go_ret2
    subst hpr
    exact ⟨rfl, b01⟩
theorem r35 (c : Ch) (hs : c.sz) (hl : Light c) : Rn 35 [c.v.t] (.tup [st (prC c).1, i64 (prC c).2], [.dead]) := by
  refine ⟨⟨_, Tryz.func35, by decide, by kernel_rfl⟩, fun w ok vals b hx hnd hb hok hG => ?_⟩
  obtain ⟨u, us, b1, b2, rfl, rfl, hu, rfl, rfl⟩ := hx
  obtain ⟨hv, rfl⟩ := ch_rep hu
  refine (calls35 c hs hl w (hG.mono fun k hk => ⟨hok k hk, rfl⟩) _ (hv.mono ⟨fun k hk => ⟨hok k hk, rfl⟩, fun _ _ h => h.elim, fun _ _ _ h => h.elim, fun _ _ _ _ _ h => h.elim, fun _ _ h => h.elim⟩)).mono ?_
  rintro ex w' ⟨rfl, hbel⟩
  exact ⟨_, [], [], rfl, .nil, by simp, ⟨hbel.os, hbel.tape, hbel.output, hbel.size, fun k hk _ => hbel.block k hk⟩, X_pair (X_s rfl) (X_s rfl), ⟨_, _, [], [], rfl, rfl, rfl, rfl, rfl⟩⟩
end Go.Proofs.YtfknpnkdedckhaaGreatDoorT
