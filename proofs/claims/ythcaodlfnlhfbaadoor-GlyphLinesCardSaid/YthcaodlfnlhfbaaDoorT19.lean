/- The interpreter over trees: what a law is handed, opened as trees by its types. -/
import Derived.Test.YthcaodlfnlhfbaaDoorT18
import Derived.OpenShut
import Derived.ChangeArms
namespace Go.Proofs.YthcaodlfnlhfbaaDoorT
open Go Go.RowKit
set_option linter.unusedVariables false

section
variable (P : Program)
/-- A value of a type out of its cells' trees. -/
def valT (e : TypeId) (ts : List T) : T := if aggOf P e = some true then .agg ts else ts.headD .dead
/-- Trees of a type's cells: whole numbers, bools, strings, structs and slices of these. -/
def Ty : Nat → TypeId → List T → Prop
  | 0, _, _ => False
  | n + 1, t, ts => match P.underlying t with
    | some .bool => ∃ b, ts = [.s (.bool b)]
    | some (.int k) => ∃ i, ts = [.s (.int k i)] ∧ (Lit.int k i).wf = true
    | some .string => ∃ b : ByteArray, ts = [.s (.string b)] ∧ b.size ≤ maxLen
    | some (.slice e) => ∃ ys : List (List T), ts = [.sl (P.cellsOf e) (ys.map (valT P e))] ∧ ys.length ≤ maxLen ∧ ∀ y ∈ ys, y.length = P.cellsOf e ∧ Ty n e y
    | some (.struct fs) => ∃ yss : List (List T), ts = yss.flatten ∧ yss.length = fs.size ∧ ∀ (i : Nat) (f : Field) (y : List T), fs[i]? = some f → yss[i]? = some y → y.length = P.cellsOf f.type ∧ Ty n f.type y
    | some (.array m e) => ∃ yss : List (List T), ts = yss.flatten ∧ yss.length = m ∧ ∀ y ∈ yss, y.length = P.cellsOf e ∧ Ty n e y
    | _ => False
def tiles : Nat → List Field → Option Nat
  | o, [] => some o
  | o, f :: r => if f.offset = o then tiles (o + P.cellsOf f.type) r else none
/-- Types that are closed under their parts. -/
def tyOk (L : List TypeId) : Bool := L.all fun t => match P.underlying t with
  | some .bool | some (.int _) | some .string => true
  | some (.slice e) => L.contains e && decide (0 < P.cellsOf e) && (decide (aggOf P e = some true) || (decide (aggOf P e = some false) && decide (P.cellsOf e = 1)))
  | some (.struct fs) => fs.toList.all (fun f => L.contains f.type) && decide (tiles P 0 fs.toList = some (P.cellsOf t))
  | some (.array m e) => L.contains e && decide (P.cellsOf t = m * P.cellsOf e)
  | _ => false
end
theorem choose_list {α : Type} {R : Nat → α → Prop} : ∀ m, (∀ i, i < m → ∃ p, R i p) → ∃ l : List α, l.length = m ∧ ∀ i p, l[i]? = some p → R i p
  | 0, _ => ⟨[], rfl, fun i p h => by simp at h⟩
  | m + 1, h => by
    obtain ⟨l, hl, hr⟩ := choose_list m (fun i hi => h i (by omega))
    obtain ⟨p, hp⟩ := h m (by omega)
    refine ⟨l ++ [p], by simp [hl], fun i q hq => ?_⟩
    rw [List.getElem?_append] at hq
    split at hq
    · exact hr i q hq
    · rename_i hi
      rw [hl] at hq hi
      by_cases he : i = m
      · subst he
        simp at hq
        rw [← hq]; exact hp
      · rw [List.getElem?_eq_none (by simp; omega)] at hq
        simp at hq
section
variable {P : Program} {L : List TypeId}
theorem one_cells {c : Value} (h : one c) : c.cells = #[c] := by
  unfold one at h
  cases c <;> first | rfl | simp [Value.oneCell'] at h
theorem cells_get {w : World} {base : Nat} {a : Addr} {n : Nat} {es : List Value} (h : w.cells? base a n = some es) : es.length = n ∧ ∀ i c, es[i]? = some c → w.cell? (a.add i) = some c := by
  unfold World.cells? at h
  split at h
  · refine ⟨by simpa using mapM_some_length h, fun i c hc => ?_⟩
    have hl : es.length = n := by simpa using mapM_some_length h
    have hi : i < n := by rw [← hl]; exact (List.getElem?_eq_some_iff.1 hc).1
    have := mapM_some_get h i i (by simp [hi])
    rw [this, hc]
  · simp at h
theorem cell_spot {w : World} {a : Addr} {v : Value} (h : w.cell? a = some v) : a.spot = none ∧ a.block < w.heap.size := by
  unfold World.cell? at h
  split at h
  · rename_i c _ _ hb
    split at h
    · simp at h
    · rename_i hs
      exact ⟨by cases hsp : a.spot with | none => rfl | some s => rw [hsp] at hs; simp at hs, (Array.getElem?_eq_some_iff.1 hb).1⟩
  · simp at h
theorem flat_rep {C : Ctx} {cs : List Value} : ∀ (fl : List Field) (o tot : Nat) (yss : List (List T)), tiles P o fl = some tot → tot = cs.length → yss.length = fl.length →
    (∀ (i : Nat) (f : Field) (y : List T), fl[i]? = some f → yss[i]? = some y → RepA C y ((cs.drop f.offset).take (P.cellsOf f.type))) → RepA C yss.flatten (cs.drop o)
  | [], o, tot, yss, ht, htot, hl, h => by
    simp [tiles] at ht
    have : yss = [] := List.eq_nil_of_length_eq_zero (by simpa using hl)
    subst this
    rw [List.drop_eq_nil_of_le (by omega)]
    exact RepA.nil C
  | f :: fl, o, tot, yss, ht, htot, hl, h => by
    match yss, hl with
    | y :: yss, hl =>
      simp only [tiles] at ht
      split at ht
      · rename_i ho
        have h1 := h 0 f y rfl rfl
        have h2 := flat_rep fl (o + P.cellsOf f.type) tot yss ht htot (by simpa using hl) (fun i g z hg hz => h (i + 1) g z (by simpa using hg) (by simpa using hz))
        rw [ho] at h1
        have := h1.append h2
        rw [List.flatten_cons]
        have e : cs.drop o = (cs.drop o).take (P.cellsOf f.type) ++ cs.drop (o + P.cellsOf f.type) := by
          rw [← List.drop_drop, List.take_append_drop]
        rw [e]
        exact this
      · simp at ht
    | [], hl => simp at hl
theorem tiles_le : ∀ (fl : List Field) (o tot : Nat), tiles P o fl = some tot → o ≤ tot ∧ ∀ f ∈ fl, f.offset + P.cellsOf f.type ≤ tot
  | [], o, tot, h => by simp [tiles] at h; subst h; exact ⟨Nat.le_refl _, by simp⟩
  | f :: fl, o, tot, h => by
    simp only [tiles] at h
    split at h
    · rename_i ho
      obtain ⟨h1, h2⟩ := tiles_le fl _ tot h
      refine ⟨by omega, fun g hg => ?_⟩
      rcases List.mem_cons.1 hg with rfl | hg
      · omega
      · exact h2 g hg
    · simp at h
theorem flat_arr {C : Ctx} {cs : List Value} {sz : Nat} : ∀ (m o : Nat) (yss : List (List T)), cs.length = (o + m) * sz → yss.length = m →
    (∀ (i : Nat) (y : List T), yss[i]? = some y → RepA C y ((cs.drop ((o + i) * sz)).take sz)) → RepA C yss.flatten (cs.drop (o * sz))
  | 0, o, yss, hc, hl, h => by
    have : yss = [] := List.eq_nil_of_length_eq_zero hl
    subst this
    rw [List.drop_eq_nil_of_le (by rw [hc]; simp)]
    exact RepA.nil C
  | m + 1, o, yss, hc, hl, h => by
    match yss, hl with
    | y :: yss, hl =>
      have h1 := h 0 y rfl
      have h2 := flat_arr m (o + 1) yss (by rw [hc]; congr 1; omega) (by simpa using hl) (fun i z hz => by
        have := h (i + 1) z (by simpa using hz)
        rwa [show o + (i + 1) = o + 1 + i by omega] at this)
      rw [Nat.add_zero] at h1
      rw [List.flatten_cons]
      have e : cs.drop (o * sz) = (cs.drop (o * sz)).take sz ++ cs.drop ((o + 1) * sz) := by
        rw [Nat.add_mul, Nat.one_mul, ← List.drop_drop, List.take_append_drop]
      rw [e]
      exact h1.append h2
    | [], hl => simp at hl
/-- What is trod on is a tree of its type. -/
theorem open_trod (hL : tyOk P L = true) {H : Type} {enc : TypeId × Value → H} {w : World} {base : Nat} {spare : Nat → Bool} {held : Bool} :
    ∀ (n : Nat) (t : TypeId) (cs : List Value) (x : DataW H × List MemPlace), L.contains t = true → DataW.trod enc P w base spare held n t cs = some x → ∃ ts, Ty P n t ts ∧ RepA (cctx w (fun k => k < w.heap.size)) ts cs ∧ (∀ c ∈ cs, one c)
  | 0, t, cs, x, ht, h => by simp [DataW.trod] at h
  | n + 1, t, cs, x, ht, h => by
    have hl := List.all_eq_true.1 hL t (by simpa using ht)
    have single : ∀ {v : Value} {y : T}, Rep (cctx w (fun k => k < w.heap.size)) y v → one v → RepA (cctx w (fun k => k < w.heap.size)) [y] [v] ∧ ∀ c ∈ [v], one c := fun h1 h2 => ⟨RepA.one h1, fun c hc => by rw [List.mem_singleton.1 hc]; exact h2⟩
    cases hu : P.underlying t with
    | none => rw [hu] at hl; simp at hl
    | some d =>
      rw [hu] at hl
      cases d with
      | bool =>
        obtain ⟨b, rfl, _⟩ := DataW.trod_bool hu h
        exact ⟨[.s (.bool b)], by simp only [Ty, hu]; exact ⟨b, rfl⟩, single (.s rfl) rfl⟩
      | int k =>
        obtain ⟨i, rfl, _, hw⟩ := DataW.trod_int hu h
        exact ⟨[.s (.int k i)], by simp only [Ty, hu]; exact ⟨i, rfl, hw⟩, single (.s rfl) rfl⟩
      | string =>
        obtain ⟨b, rfl, _, hw⟩ := DataW.trod_string hu h
        exact ⟨[.s (.string b)], by simp only [Ty, hu]; exact ⟨b, rfl, hw⟩, single (.s rfl) rfl⟩
      | slice e =>
        simp only [Bool.and_eq_true, Bool.or_eq_true, decide_eq_true_eq] at hl
        obtain ⟨⟨hel, h0⟩, hag⟩ := hl
        rcases DataW.trod_slice hu h with ⟨rfl, _⟩ | ⟨a, len, cap, elems, rest, m, hm, rfl, _, hb, hlc, hcm, hel', hget, _, _⟩
        · exact ⟨[.sl (P.cellsOf e) []], by simp only [Ty, hu]; exact ⟨[], rfl, Nat.zero_le _, by simp⟩, single (Rep.sl_mk (Nat.le_refl _) (.inl rfl)) rfl⟩
        · have hm : m = n := by omega
          subst hm
          have hch : ∀ i, i < len → ∃ p : List T × List Value, Ty P m e p.1 ∧ RepA (cctx w (fun k => k < w.heap.size)) p.1 p.2 ∧ (∀ c ∈ p.2, one c) ∧ p.2.length = P.cellsOf e ∧ ∀ k c, p.2[k]? = some c → w.cell? ((a.add (i * P.cellsOf e)).add k) = some c := by
            intro i hi
            have hg := hget i hi
            have hi' : i < elems.length := by omega
            rw [List.getElem?_eq_getElem hi'] at hg
            obtain ⟨es, h1, h2⟩ := Option.bind_eq_some_iff.1 hg
            obtain ⟨h3, h4⟩ := cells_get h1
            obtain ⟨ts, g1, g2, g3⟩ := open_trod hL m e es _ hel h2
            exact ⟨(ts, es), g1, g2, g3, h3, h4⟩
          obtain ⟨ps, hps, hpr⟩ := choose_list len hch
          have hval : ∀ p : List T × List Value, RepA (cctx w (fun k => k < w.heap.size)) p.1 p.2 → (∀ c ∈ p.2, one c) → p.2.length = P.cellsOf e → ∃ u, Rep (cctx w (fun k => k < w.heap.size)) (valT P e p.1) u ∧ u.cells = p.2.toArray := by
            intro p g2 g3 g4
            unfold valT
            rcases hag with hag | ⟨hag, hsz⟩
            · rw [if_pos hag]
              exact ⟨.agg p.2.toArray, .agg g2.1 g2.2 g3, rfl⟩
            · rw [if_neg (by rw [hag]; simp)]
              obtain ⟨ts, es⟩ := p
              simp only at g2 g3 g4 ⊢
              match ts, es, g2, g4 with
              | [y], [c], g2, _ => exact ⟨c, g2.head, one_cells (g3 c (by simp))⟩
              | _, [], _, g4 => simp [hsz] at g4
              | [], [c], g2, _ => exact absurd g2.1 (by simp)
              | _ :: _ :: _, [c], g2, _ => exact absurd g2.1 (by simp)
              | _, _ :: _ :: _, _, g4 => simp [hsz] at g4
          have hus : ∀ i, i < len → ∃ u : Value, ∀ p, ps[i]? = some p → Rep (cctx w (fun k => k < w.heap.size)) (valT P e p.1) u ∧ u.cells = p.2.toArray := by
            intro i hi
            have hpi : ps[i]? = some ps[i] := List.getElem?_eq_getElem (by omega)
            obtain ⟨g1, g2, g3, g4, g5⟩ := hpr i _ hpi
            obtain ⟨u, k1, k2⟩ := hval _ g2 g3 g4
            exact ⟨u, fun p hp => by rw [hpi] at hp; injection hp with hp; subst hp; exact ⟨k1, k2⟩⟩
          obtain ⟨us, hul, hur⟩ := choose_list len hus
          refine ⟨[.sl (P.cellsOf e) ((ps.map (·.1)).map (valT P e))], ?_, ?_⟩
          · simp only [Ty, hu]
            refine ⟨ps.map (·.1), rfl, by simp; omega, fun y hy => ?_⟩
            obtain ⟨p, hp, rfl⟩ := List.mem_map.1 hy
            obtain ⟨i, hi⟩ := List.getElem?_of_mem hp
            obtain ⟨g1, g2, g3, g4, g5⟩ := hpr i p hi
            exact ⟨by rw [g2.1, g4], g1⟩
          · refine single ?_ rfl
            have hxl : ((ps.map (·.1)).map (valT P e)).length = len := by simp [hps]
            have hmain := Rep.sl (C := cctx w (fun k => k < w.heap.size)) (sz := P.cellsOf e) (xs := (ps.map (·.1)).map (valT P e)) (us := us) (A := some a) (c := cap) (by rw [hxl, hul]) (by rw [hxl]; exact hlc) (fun j y u hy hu' => by
                rw [List.getElem?_map, List.getElem?_map] at hy
                cases hp : ps[j]? with
                | none => rw [hp] at hy; simp at hy
                | some p =>
                  rw [hp] at hy
                  simp only [Option.map_some, Option.some.injEq] at hy
                  subst hy
                  exact (hur j u hu' p hp).1) (fun u hu' => by
                obtain ⟨j, hj⟩ := List.getElem?_of_mem hu'
                have hjl : j < len := by rw [← hul]; exact (List.getElem?_eq_some_iff.1 hj).1
                have hpj : ps[j]? = some ps[j] := List.getElem?_eq_getElem (by omega)
                rw [(hur j u hj _ hpj).2, List.size_toArray]
                exact (hpr j _ hpj).2.2.2.1) ?_
            · rw [hxl] at hmain; exact hmain
            · by_cases hlen : len = 0
              · left
                have : ps = [] := List.eq_nil_of_length_eq_zero (by omega)
                rw [this]; rfl
              · right
                have hp0 : ps[0]? = some ps[0] := List.getElem?_eq_getElem (by omega)
                obtain ⟨g1, g2, g3, g4, g5⟩ := hpr 0 _ hp0
                have hc0 := g5 0 _ (List.getElem?_eq_getElem (by omega))
                have hadd0 : (a.add (0 * P.cellsOf e)).add 0 = a := by simp [Addr.add]
                rw [hadd0] at hc0
                obtain ⟨hsp, hblk⟩ := cell_spot hc0
                refine ⟨a, rfl, hsp, hblk, fun j i u cv hu' hc => ?_⟩
                have hjl : j < len := by rw [← hul]; exact (List.getElem?_eq_some_iff.1 hu').1
                have hpj : ps[j]? = some ps[j] := List.getElem?_eq_getElem (by omega)
                rw [(hur j u hu' _ hpj).2, List.getElem?_toArray] at hc
                have := (hpr j _ hpj).2.2.2.2 i cv hc
                rw [add_at hsp, add_at rfl] at this
                rw [← Nat.add_assoc]
                exact this
      | struct fs =>
        simp only [Bool.and_eq_true, decide_eq_true_eq] at hl
        obtain ⟨hfl, htl⟩ := hl
        obtain ⟨xs, m, hm, _, hcl, hxl, hget⟩ := DataW.trod_struct hu h
        have hm : m = n := by omega
        subst hm
        obtain ⟨_, htle⟩ := tiles_le fs.toList 0 _ htl
        have hch : ∀ i, i < fs.size → ∃ y : List T, ∀ f, fs[i]? = some f → Ty P m f.type y ∧ RepA (cctx w (fun k => k < w.heap.size)) y ((cs.drop f.offset).take (P.cellsOf f.type)) ∧ ∀ c ∈ (cs.drop f.offset).take (P.cellsOf f.type), one c := by
          intro i hi
          have hfi : fs[i]? = some fs[i] := Array.getElem?_eq_getElem hi
          have hg := hget i _ hfi
          rw [List.getElem?_eq_getElem (by omega)] at hg
          have hmem : L.contains fs[i].type = true := List.all_eq_true.1 hfl _ (by simp)
          obtain ⟨ts, g1, g2, g3⟩ := open_trod hL m _ _ _ hmem hg
          exact ⟨ts, fun f hf => by rw [hfi] at hf; injection hf with hf; subst hf; exact ⟨g1, g2, g3⟩⟩
        obtain ⟨yss, hyl, hyr⟩ := choose_list fs.size hch
        have hrep := flat_rep (P := P) (C := cctx w (fun k => k < w.heap.size)) (cs := cs) fs.toList 0 _ yss htl hcl.symm (by simpa using hyl) (fun i f y hf hy => (hyr i y hy f (by simpa using hf)).2.1)
        refine ⟨yss.flatten, ?_, by simpa using hrep, ?_⟩
        · simp only [Ty, hu]
          refine ⟨yss, rfl, hyl, fun i f y hf hy => ?_⟩
          obtain ⟨g1, g2, g3⟩ := hyr i y hy f hf
          have := htle f (by simpa using List.mem_of_getElem? (show fs.toList[i]? = some f by simpa using hf))
          refine ⟨?_, g1⟩
          rw [g2.1, List.length_take, List.length_drop]
          omega
        · -- every cell lies in some field
          have : ∀ (fl : List Field) (o : Nat), tiles P o fl = some (P.cellsOf t) → (∀ f ∈ fl, ∀ c ∈ (cs.drop f.offset).take (P.cellsOf f.type), one c) → ∀ c ∈ cs.drop o, one c := by
            intro fl
            induction fl with
            | nil =>
              intro o ho _ c hc
              simp [tiles] at ho
              rw [List.drop_eq_nil_of_le (by omega)] at hc
              simp at hc
            | cons f fl ih =>
              intro o ho hf c hc
              simp only [tiles] at ho
              split at ho
              · rename_i hof
                have e : cs.drop o = (cs.drop o).take (P.cellsOf f.type) ++ cs.drop (o + P.cellsOf f.type) := by
                  rw [← List.drop_drop, List.take_append_drop]
                rw [e] at hc
                rcases List.mem_append.1 hc with hc | hc
                · exact hf f (List.mem_cons_self ..) c (by rw [hof]; exact hc)
                · exact ih _ ho (fun g hg => hf g (List.mem_cons_of_mem _ hg)) c hc
              · simp at ho
          have hall := this fs.toList 0 htl (fun f hf c hc => by
            obtain ⟨i, hi⟩ := List.getElem?_of_mem hf
            have hi' : fs[i]? = some f := by simpa using hi
            have hil : i < fs.size := (Array.getElem?_eq_some_iff.1 hi').1
            have hyi : yss[i]? = some yss[i] := List.getElem?_eq_getElem (by omega)
            exact (hyr i _ hyi f hi').2.2 c hc)
          simpa using hall
      | array m e =>
        simp only [Bool.and_eq_true, decide_eq_true_eq] at hl
        obtain ⟨hel, hsz⟩ := hl
        obtain ⟨xs, q, hq, _, hcl, hxl, hget⟩ := DataW.trod_array hu h
        have hq : q = n := by omega
        subst hq
        have hch : ∀ i, i < m → ∃ y : List T, Ty P q e y ∧ RepA (cctx w (fun k => k < w.heap.size)) y ((cs.drop (i * P.cellsOf e)).take (P.cellsOf e)) ∧ ∀ c ∈ (cs.drop (i * P.cellsOf e)).take (P.cellsOf e), one c := by
          intro i hi
          have hg := hget i hi
          rw [List.getElem?_eq_getElem (by omega)] at hg
          exact open_trod hL q _ _ _ hel hg
        obtain ⟨yss, hyl, hyr⟩ := choose_list m hch
        have hrep := flat_arr (C := cctx w (fun k => k < w.heap.size)) (cs := cs) (sz := P.cellsOf e) m 0 yss (by rw [hcl, hsz, Nat.zero_add]) hyl (fun i y hy => by rw [Nat.zero_add]; exact (hyr i y hy).2.1)
        refine ⟨yss.flatten, ?_, by simpa using hrep, ?_⟩
        · simp only [Ty, hu]
          refine ⟨yss, rfl, hyl, fun y hy => ?_⟩
          obtain ⟨i, hi⟩ := List.getElem?_of_mem hy
          obtain ⟨g1, g2, g3⟩ := hyr i y hi
          have him : i < m := by rw [← hyl]; exact (List.getElem?_eq_some_iff.1 hi).1
          refine ⟨?_, g1⟩
          rw [g2.1, List.length_take, List.length_drop, hcl, hsz]
          have := Nat.mul_le_mul_right (P.cellsOf e) (show i + 1 ≤ m by omega)
          rw [Nat.add_mul] at this
          omega
        · intro c hc
          obtain ⟨k, hk⟩ := List.getElem?_of_mem hc
          have hkl : k < m * P.cellsOf e := by rw [← hsz, ← hcl]; exact (List.getElem?_eq_some_iff.1 hk).1
          have hpos : 0 < P.cellsOf e := by
            rcases Nat.eq_zero_or_pos (P.cellsOf e) with h0 | h0
            · rw [h0] at hkl; simp at hkl
            · exact h0
          have hdm : k / P.cellsOf e < m := (Nat.div_lt_iff_lt_mul hpos).2 hkl
          have hyi : yss[k / P.cellsOf e]? = some yss[k / P.cellsOf e] := List.getElem?_eq_getElem (by omega)
          refine (hyr _ _ hyi).2.2 c (List.mem_of_getElem? (i := k % P.cellsOf e) ?_)
          rw [List.getElem?_take, if_pos (Nat.mod_lt _ hpos), List.getElem?_drop, Nat.mul_comm, Nat.div_add_mod]
          exact hk
      | _ => simp at hl
end
end Go.Proofs.YthcaodlfnlhfbaaDoorT
