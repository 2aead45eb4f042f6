/- The interpreter over trees: structs and slices that are built; append. -/
import Derived.Test.YthcaodlfnlhfbaaDoorT8
import Derived.Great.BuildSlice
namespace Go.Proofs.YthcaodlfnlhfbaaDoorT
open Go Go.RowKit
set_option linter.unusedVariables false

theorem fold_get (off : Nat) : ∀ (vs : List Value) (k : Nat) (cells : Array Value) (i : Nat), off + k + vs.length ≤ cells.size →
    ((vs.zipIdx k).foldl (fun cs (x : Value × Nat) => cs.setIfInBounds (off + x.2) x.1) cells)[i]? = (if off + k ≤ i ∧ i < off + k + vs.length then vs[i - (off + k)]? else cells[i]?)
  | [], k, cells, i, _ => by
    rw [if_neg (by simp)]
    rfl
  | v :: vs, k, cells, i, h => by
    simp only [List.zipIdx_cons, List.foldl_cons]
    simp only [List.length_cons] at h ⊢
    rw [fold_get off vs (k + 1) _ i (by simp; omega)]
    by_cases h1 : off + (k + 1) ≤ i ∧ i < off + (k + 1) + vs.length
    · rw [if_pos h1, if_pos (by omega)]
      rw [show i - (off + k) = (i - (off + (k + 1))) + 1 by omega, List.getElem?_cons_succ]
    · rw [if_neg h1]
      by_cases h2 : i = off + k
      · subst h2
        rw [if_pos (by omega)]
        simp only [Nat.sub_self, List.getElem?_cons_zero]
        rw [Array.getElem?_setIfInBounds_self_of_lt (by omega)]
      · rw [if_neg (by omega), Array.getElem?_setIfInBounds_ne (by omega)]
theorem fold_size (off : Nat) : ∀ (vs : List Value) (k : Nat) (cells : Array Value), ((vs.zipIdx k).foldl (fun cs (x : Value × Nat) => cs.setIfInBounds (off + x.2) x.1) cells).size = cells.size
  | [], k, cells => rfl
  | v :: vs, k, cells => by
    simp only [List.zipIdx_cons, List.foldl_cons]
    rw [fold_size off vs (k + 1)]
    simp
theorem fold_arr (off : Nat) (vs cells : Array Value) : vs.zipIdx.foldl (fun cs (x : Value × Nat) => cs.setIfInBounds (off + x.2) x.1) cells = (vs.toList.zipIdx 0).foldl (fun cs (x : Value × Nat) => cs.setIfInBounds (off + x.2) x.1) cells := by
  rw [← Array.foldl_toList, Array.toList_zipIdx]
theorem fold_splice (off : Nat) (vs : Array Value) (us : List Value) (h : off + vs.size ≤ us.length) : vs.zipIdx.foldl (fun cs (x : Value × Nat) => cs.setIfInBounds (off + x.2) x.1) us.toArray = (us.take off ++ vs.toList ++ us.drop (off + vs.toList.length)).toArray := by
  rw [fold_arr]
  apply Array.ext_getElem?
  intro i
  rw [fold_get off vs.toList 0 us.toArray i (by simp; omega)]
  simp only [Nat.add_zero, List.getElem?_toArray]
  rw [splice_get _ _ _ _ (by simp; omega)]
  by_cases h1 : i < off
  · rw [if_neg (by omega), if_pos h1]
  · rw [if_neg h1]
    by_cases h2 : i < off + vs.toList.length
    · rw [if_pos (by omega), if_pos h2]
    · rw [if_neg (by omega), if_neg h2]

section
variable {P : Program} {C : Ctx}
/-- Values laid beside parts. -/
def PartsA (C : Ctx) (ps : List (Nat × T)) (vs : List (Nat × Value)) : Prop := ps.map (·.1) = vs.map (·.1) ∧ RepA C (ps.map (·.2)) (vs.map (·.2))
theorem PartsA.cons_inv {ps : List (Nat × T)} {i : Nat} {x : T} {vs : List (Nat × Value)} (h : PartsA C ((i, x) :: ps) vs) : ∃ u r, vs = (i, u) :: r ∧ Rep C x u ∧ PartsA C ps r := by
  match vs, h with
  | [], h => exact absurd h.1 (by simp)
  | (j, u) :: r, h =>
    obtain ⟨h1, h2⟩ := h
    simp only [List.map_cons, List.cons.injEq] at h1
    obtain ⟨rfl, h1⟩ := h1
    exact ⟨u, r, rfl, h2.head, h1, h2.tail⟩
theorem places_get : ∀ (fs : List Field) (places : List (Nat × Nat)), fs.mapM (fun f => (P.info? f.type).map fun i => (f.offset, i.size)) = some places → ∀ (i : Nat) (f : Field) (n : Nat), fs[i]? = some f → szOf P f.type = some n → places[i]? = some (f.offset, n)
  | [], places, h, i, f, n, hf, hn => by simp at hf
  | g :: fs, places, h, i, f, n, hf, hn => by
    simp only [List.mapM_cons, Option.bind_eq_bind, Option.pure_def] at h
    cases hi : P.info? g.type with
    | none => simp [hi] at h
    | some ti =>
      cases hr : fs.mapM (fun f => (P.info? f.type).map fun i => (f.offset, i.size)) with
      | none => simp [hi, hr] at h
      | some rest =>
        simp [hi, hr] at h
        subst h
        cases i with
        | zero => simp at hf; subst hf; simp [szOf, hi] at hn; simp [hn]
        | succ i => simp at hf ⊢; exact places_get fs rest hr i f n hf hn
theorem places_some : ∀ (fs : List Field), (fs.all fun f => (P.info? f.type).isSome) = true → ∃ places, fs.mapM (fun f => (P.info? f.type).map fun i => (f.offset, i.size)) = some places
  | [], _ => ⟨[], by simp⟩
  | g :: fs, h => by
    simp only [List.all_cons, Bool.and_eq_true] at h
    obtain ⟨places, hp⟩ := places_some fs h.2
    obtain ⟨i, hi⟩ := Option.isSome_iff_exists.1 h.1
    exact ⟨(g.offset, i.size) :: places, by simp [hi, hp]⟩
theorem fill_ok (hg : C.Good) {t : TypeId} {fs : Array Field} {places : List (Nat × Nat)} (hu : P.underlying t = some (.struct fs)) (hp : fs.toList.mapM (fun f => (P.info? f.type).map fun i => (f.offset, i.size)) = some places) :
    ∀ (ps : List (Nat × T)) (vs : List (Nat × Value)) (cs cs' : List T) (us : List Value), fillT P t ps cs = some cs' → PartsA C ps vs → RepA C cs us → (∀ u ∈ us, one u) →
      ∃ us', Instr.fill (places.toArray[·]?) us.toArray vs = some us'.toArray ∧ RepA C cs' us' ∧ ∀ u ∈ us', one u
  | [], vs, cs, cs', us, h, hpa, hr, h1 => by
    simp [fillT] at h
    subst h
    have : vs = [] := by have := hpa.1; simpa using this.symm
    subst this
    exact ⟨us, rfl, hr, h1⟩
  | (i, x) :: ps, vs, cs, cs', us, h, hpa, hr, h1 => by
    obtain ⟨u, r, rfl, hx, hpa'⟩ := hpa.cons_inv
    simp only [fillT] at h
    split at h
    · rename_i o n ft hf
      split at h
      · rename_i hc
        simp only [Bool.and_eq_true, decide_eq_true_eq] at hc
        obtain ⟨⟨hk, hn⟩, ho⟩ := hc
        obtain ⟨fs', f, hu', hfi, rfl, rfl, hs, hn0⟩ := fieldOf_parts hf
        rw [hu] at hu'
        injection hu' with hu'; injection hu' with hu'
        subst hu'
        obtain ⟨hra, h1a⟩ := hx.cells hg hk
        have hsz : u.cells.size = n := by rw [← hn, hra.1]; simp
        have hpl : places[i]? = some (f.offset, n) := places_get _ _ hp i f n (by simpa using hfi) hs
        have hl : f.offset + u.cells.size ≤ us.length := by rw [← hr.1, hsz]; exact ho
        have hone : ∀ v ∈ us.take f.offset ++ u.cells.toList ++ us.drop (f.offset + u.cells.toList.length), one v := by
          intro v hv
          rcases List.mem_append.1 hv with hv | hv
          · rcases List.mem_append.1 hv with hv | hv
            · exact h1 v (List.mem_of_mem_take hv)
            · exact h1a v hv
          · exact h1 v (List.mem_of_mem_drop hv)
        obtain ⟨us', hfill, hr', h1'⟩ := fill_ok hg hu hp ps r _ cs' _ h hpa' (repA_splice hr hra f.offset) hone
        refine ⟨us', ?_, hr', h1'⟩
        simp only [Instr.fill, List.getElem?_toArray, hpl, hsz]
        rw [if_neg (by simp; omega), fold_splice f.offset u.cells us hl]
        simpa using hfill
      · simp at h
    · simp at h
/-- build -/
theorem build_ok (hg : C.Good) {t : TypeId} {ps : List (Nat × T)} {vs : Array (Nat × Value)} {z cs : List T} (hpl : placesOk P t = true) (hz : zeroOf P t = some z) (hf : fillT P t ps z = some cs) (hpa : PartsA C ps vs.toList) (w : World) :
    ∃ v, (Instr.build t vs).run P w = .ok v w ∧ Rep C (.agg cs) v := by
  unfold placesOk at hpl
  split at hpl
  · rename_i fs hu
    obtain ⟨places, hp⟩ := places_some _ hpl
    have hz' := hz
    unfold zeroOf at hz'
    cases hi : P.info? t with
    | none => rw [hi] at hz'; simp at hz'
    | some it =>
      rw [hi] at hz'
      simp only at hz'
      cases hzz : it.zero with
      | none => rw [hzz] at hz'; simp at hz'
      | some zv =>
        rw [hzz] at hz'
        simp only at hz'
        split at hz'
        · rename_i hc
          injection hz' with hz'; subst hz'
          simp only [Bool.and_eq_true, List.all_eq_true] at hc
          have hpls := hc.1.1
          obtain ⟨us', hfill, hr', h1'⟩ := fill_ok hg hu hp ps vs.toList _ cs _ hf hpa (rep_plains hpls) (fun u hu => plain_one (hpls u hu))
          refine ⟨.agg us'.toArray, ?_, .agg hr'.1 hr'.2 h1'⟩
          apply run_build
          simp only [Program.built, hi, hu, hzz, hp]
          simpa using hfill
        · simp at hz'
  · simp at hpl
end
end Go.Proofs.YthcaodlfnlhfbaaDoorT
