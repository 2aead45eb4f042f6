/- The interpreter over trees: slices that are built; interface values; the length; the least and the greatest. -/
import Derived.Test.YthcaodlfnlhfbaaDoorT10
namespace Go.Proofs.YthcaodlfnlhfbaaDoorT
open Go Go.RowKit
set_option linter.unusedVariables false

section
variable {P : Program} {B : Base} {w : World} {inj : Loc → Nat} {σ : Loc → Option O} {cnt : Nat → Nat}
theorem fillRow_ok {C : Ctx} (hg : C.Good) {sz : Nat} (h0 : 0 < sz) : ∀ (ps : List (Nat × T)) (vs : List (Nat × Value)) (xs xs' : List T) (us : List Value), setAll sz ps xs = some xs' → PartsA C ps vs → RowOf C sz xs (fun k => us.toArray[k]?) → us.length = xs.length * sz →
      ∃ us' : List Value, Instr.fill (fun i => some (i * sz, sz)) us.toArray vs = some us'.toArray ∧ RowOf C sz xs' (fun k => us'.toArray[k]?) ∧ us'.length = us.length ∧ xs'.length = xs.length
  | [], vs, xs, xs', us, h, hpa, hr, hl => by
    simp [setAll] at h
    subst h
    have : vs = [] := by have := hpa.1; simpa using this.symm
    subst this
    exact ⟨us, rfl, hr, rfl, rfl⟩
  | (i, x) :: ps, vs, xs, xs', us, h, hpa, hr, hl => by
    obtain ⟨u, r, rfl, hx, hpa'⟩ := hpa.cons_inv
    simp only [setAll] at h
    split at h
    · rename_i hc
      simp only [Bool.and_eq_true, decide_eq_true_eq] at hc
      obtain ⟨⟨hk, hn⟩, hi⟩ := hc
      obtain ⟨hra, h1a⟩ := hx.cells hg hk
      have hsz : u.cells.size = sz := by rw [← hn, hra.1]; simp
      have hb : i * sz + sz ≤ us.length := by
        rw [hl]
        have := Nat.mul_le_mul_right sz (show i + 1 ≤ xs.length by omega)
        rw [Nat.add_mul] at this
        omega
      have hget : ∀ k, (us.take (i * sz) ++ u.cells.toList ++ us.drop (i * sz + u.cells.toList.length)).toArray[k]? = if k < i * sz then us.toArray[k]? else if k < i * sz + sz then u.cells[k - i * sz]? else us.toArray[k]? := by
        intro k
        rw [List.getElem?_toArray, splice_get _ _ _ _ (by simp only [Array.length_toList]; omega)]
        simp only [Array.getElem?_toList, Array.length_toList, hsz, List.getElem?_toArray]
      have hrow := row_splice (cells' := (us.take (i * sz) ++ u.cells.toList ++ us.drop (i * sz + u.cells.toList.length)).toArray) hr hx hsz (i := i) (fun k hk' => by
        rw [hget]
        rw [Nat.add_mul] at hk'
        split
        · rfl
        · rw [if_neg (by omega)]) (fun k cv hcv => by
        have hk1 := (Array.getElem?_eq_some_iff.1 hcv).1
        rw [hget, if_neg (by omega), if_pos (by omega), Nat.add_sub_cancel_left]
        exact hcv)
      have hlen : (us.take (i * sz) ++ u.cells.toList ++ us.drop (i * sz + u.cells.toList.length)).length = us.length := by
        simp only [List.length_append, List.length_take, List.length_drop, Array.length_toList, hsz]
        omega
      obtain ⟨us', hfill, hr', hl', hx'⟩ := fillRow_ok hg h0 ps r _ xs' _ h hpa' hrow (by rw [hlen, hl]; simp)
      refine ⟨us', ?_, hr', by rw [hl', hlen], by rw [hx']; simp⟩
      simp only [Instr.fill, hsz]
      rw [if_neg (by simp; omega), fold_splice (i * sz) u.cells us (by omega)]
      exact hfill
    · simp at h
/-- Rows of zero values. -/
theorem zero_row {C : Ctx} {e : TypeId} {z : List T} {ze : T} {zv : Value} {sz : Nat} (len : Nat) (h0 : 0 < sz) (hze : Rep C ze zv) (hs : zv.cells.size = sz) :
    RowOf C sz (List.replicate len ze) (fun k => ((List.range (len * sz)).map (fun i => zv.cells[i % zv.cells.size]!)).toArray[k]?) := by
  refine ⟨List.replicate len zv, ⟨by simp, fun j x u hx hu => ?_⟩, fun u hu => ?_, fun j i u cv hu hc => ?_⟩
  · rw [List.getElem?_replicate] at hx hu
    split at hx
    · rename_i hj
      rw [if_pos hj] at hu
      injection hx with hx; injection hu with hu; subst hx; subst hu; exact hze
    · simp at hx
  · rw [List.eq_of_mem_replicate hu]; exact hs
  · rw [List.getElem?_replicate] at hu
    split at hu
    · rename_i hj
      injection hu with hu; subst hu
      have hi : i < sz := by rw [← hs]; exact (Array.getElem?_eq_some_iff.1 hc).1
      have hlt : j * sz + i < len * sz := by
        have := Nat.mul_le_mul_right sz (show j + 1 ≤ len by omega)
        rw [Nat.add_mul] at this
        omega
      simp only [List.getElem?_toArray, List.getElem?_map, List.getElem?_range hlt, Option.map_some, hs]
      rw [Nat.mul_comm, Nat.mul_add_mod, Nat.mod_eq_of_lt hi]
      have := (Array.getElem?_eq_some_iff.1 hc)
      obtain ⟨h1, h2⟩ := this
      rw [getElem!_pos zv.cells i h1, h2]
    · simp at hu
/-- Two lists of parts, zipped. -/
theorem parts_zip {C : Ctx} (ps : List (Nat × T)) (ys : List T) (vs : List (Nat × Value)) (hi : ps.map (·.1) = vs.map (·.1)) (hy : RepA C ys (vs.map (·.2))) : PartsA C ((ps.map (·.1)).zip ys) vs := by
  have hl : (ps.map (·.1)).length = ys.length := by rw [hi, hy.1]; simp
  exact ⟨by rw [List.map_fst_zip (by omega)]; exact hi, by rw [List.map_snd_zip (by omega)]; exact hy⟩
/-- buildSlice -/
theorem buildSlice_ok (h : SR B w inj σ cnt) (site : Nat) {t e : TypeId} {sz len : Nat} {z : List T} {ze : T} {ps : List (Nat × T)} {vs : Array (Nat × Value)} {ys xs : List T} {r : List Loc}
    (he : elemOf P t = some e) (hsz : szOf P e = some sz) (hz : zeroOf P e = some z) (hno : ¬ (sz = 0 ∨ len = 0 ∨ 16777216 < len * sz)) (hze : ofCells P e z = some ze)
    (hpa : PartsA (sctx B w inj σ cnt) ps vs.toList) (hf : frzL σ (ps.map (·.2)) = some (ys, r)) (hset : setAll sz ((ps.map (·.1)).zip (ys.map (canT P e))) (List.replicate len ze) = some xs) :
    ∃ v w', (Instr.buildSlice t len vs).run P w = .ok v w' ∧ Stp B w inj σ cnt ⟨.own (site, cnt site), killL r ++ [((site, cnt site), some (.arr e sz xs))], [site], r⟩ v w' := by
  have h0 : 0 < sz := by omega
  obtain ⟨zv, hzr, hzrep⟩ := zero_rep (C := (sctx B w inj (updL σ (killL r)) cnt).ro) hz hze w
  obtain ⟨zv', hzr', rfl, _, hzs, _⟩ := run_zero hz w
  rw [hzr] at hzr'
  injection hzr' with hzr' _
  subst hzr'
  rw [hsz] at hzs
  injection hzs with hzs
  have hzi : ∃ i, P.info? e = some i ∧ i.zero = some zv ∧ i.size = sz := by
    unfold szOf at hsz
    cases hi : P.info? e with
    | none => rw [hi] at hsz; simp at hsz
    | some i =>
      rw [hi] at hsz
      simp only [Option.map_some, Option.some.injEq] at hsz
      refine ⟨i, rfl, ?_, hsz⟩
      cases hz0 : i.zero with
      | none => simp [zeroValue, run_info hi, hz0] at hzr
      | some z' => simp [zeroValue, run_info hi, hz0] at hzr; rw [hzr]
  obtain ⟨i, hi, hz0, his⟩ := hzi
  have hkeys := frzL_keys _ ys r hf
  have hys : RepA (sctx B w inj (updL σ (killL r)) cnt).ro (ys.map (canT P e)) (vs.toList.map (·.2)) := canM_rep ((frzL_ok h _ ys r _ hf hpa.2).mono (fctx_kill h hkeys))
  have hK := h.kill r
  have hparts := parts_zip ps (ys.map (canT P e)) vs.toList hpa.1 hys
  obtain ⟨us', hfill, hrow, hl, hxl⟩ := fillRow_ok (Ctx.ro_good _) h0 _ vs.toList _ xs _ hset hparts (zero_row (e := e) (z := []) len h0 hzrep hzs.symm) (by simp)
  have hmax : (16777216 : Nat) ≤ maxLen := by decide
  have hlen : xs.length = len := by rw [hxl]; simp
  have hle : len ≤ 16777216 := Nat.le_trans (Nat.le_mul_of_pos_right len h0) (by omega)
  have hlsz : us'.length = len * sz := by rw [hl]; simp
  refine ⟨.slice (some ⟨w.heap.size, 0, none⟩) len len, w.alloc (.cells us'.toArray e), ?_, Stp.killed (rd := []) h (Stp.new hK site (.arr e sz xs) (.cells us'.toArray e) _ _ [] ?_ ?_)⟩
  · refine run_buildSlice w t e len vs us'.toArray i zv (elem_und he) hi hz0 (by rw [his]; omega) (by rw [his]; exact Nat.ne_of_gt (Nat.mul_pos (by omega) h0)) ?_
    rw [his]
    have e1 : (Array.range (len * sz)).map (fun x => zv.cells[x % zv.cells.size]!) = ((List.range (len * sz)).map (fun i => zv.cells[i % zv.cells.size]!)).toArray := by
      apply Array.ext'
      simp
    rw [e1]
    exact hfill
  · intro C le hb
    refine ⟨h0, us'.toArray, len, hb, by simpa using hlsz, by omega, by omega, hrow.mono le.roro (fun _ _ hh => hh)⟩
  · intro inj' σ' cnt' h1 h2 h3 h4
    refine .own ⟨h3, _, len, len, rfl, Nat.le_refl _, fun e1 sz1 xs1 hx1 => ?_⟩
    rw [h2] at hx1
    injection hx1 with hx1; injection hx1 with g1 g2 g3
    subst g1; subst g2; subst g3
    exact ⟨by omega, h1.symm, us'.toArray, by rw [h1]; exact h4, by simpa using hlsz⟩
/-- makeInterface -/
theorem makeIface_ok (h : SR B w inj σ cnt) {t : TypeId} {x y : T} {u : Value} {r : List Loc} (hx : Rep (sctx B w inj σ cnt) x u) (hni : ifaceT P t = some false) (h0t : t ≠ 0) (hf : frzC P t σ x = some (y, r)) :
    ∃ v, (Instr.makeInterface t u).run P w = .ok v w ∧ Stp B w inj σ cnt ⟨.ifc t y, killL r, [], r⟩ v w := by
  refine ⟨.iface t u, ?_, ?_⟩
  · unfold ifaceT at hni
    split at hni
    · simp at hni
    · rename_i d hnd hu
      simp only [Instr.makeInterface, Sem.run_bind, run_und hu, Result.andThen_ok]
      cases d <;> first | rfl | exact absurd hu (hnd _)
    · simp at hni
  · have hkeys := frzC_keys hf
    have hy : Rep (sctx B w inj (updL σ (killL r)) cnt).ro y u := (frzC_ok h hf hx).mono (fctx_kill h hkeys)
    have := Stp.killed (rd' := r) h (Stp.pure (h.kill r) (Rep.ifc (t := t) h0t hy) [])
    simpa using this
/-- extract -/
theorem extract_ok {C : Ctx} {cs : List T} {x : T} {u : Value} {i : Nat} (hx : Rep C (.tup cs) u) (hi : cs[i]? = some x) (w : World) : ∃ v, (Instr.extract u i).run P w = .ok v w ∧ Rep C x v := by
  obtain ⟨vs, rfl, hr⟩ := hx.tup_parts
  obtain ⟨v, hv, hrv⟩ := hr.get hi
  exact ⟨v, by simp [Instr.extract, hv], hrv⟩
theorem len_val {x : T} {u : Value} {n : Int} {r : List Loc} (hx : Rep (sctx B w inj σ cnt) x u) (h : lenT σ x = some (n, r)) (hns : ∀ b, x ≠ .s (.string b)) : ∃ A m c, u = .slice A m c ∧ n = (m : Int) := by
  unfold lenT at h
  split at h
  · exact absurd rfl (hns _)
  · injection h with h; injection h with h _; subst h
    obtain ⟨A, c, rfl, _⟩ := hx.sl_row
    exact ⟨A, _, c, rfl, rfl⟩
  · split at h
    · rename_i e sz xs hl
      injection h with h; injection h with h _; subst h
      cases hx
      rename_i hp
      obtain ⟨_, b, n, c, rfl, _, hb⟩ := hp
      exact ⟨_, _, c, rfl, by rw [(hb _ _ _ hl).1]⟩
    · simp at h
  · injection h with h; injection h with h _; subst h
    obtain rfl := rep_s hx
    exact ⟨none, 0, 0, rfl, rfl⟩
  · simp at h
/-- len -/
theorem len_ok (h0 : SR B w inj σ cnt) {tys : Option TypeId} {x : T} {d : Dl} {u : Value} (hx : Rep (sctx B w inj σ cnt) x u) (hd : evLen P σ tys x = some d) (ats : Array TypeId) (ht : ats[0]? = tys) (ty : TypeId) :
    ∃ v, (Builtin.len_ ats ty #[u]).run P w = .ok v w ∧ Stp B w inj σ cnt d v w := by
  unfold evLen at hd
  split at hd
  · rename_i t
    split at hd
    · rename_i hu
      split at hd
      · rename_i b
        unfold pv at hd
        injection hd with hd; subst hd
        obtain rfl := rep_s hx
        refine ⟨goInt b.size, ?_, Stp.pure h0 (rep_i .i64 _) _⟩
        simp [Builtin.len_, ht, run_und hu]
      · simp at hd
    · rename_i e hu
      split at hd
      · simp at hd
      · rename_i hns
        split at hd
        · rename_i n r hl
          injection hd with hd; subst hd
          obtain ⟨A, m, c, rfl, rfl⟩ := len_val hx hl hns
          refine ⟨goInt m, ?_, Stp.pure h0 (rep_i .i64 _) _⟩
          simp [Builtin.len_, ht, run_und hu]
        · simp at hd
    · rename_i n e hu
      unfold pv at hd
      injection hd with hd; subst hd
      refine ⟨goInt n, ?_, Stp.pure h0 (rep_i .i64 _) _⟩
      simp [Builtin.len_, ht, run_und hu]
    · simp at hd
  · simp at hd
/-- min, max -/
theorem minmax_ok {C : Ctx} {mx : Bool} {xs : List T} {us : List Value} {y : T} (hx : RepA C xs us) (hd : evMinMax mx xs = some y) (ats : Array TypeId) (ty : TypeId) (w : World) :
    ∃ v, (if mx then (Builtin.max_ ats ty us.toArray).run P w else (Builtin.min_ ats ty us.toArray).run P w) = .ok v w ∧ Rep C y v := by
  unfold evMinMax at hd
  split at hd
  · rename_i k a k' b
    injection hd with hd; subst hd
    match us, hx with
    | [], hx => exact absurd hx.1 (by simp)
    | [_], hx => exact absurd hx.1 (by simp)
    | [u, v], hx =>
      obtain rfl := rep_s hx.head
      obtain rfl := rep_s hx.tail.head
      cases mx
      · exact ⟨_, by simp [Builtin.min_, Builtin.min2], rep_i k _⟩
      · exact ⟨_, by simp [Builtin.max_, Builtin.max2], rep_i k _⟩
    | _ :: _ :: _ :: _, hx => exact absurd hx.1 (by simp)
  · simp at hd
end
end Go.Proofs.YthcaodlfnlhfbaaDoorT
