/- The interpreter over trees: slices that are built; interface values; the length; the least and the greatest. -/
import Derived.Test.YtfknpnkdedckhaaGreatDoorT10
import Derived.LoopN
import Derived.Orders
import Derived.OpenShut
import Derived.ChangeArms
import Derived.SizedLaws
namespace Go.Proofs.YtfknpnkdedckhaaGreatDoorT
open Go Go.RowKit
set_option linter.unusedVariables false

section
variable {P : Program} {B : Base} {w : World} {inj : Loc → Nat} {σ : Loc → Option O} {cnt : Nat → Nat}
theorem fillRow_ok {C : Ctx} (hg : C.Good) {sz : Nat} (h0 : 0 < sz) : ∀ (ps : List (Nat × T)) (vs : List (Nat × Value)) (xs xs' : List T) (us : List Value), setAll sz ps xs = some xs' → PartsA C ps vs → RowOf C sz xs (fun k => us.toArray[k]?) → us.length = xs.length * sz →
      ∃ us' : List Value, Instr.fill (fun i => some (i * sz, sz)) us.toArray vs = some us'.toArray ∧ RowOf C sz xs' (fun k => us'.toArray[k]?) ∧ us'.length = us.length ∧ xs'.length = xs.length
  | [], vs, xs, xs', us, h, hpa, hr, hl => by
    simp [setAll] at h
    subst h
    have : vs = [] := by have := hpa.1; simpa using this.symm
    subst this
    exact ⟨us, rfl, hr, rfl, rfl⟩
  | (i, x) :: ps, vs, xs, xs', us, h, hpa, hr, hl => by
    obtain ⟨u, r, rfl, hx, hpa'⟩ := hpa.cons_inv
    simp only [setAll] at h
    split at h
    · rename_i hc
      simp only [Bool.and_eq_true, decide_eq_true_eq] at hc
      obtain ⟨⟨hk, hn⟩, hi⟩ := hc
      obtain ⟨hra, h1a⟩ := hx.cells hg hk
      have hsz : u.cells.size = sz := by rw [← hn, hra.1]; simp
      have hb : i * sz + sz ≤ us.length := by
        rw [hl]
        have := Nat.mul_le_mul_right sz (show i + 1 ≤ xs.length by omega)
        rw [Nat.add_mul] at this
        omega
      have hget : ∀ k, (us.take (i * sz) ++ u.cells.toList ++ us.drop (i * sz + u.cells.toList.length)).toArray[k]? = if k < i * sz then us.toArray[k]? else if k < i * sz + sz then u.cells[k - i * sz]? else us.toArray[k]? := by
        intro k
        rw [List.getElem?_toArray, splice_get _ _ _ _ (by simp only [Array.length_toList]; omega)]
        simp only [Array.getElem?_toList, Array.length_toList, hsz, List.getElem?_toArray]
      have hrow := row_splice (cells' := (us.take (i * sz) ++ u.cells.toList ++ us.drop (i * sz + u.cells.toList.length)).toArray) hr hx hsz (i := i) (fun k hk' => by
        rw [hget]
        rw [Nat.add_mul] at hk'
        split
        · rfl
        · rw [if_neg (by omega)]) (fun k cv hcv => by
        have hk1 := (Array.getElem?_eq_some_iff.1 hcv).1
        rw [hget, if_neg (by omega), if_pos (by omega), Nat.add_sub_cancel_left]
        exact hcv)
      have hlen : (us.take (i * sz) ++ u.cells.toList ++ us.drop (i * sz + u.cells.toList.length)).length = us.length := by
        simp only [List.length_append, List.length_take, List.length_drop, Array.length_toList, hsz]
        omega
      obtain ⟨us', hfill, hr', hl', hx'⟩ := fillRow_ok hg h0 ps r _ xs' _ h hpa' hrow (by rw [hlen, hl]; simp)
      refine ⟨us', ?_, hr', by rw [hl', hlen], by rw [hx']; simp⟩
      simp only [Instr.fill, hsz]
      rw [if_neg (by simp; omega), fold_splice (i * sz) u.cells us (by omega)]
      exact hfill
    · simp at h
/-- Rows of zero values. -/
theorem zero_row {C : Ctx} {e : TypeId} {z : List T} {ze : T} {zv : Value} {sz : Nat} (len : Nat) (h0 : 0 < sz) (hze : Rep C ze zv) (hs : zv.cells.size = sz) :
    RowOf C sz (List.replicate len ze) (fun k => ((List.range (len * sz)).map (fun i => zv.cells[i % zv.cells.size]!)).toArray[k]?) := by
  refine ⟨List.replicate len zv, ⟨by simp, fun j x u hx hu => ?_⟩, fun u hu => ?_, fun j i u cv hu hc => ?_⟩
  · rw [List.getElem?_replicate] at hx hu
    split at hx
    · rename_i hj
      rw [if_pos hj] at hu
      injection hx with hx; injection hu with hu; subst hx; subst hu; exact hze
    · simp at hx
  · rw [List.eq_of_mem_replicate hu]; exact hs
  · rw [List.getElem?_replicate] at hu
    split at hu
    · rename_i hj
      injection hu with hu; subst hu
      have hi : i < sz := by rw [← hs]; exact (Array.getElem?_eq_some_iff.1 hc).1
      have hlt : j * sz + i < len * sz := by
        have := Nat.mul_le_mul_right sz (show j + 1 ≤ len by omega)
        rw [Nat.add_mul] at this
        omega
      simp only [List.getElem?_toArray, List.getElem?_map, List.getElem?_range hlt, Option.map_some, hs]
      rw [Nat.mul_comm, Nat.mul_add_mod, Nat.mod_eq_of_lt hi]
      have := (Array.getElem?_eq_some_iff.1 hc)
      obtain ⟨h1, h2⟩ := this
      rw [getElem!_pos zv.cells i h1, h2]
    · simp at hu
/-- Two lists of parts, zipped. -/
theorem parts_zip {C : Ctx} (ps : List (Nat × T)) (ys : List T) (vs : List (Nat × Value)) (hi : ps.map (·.1) = vs.map (·.1)) (hy : RepA C ys (vs.map (·.2))) : PartsA C ((ps.map (·.1)).zip ys) vs := by
  have hl : (ps.map (·.1)).length = ys.length := by rw [hi, hy.1]; simp
  exact ⟨by rw [List.map_fst_zip (by omega)]; exact hi, by rw [List.map_snd_zip (by omega)]; exact hy⟩
/-- buildSlice -/
theorem buildSlice_ok (h : SR B w inj σ cnt) (site : Nat) {t e : TypeId} {sz len : Nat} {z : List T} {ze : T} {ps : List (Nat × T)} {vs : Array (Nat × Value)} {ys xs : List T} {r : List Loc}
    (he : elemOf P t = some e) (hsz : szOf P e = some sz) (hz : zeroOf P e = some z) (hno : ¬ (sz = 0 ∨ 16777216 < len * sz)) (hze : ofCells P e z = some ze)
    (hpa : PartsA (sctx B w inj σ cnt) ps vs.toList) (hf : frzL σ (ps.map (·.2)) = some (ys, r)) (hset : setAll sz ((ps.map (·.1)).zip (ys.map (canT P e))) (List.replicate len ze) = some xs) :
    ∃ v w', (Instr.buildSlice t len vs).run P w = .ok v w' ∧ Stp B w inj σ cnt ⟨.own (site, cnt site), killL r ++ [((site, cnt site), some (.arr e sz xs))], [site], r⟩ v w' := by
  have h0 : 0 < sz := by omega
  obtain ⟨zv, hzr, hzrep⟩ := zero_rep (C := (sctx B w inj (updL σ (killL r)) cnt).ro) hz hze w
  obtain ⟨zv', hzr', rfl, _, hzs, _⟩ := run_zero hz w
  rw [hzr] at hzr'
  injection hzr' with hzr' _
  subst hzr'
  rw [hsz] at hzs
  injection hzs with hzs
  have hzi : ∃ i, P.info? e = some i ∧ i.zero = some zv ∧ i.size = sz := by
    unfold szOf at hsz
    cases hi : P.info? e with
    | none => rw [hi] at hsz; simp at hsz
    | some i =>
      rw [hi] at hsz
      simp only [Option.map_some, Option.some.injEq] at hsz
      refine ⟨i, rfl, ?_, hsz⟩
      cases hz0 : i.zero with
      | none => simp [zeroValue, run_info hi, hz0] at hzr
      | some z' => simp [zeroValue, run_info hi, hz0] at hzr; rw [hzr]
  obtain ⟨i, hi, hz0, his⟩ := hzi
  have hkeys := frzL_keys _ ys r hf
  have hys : RepA (sctx B w inj (updL σ (killL r)) cnt).ro (ys.map (canT P e)) (vs.toList.map (·.2)) := canM_rep ((frzL_ok h _ ys r _ hf hpa.2).mono (fctx_kill h hkeys))
  have hK := h.kill r
  have hparts := parts_zip ps (ys.map (canT P e)) vs.toList hpa.1 hys
  obtain ⟨us', hfill, hrow, hl, hxl⟩ := fillRow_ok (Ctx.ro_good _) h0 _ vs.toList _ xs _ hset hparts (zero_row (e := e) (z := []) len h0 hzrep hzs.symm) (by simp)
  have hmax : (16777216 : Nat) ≤ maxLen := by decide
  have hlen : xs.length = len := by rw [hxl]; simp
  have hle : len ≤ 16777216 := Nat.le_trans (Nat.le_mul_of_pos_right len h0) (by omega)
  have hlsz : us'.length = len * sz := by rw [hl]; simp
  refine ⟨.slice (some ⟨w.heap.size, 0, none⟩) len len, w.alloc (.cells us'.toArray e), ?_, Stp.killed (rd := []) h (Stp.new hK site (.arr e sz xs) (.cells us'.toArray e) _ _ [] ?_ ?_)⟩
  · by_cases hl0 : len = 0
    · subst hl0
      have hu0 : us' = [] := List.eq_nil_of_length_eq_zero (by simpa using hlsz)
      subst hu0
      have hf0 : Instr.fill (fun i => some (i * sz, sz)) #[] vs.toList = some #[] := by simpa using hfill
      have e0 : Array.range 0 = (#[] : Array Nat) := rfl
      simp [Instr.buildSlice, run_underlying (elem_und he), sizeOf, typeInfo, hi, his, e0, hf0, newRow]
    refine run_buildSlice w t e len vs us'.toArray i zv (elem_und he) hi hz0 (by rw [his]; omega) (by rw [his]; exact Nat.ne_of_gt (Nat.mul_pos (by omega) h0)) ?_
    rw [his]
    have e1 : (Array.range (len * sz)).map (fun x => zv.cells[x % zv.cells.size]!) = ((List.range (len * sz)).map (fun i => zv.cells[i % zv.cells.size]!)).toArray := by
      apply Array.ext'
      simp
    rw [e1]
    exact hfill
  · intro C le hb
    refine ⟨h0, us'.toArray, len, hb, by simpa using hlsz, by omega, by omega, hrow.mono le.roro (fun _ _ hh => hh)⟩
  · intro inj' σ' cnt' h1 h2 h3 h4
    refine .own ⟨h3, _, len, len, rfl, Nat.le_refl _, fun e1 sz1 xs1 hx1 => ?_⟩
    rw [h2] at hx1
    injection hx1 with hx1; injection hx1 with g1 g2 g3
    subst g1; subst g2; subst g3
    exact ⟨by omega, h1.symm, us'.toArray, by rw [h1]; exact h4, by simpa using hlsz⟩
/-- makeInterface -/
theorem makeIface_ok (h : SR B w inj σ cnt) {t : TypeId} {x y : T} {u : Value} {r : List Loc} (hx : Rep (sctx B w inj σ cnt) x u) (hni : ifaceT P t = some false) (h0t : t ≠ 0) (hf : frzC P t σ x = some (y, r)) :
    ∃ v, (Instr.makeInterface t u).run P w = .ok v w ∧ Stp B w inj σ cnt ⟨.ifc t y, killL r, [], r⟩ v w := by
  refine ⟨.iface t u, ?_, ?_⟩
  · unfold ifaceT at hni
    split at hni
    · simp at hni
    · rename_i d hnd hu
      simp only [Instr.makeInterface, Sem.run_bind, run_und hu, Result.andThen_ok]
      cases d <;> first | rfl | exact absurd hu (hnd _)
    · simp at hni
  · have hkeys := frzC_keys hf
    have hy : Rep (sctx B w inj (updL σ (killL r)) cnt).ro y u := (frzC_ok h hf hx).mono (fctx_kill h hkeys)
    have := Stp.killed (rd' := r) h (Stp.pure (h.kill r) (Rep.ifc (t := t) h0t hy) [])
    simpa using this
/-- extract -/
theorem extract_ok {C : Ctx} {cs : List T} {x : T} {u : Value} {i : Nat} (hx : Rep C (.tup cs) u) (hi : cs[i]? = some x) (w : World) : ∃ v, (Instr.extract u i).run P w = .ok v w ∧ Rep C x v := by
  obtain ⟨vs, rfl, hr⟩ := hx.tup_parts
  obtain ⟨v, hv, hrv⟩ := hr.get hi
  exact ⟨v, by simp [Instr.extract, hv], hrv⟩
theorem len_val {x : T} {u : Value} {n : Int} {r : List Loc} (hx : Rep (sctx B w inj σ cnt) x u) (h : lenT σ x = some (n, r)) (hns : ∀ b, x ≠ .s (.string b)) : ∃ A m c, u = .slice A m c ∧ n = (m : Int) := by
  unfold lenT at h
  split at h
  · exact absurd rfl (hns _)
  · injection h with h; injection h with h _; subst h
    obtain ⟨A, c, rfl, _⟩ := hx.sl_row
    exact ⟨A, _, c, rfl, rfl⟩
  · split at h
    · rename_i e sz xs hl
      injection h with h; injection h with h _; subst h
      cases hx
      rename_i hp
      obtain ⟨_, b, n, c, rfl, _, hb⟩ := hp
      exact ⟨_, _, c, rfl, by rw [(hb _ _ _ hl).1]⟩
    · simp at h
  · injection h with h; injection h with h _; subst h
    obtain rfl := rep_s hx
    exact ⟨none, 0, 0, rfl, rfl⟩
  · simp at h
/-- len -/
theorem len_ok (h0 : SR B w inj σ cnt) {tys : Option TypeId} {x : T} {d : Dl} {u : Value} (hx : Rep (sctx B w inj σ cnt) x u) (hd : evLen P σ tys x = some d) (ats : Array TypeId) (ht : ats[0]? = tys) (ty : TypeId) :
    ∃ v, (Builtin.len_ ats ty #[u]).run P w = .ok v w ∧ Stp B w inj σ cnt d v w := by
  unfold evLen at hd
  split at hd
  · rename_i t
    split at hd
    · rename_i hu
      split at hd
      · rename_i b
        unfold pv at hd
        injection hd with hd; subst hd
        obtain rfl := rep_s hx
        refine ⟨goInt b.size, ?_, Stp.pure h0 (rep_i .i64 _) _⟩
        simp [Builtin.len_, ht, run_und hu]
      · simp at hd
    · rename_i e hu
      split at hd
      · simp at hd
      · rename_i hns
        split at hd
        · rename_i n r hl
          injection hd with hd; subst hd
          obtain ⟨A, m, c, rfl, rfl⟩ := len_val hx hl hns
          refine ⟨goInt m, ?_, Stp.pure h0 (rep_i .i64 _) _⟩
          simp [Builtin.len_, ht, run_und hu]
        · simp at hd
    · rename_i n e hu
      unfold pv at hd
      injection hd with hd; subst hd
      refine ⟨goInt n, ?_, Stp.pure h0 (rep_i .i64 _) _⟩
      simp [Builtin.len_, ht, run_und hu]
    · simp at hd
  · simp at hd
/-- min, max -/
theorem minmax_ok {C : Ctx} {mx : Bool} {xs : List T} {us : List Value} {y : T} (hx : RepA C xs us) (hd : evMinMax mx xs = some y) (ats : Array TypeId) (ty : TypeId) (w : World) :
    ∃ v, (if mx then (Builtin.max_ ats ty us.toArray).run P w else (Builtin.min_ ats ty us.toArray).run P w) = .ok v w ∧ Rep C y v := by
  unfold evMinMax at hd
  split at hd
  · rename_i k a k' b
    injection hd with hd; subst hd
    match us, hx with
    | [], hx => exact absurd hx.1 (by simp)
    | [_], hx => exact absurd hx.1 (by simp)
    | [u, v], hx =>
      obtain rfl := rep_s hx.head
      obtain rfl := rep_s hx.tail.head
      cases mx
      · exact ⟨_, by simp [Builtin.min_, Builtin.min2], rep_i k _⟩
      · exact ⟨_, by simp [Builtin.max_, Builtin.max2], rep_i k _⟩
    | _ :: _ :: _ :: _, hx => exact absurd hx.1 (by simp)
  · simp at hd
end
end Go.Proofs.YtfknpnkdedckhaaGreatDoorT

/- The interpreter over trees: values handed over at a call's border: closed, and opened again. -/
namespace Go.Proofs.YtfknpnkdedckhaaGreatDoorT
open Go Go.RowKit
set_option linter.unusedVariables false

/-- What may be read, nothing of one's own. -/
def cctx (w : World) (ok : Nat → Prop) : Ctx where
  w := w
  ok := ok
  own := fun _ _ => False
  ptr := fun _ _ _ => False
  eptr := fun _ _ _ _ _ => False
  it := fun _ _ => False
theorem cctx_ro (w : World) (ok : Nat → Prop) : (cctx w ok).ro = cctx w ok := rfl
theorem cctx_le {w : World} {ok : Nat → Prop} {C : Ctx} (hw : C.w = w) (h : ∀ k, ok k → C.ok k) : (cctx w ok).le C.ro := ⟨fun k hk => ⟨h k hk, by rw [← hw]; rfl⟩, fun _ _ h => h.elim, fun _ _ _ h => h.elim, fun _ _ _ _ _ h => h.elim, fun _ _ h => h.elim⟩

mutual
/-- A closed tree stands for a value; the blocks that are handed over in it, in order. -/
def RepX (w : World) (ok : Nat → Prop) : T → Value → List Nat → Prop
  | .cown e sz xs, v, bs => ∃ (b c : Nat) (cells : Array Value), v = .slice (some ⟨b, 0, none⟩) xs.length c ∧ bs = [b] ∧ 0 < sz ∧ w.heap[b]? = some (.cells cells e (0, 0)) ∧ cells.size = c * sz ∧ xs.length ≤ c ∧ c ≤ maxLen ∧ RowOf (cctx w ok) sz xs (fun i => cells[i]?)
  | .cbox ty cs, v, bs => ∃ (b : Nat) (us : List Value) (bs' : List Nat), v = .pointer (some ⟨b, 0, none⟩) ∧ bs = b :: bs' ∧ w.heap[b]? = some (.cells us.toArray ty (0, 0)) ∧ RepXL w ok cs us bs' ∧ ∀ u ∈ us, one u
  | .agg cs, v, bs => ∃ vs : List Value, v = .agg vs.toArray ∧ RepXL w ok cs vs bs ∧ ∀ u ∈ vs, one u
  | .tup cs, v, bs => ∃ vs : List Value, v = .tuple vs.toArray ∧ RepXL w ok cs vs bs
  | .fn f fs cs, v, bs => ∃ (vf vc : List Value) (b1 b2 : List Nat), v = .func f vf.toArray vc.toArray ∧ bs = b1 ++ b2 ∧ RepXL w ok fs vf b1 ∧ RepXL w ok cs vc b2
  | .s u, v, bs => bs = [] ∧ Rep (cctx w ok) (.s u) v
  | .ifc t x, v, bs => bs = [] ∧ Rep (cctx w ok) (.ifc t x) v
  | .sl sz xs, v, bs => bs = [] ∧ Rep (cctx w ok) (.sl sz xs) v
  | .ep cs, v, bs => bs = [] ∧ Rep (cctx w ok) (.ep cs) v
  | .dead, v, bs => bs = []
  | .own _, _, _ | .ptr _ _, _, _ | .eptr _ _ _ _, _, _ | .it _, _, _ => False
def RepXL (w : World) (ok : Nat → Prop) : List T → List Value → List Nat → Prop
  | [], us, bs => us = [] ∧ bs = []
  | x :: xs, us, bs => ∃ (u : Value) (us' : List Value) (b1 b2 : List Nat), us = u :: us' ∧ bs = b1 ++ b2 ∧ RepX w ok x u b1 ∧ RepXL w ok xs us' b2
end
theorem RepXL.len {w : World} {ok : Nat → Prop} : ∀ {xs : List T} {us : List Value} {bs : List Nat}, RepXL w ok xs us bs → xs.length = us.length
  | [], us, bs, h => by obtain ⟨rfl, _⟩ := h; rfl
  | x :: xs, us, bs, h => by
    obtain ⟨u, us', b1, b2, rfl, _, _, h⟩ := h
    simp [RepXL.len h]

section
variable {P : Program} {B : Base} {w : World} {inj : Loc → Nat} {σ : Loc → Option O} {cnt : Nat → Nat}
/-! ### Closed -/
def kblks (inj : Loc → Nat) (m : List Loc) : List Nat := m.map inj
/-- What is known of a closing one deeper. -/
def ClsRec (B : Base) (w : World) (inj : Loc → Nat) (σ : Loc → Option O) (cnt : Nat → Nat) (ok : Nat → Prop) (rec : List T → Option (List T × List Loc)) : Prop :=
  ∀ (cs cs' : List T) (m : List Loc) (us : List Value), rec cs = some (cs', m) → RepA (sctx B w inj σ cnt) cs us → RepXL w ok cs' us (kblks inj m) ∧ ∀ l ∈ m, σ l ≠ none
variable {ok : Nat → Prop}
theorem rep_closed {C : Ctx} (hok : ∀ k, C.ok k → ok k) {t : T} {v : Value} (h : Rep C.ro t v) : Rep (cctx C.w ok) t v := h.mono ⟨fun k hk => ⟨hok k hk, rfl⟩, fun _ _ h => h.elim, fun _ _ _ h => h.elim, fun _ _ _ _ _ h => h.elim, fun _ _ h => h.elim⟩
mutual
theorem clsT_ok (h : SR B w inj σ cnt) (hok : ∀ k, (sctx B w inj σ cnt).ok k → ok k) {rec : List T → Option (List T × List Loc)} (hrec : ClsRec B w inj σ cnt ok rec) :
    ∀ (t t' : T) (m : List Loc) (v : Value), clsT σ rec t = some (t', m) → Rep (sctx B w inj σ cnt) t v → RepX w ok t' v (kblks inj m) ∧ ∀ l ∈ m, σ l ≠ none
  | .s u, t', m, v, hc, hr => by
    simp [clsT] at hc
    obtain ⟨rfl, rfl⟩ := hc
    refine ⟨⟨rfl, ?_⟩, by simp⟩
    cases hr; exact .s (by assumption)
  | .agg cs, t', m, v, hc, hr => by
    unfold clsT at hc
    obtain ⟨vs, rfl, hl, hcs, h1⟩ := hr.agg_parts
    split at hc
    · rename_i cs' m' he
      injection hc with hc; injection hc with e1 e2; subst e1; subst e2
      have := clsTL_ok h hok hrec cs cs' m' vs he ⟨hl, hcs⟩
      exact ⟨⟨vs, rfl, this.1, h1⟩, this.2⟩
    · simp at hc
  | .tup cs, t', m, v, hc, hr => by
    unfold clsT at hc
    obtain ⟨vs, rfl, hcs⟩ := hr.tup_parts
    split at hc
    · rename_i cs' m' he
      injection hc with hc; injection hc with e1 e2; subst e1; subst e2
      have := clsTL_ok h hok hrec cs cs' m' vs he hcs
      exact ⟨⟨vs, rfl, this.1⟩, this.2⟩
    · simp at hc
  | .fn f fs cs, t', m, v, hc, hr => by
    unfold clsT at hc
    obtain ⟨vf, vc, rfl, hf, hcs⟩ := hr.fn_parts
    split at hc
    · rename_i fs' a cs' b he1 he2
      injection hc with hc; injection hc with e1 e2; subst e1; subst e2
      have h1 := clsTL_ok h hok hrec fs fs' a vf he1 hf
      have h2 := clsTL_ok h hok hrec cs cs' b vc he2 hcs
      exact ⟨⟨vf, vc, _, _, rfl, by simp [kblks], h1.1, h2.1⟩, fun l hl => (List.mem_append.1 hl).elim (h1.2 l) (h2.2 l)⟩
    · simp at hc
  | .own l, t', m, v, hc, hr => by
    unfold clsT at hc
    split at hc
    · rename_i e sz xs hl
      · injection hc with hc; injection hc with e1 e2; subst e1; subst e2
        cases hr
        rename_i hp
        obtain ⟨h1, b, n, c, rfl, hnc, hb⟩ := hp
        obtain ⟨rfl, rfl, cells, hc1, hc2⟩ := hb _ _ _ hl
        obtain ⟨h0, cells', c', g1, g2, g3, g4, g5⟩ := arr_parts h hl
        rw [hc1] at g1
        injection g1 with g1; injection g1 with g1 _ _
        subst g1
        have hcc : c = c' := Nat.eq_of_mul_eq_mul_right h0 (by rw [← hc2, ← g2])
        subst hcc
        refine ⟨⟨inj l, c, cells, rfl, rfl, h0, hc1, hc2, hnc, g4, g5.mono ⟨fun k hk => ⟨hok k hk, rfl⟩, fun _ _ h => h.elim, fun _ _ _ h => h.elim, fun _ _ _ _ _ h => h.elim, fun _ _ h => h.elim⟩ (fun _ _ hh => hh)⟩, ?_⟩
        intro l' hl'
        rw [List.mem_singleton.1 hl', hl]; simp
    · simp at hc
  | .ptr l off, t', m, v, hc, hr => by
    unfold clsT at hc
    split at hc
    · rename_i ho
      subst ho
      split at hc
      · rename_i ty cs hl
        split at hc
        · rename_i cs' m' he
          injection hc with hc; injection hc with e1 e2; subst e1; subst e2
          cases hr
          rename_i hp
          obtain ⟨h1, b, rfl, hb⟩ := hp
          obtain rfl := hb _ _ hl
          obtain ⟨us, hg, hrs, h1s⟩ := box_parts h hl
          have hx := hrec cs cs' m' us he hrs
          refine ⟨⟨inj l, us, kblks inj m', rfl, rfl, hg, hx.1, h1s⟩, ?_⟩
          intro l' hl'
          rcases List.mem_cons.1 hl' with rfl | hl'
          · rw [hl]; simp
          · exact hx.2 l' hl'
        · simp at hc
      · simp at hc
    · simp at hc
  | .sl sz xs, t', m, v, hc, hr => by
    simp [clsT] at hc
    obtain ⟨rfl, rfl⟩ := hc
    exact ⟨⟨rfl, rep_closed hok (sl_ro hr)⟩, by simp⟩
  | .ifc t x, t', m, v, hc, hr => by
    simp [clsT] at hc
    obtain ⟨rfl, rfl⟩ := hc
    exact ⟨⟨rfl, rep_closed hok (ifc_ro hr)⟩, by simp⟩
  | .ep cs, t', m, v, hc, hr => by
    simp [clsT] at hc
    obtain ⟨rfl, rfl⟩ := hc
    exact ⟨⟨rfl, rep_closed hok (ep_ro hr)⟩, by simp⟩
  | .eptr _ _ _ _, t', m, v, hc, hr => by simp [clsT] at hc
  | .it _, t', m, v, hc, hr => by simp [clsT] at hc
  | .cown _ _ _, t', m, v, hc, hr => by simp [clsT] at hc
  | .cbox _ _, t', m, v, hc, hr => by simp [clsT] at hc
  | .dead, t', m, v, hc, hr => by simp [clsT] at hc
theorem clsTL_ok (h : SR B w inj σ cnt) (hok : ∀ k, (sctx B w inj σ cnt).ok k → ok k) {rec : List T → Option (List T × List Loc)} (hrec : ClsRec B w inj σ cnt ok rec) :
    ∀ (cs cs' : List T) (m : List Loc) (us : List Value), clsTL σ rec cs = some (cs', m) → RepA (sctx B w inj σ cnt) cs us → RepXL w ok cs' us (kblks inj m) ∧ ∀ l ∈ m, σ l ≠ none
  | [], cs', m, us, hc, hr => by
    simp [clsTL] at hc
    obtain ⟨rfl, rfl⟩ := hc
    have : us = [] := List.eq_nil_of_length_eq_zero hr.1.symm
    subst this
    exact ⟨⟨rfl, rfl⟩, by simp⟩
  | x :: cs, cs', m, us, hc, hr => by
    unfold clsTL at hc
    split at hc
    · rename_i x' a r' b he1 he2
      injection hc with hc; injection hc with e1 e2; subst e1; subst e2
      match us, hr with
      | u :: us, hr =>
        have h1 := clsT_ok h hok hrec x x' a u he1 hr.head
        have h2 := clsTL_ok h hok hrec cs r' b us he2 hr.tail
        exact ⟨⟨u, us, _, _, rfl, by simp [kblks], h1.1, h2.1⟩, fun l hl => (List.mem_append.1 hl).elim (h1.2 l) (h2.2 l)⟩
      | [], hr => exact absurd hr.1 (by simp)
    · simp at hc
end
theorem clsL_ok (h : SR B w inj σ cnt) (hok : ∀ k, (sctx B w inj σ cnt).ok k → ok k) : ∀ d, ClsRec B w inj σ cnt ok (clsL σ d)
  | 0 => fun cs cs' m us hc hr => by
    unfold clsL at hc
    exact clsTL_ok h hok (rec := fun _ => none) (fun _ _ _ _ hh => by simp at hh) cs cs' m us hc hr
  | d + 1 => fun cs cs' m us hc hr => by
    unfold clsL at hc
    exact clsTL_ok h hok (clsL_ok h hok d) cs cs' m us hc hr
theorem cls_ok (h : SR B w inj σ cnt) (hok : ∀ k, (sctx B w inj σ cnt).ok k → ok k) (t t' : T) (m : List Loc) (v : Value) (hc : cls σ t = some (t', m)) (hr : Rep (sctx B w inj σ cnt) t v) : RepX w ok t' v (kblks inj m) ∧ ∀ l ∈ m, σ l ≠ none :=
  clsT_ok h hok (clsL_ok h hok 4) t t' m v hc hr
/-- A frozen value is closed. -/
theorem frz_shape : ∀ (t t' : T) (r : List Loc) (v : Value), frz σ t = some (t', r) → Rep (cctx w ok) t' v → RepX w ok t' v []
  | .s u, t', r, v, hf, hr => by
    unfold frz at hf
    split at hf
    · injection hf with hf; injection hf with e1 e2; subst e1; exact ⟨rfl, hr⟩
    · injection hf with hf; injection hf with e1 e2; subst e1; exact ⟨rfl, hr⟩
    all_goals simp_all
  | .agg cs, t', r, v, hf, hr => by
    unfold frz at hf
    split at hf
    · rename_i cs' r' he
      injection hf with hf; injection hf with e1 e2; subst e1
      obtain ⟨vs, rfl, hl, hcs, h1⟩ := hr.agg_parts
      exact ⟨vs, rfl, frzL_shape cs cs' r' vs he ⟨hl, hcs⟩, h1⟩
    · simp at hf
  | .own l, t', r, v, hf, hr => by
    unfold frz at hf
    split at hf
    · injection hf with hf; injection hf with e1 e2; subst e1; exact ⟨rfl, hr⟩
    · simp at hf
  | .sl sz xs, t', r, v, hf, hr => by simp [frz] at hf; obtain ⟨rfl, rfl⟩ := hf; exact ⟨rfl, hr⟩
  | .ifc t x, t', r, v, hf, hr => by simp [frz] at hf; obtain ⟨rfl, rfl⟩ := hf; exact ⟨rfl, hr⟩
  | .ep cs, t', r, v, hf, hr => by simp [frz] at hf; obtain ⟨rfl, rfl⟩ := hf; exact ⟨rfl, hr⟩
  | .tup _, t', r, v, hf, hr => by simp [frz] at hf
  | .ptr _ _, t', r, v, hf, hr => by simp [frz] at hf
  | .eptr _ _ _ _, t', r, v, hf, hr => by simp [frz] at hf
  | .fn _ _ _, t', r, v, hf, hr => by simp [frz] at hf
  | .it _, t', r, v, hf, hr => by simp [frz] at hf
  | .cown _ _ _, t', r, v, hf, hr => by simp [frz] at hf
  | .cbox _ _, t', r, v, hf, hr => by simp [frz] at hf
  | .dead, t', r, v, hf, hr => by simp [frz] at hf
where frzL_shape : ∀ (cs cs' : List T) (r : List Loc) (us : List Value), frzL σ cs = some (cs', r) → RepA (cctx w ok) cs' us → RepXL w ok cs' us []
  | [], cs', r, us, hf, hr => by
    simp [frzL] at hf
    obtain ⟨rfl, rfl⟩ := hf
    have : us = [] := List.eq_nil_of_length_eq_zero hr.1.symm
    subst this
    exact ⟨rfl, rfl⟩
  | x :: cs, cs', r, us, hf, hr => by
    unfold frzL at hf
    split at hf
    · rename_i x' a r' b he1 he2
      injection hf with hf; injection hf with e1 e2; subst e1; subst e2
      match us, hr with
      | u :: us, hr => exact ⟨u, us, [], [], rfl, rfl, frz_shape x x' a u he1 hr.head, frzL_shape cs r' b us he2 hr.tail⟩
      | [], hr => exact absurd hr.1 (by simp)
    · simp at hf
/-- An argument, as the one called sees it. -/
theorem argC_ok (h : SR B w inj σ cnt) {mv : Bool} {t t' : T} {m r : List Loc} {v : Value} (hok : ∀ k, (sctx B w inj σ cnt).ok k → ok k) (hr : ∀ k, blks inj r k → ok k) (ha : argC σ mv t = some (t', m, r)) (hv : Rep (sctx B w inj σ cnt) t v) :
    RepX w ok t' v (kblks inj m) ∧ (∀ l ∈ m, σ l ≠ none) ∧ ∀ l ∈ r, σ l ≠ none := by
  have viaC : ∀ t, Rep (sctx B w inj σ cnt) t v → (match cls σ t with | some (t, m) => some (t, m, []) | none => none) = some (t', m, r) → RepX w ok t' v (kblks inj m) ∧ (∀ l ∈ m, σ l ≠ none) ∧ ∀ l ∈ r, σ l ≠ none := by
    intro t hv ha
    split at ha
    · rename_i t1 m1 he
      injection ha with ha; injection ha with e1 e2; injection e2 with e2 e3; subst e1; subst e2; subst e3
      have := cls_ok h hok t t1 m1 v he hv
      exact ⟨this.1, this.2, by simp⟩
    · simp at ha
  have viaF : ∀ t, Rep (sctx B w inj σ cnt) t v → (match frz σ t with | some (t, r) => some (t, [], r) | none => none) = some (t', m, r) → RepX w ok t' v (kblks inj m) ∧ (∀ l ∈ m, σ l ≠ none) ∧ ∀ l ∈ r, σ l ≠ none := by
    intro t hv ha
    split at ha
    · rename_i t1 r1 he
      injection ha with ha; injection ha with e1 e2; injection e2 with e2 e3; subst e1; subst e2; subst e3
      refine ⟨frz_shape t t1 r1 v he ?_, by simp, frz_keys t t1 r1 he⟩
      exact (frz_ok h t t1 r1 v he hv).mono ⟨fun k hk => ⟨hk.elim (hok k) (hr k), rfl⟩, fun _ _ h => h.elim, fun _ _ _ h => h.elim, fun _ _ _ _ _ h => h.elim, fun _ _ h => h.elim⟩
    · simp at ha
  unfold argC at ha
  split at ha
  · exact viaC _ hv ha
  · exact viaC _ hv ha
  · split at ha
    · exact viaC _ hv ha
    · exact viaF _ hv ha
  · exact viaF _ hv ha
theorem argCL_ok (h : SR B w inj σ cnt) {mv : Bool} (hok : ∀ k, (sctx B w inj σ cnt).ok k → ok k) : ∀ (ts ts' : List T) (m r : List Loc) (vs : List Value), (∀ k, blks inj r k → ok k) → argCL σ mv ts = some (ts', m, r) → RepA (sctx B w inj σ cnt) ts vs →
    RepXL w ok ts' vs (kblks inj m) ∧ (∀ l ∈ m, σ l ≠ none) ∧ ∀ l ∈ r, σ l ≠ none
  | [], ts', m, r, vs, hr, ha, hv => by
    simp [argCL] at ha
    obtain ⟨rfl, rfl, rfl⟩ := ha
    have : vs = [] := List.eq_nil_of_length_eq_zero hv.1.symm
    subst this
    exact ⟨⟨rfl, rfl⟩, by simp, by simp⟩
  | x :: ts, ts', m, r, vs, hr, ha, hv => by
    unfold argCL at ha
    split at ha
    · rename_i x' m1 a1 r' m2 a2 he1 he2
      injection ha with ha; injection ha with e1 e2; injection e2 with e2 e3; subst e1; subst e2; subst e3
      match vs, hv with
      | u :: us, hv =>
        have h1 := argC_ok h hok (fun k ⟨l, hl, e⟩ => hr k ⟨l, List.mem_append_left _ hl, e⟩) he1 hv.head
        have h2 := argCL_ok h hok ts r' m2 a2 us (fun k ⟨l, hl, e⟩ => hr k ⟨l, List.mem_append_right _ hl, e⟩) he2 hv.tail
        exact ⟨⟨u, us, _, _, rfl, by simp [kblks], h1.1, h2.1⟩, fun l hl => (List.mem_append.1 hl).elim (h1.2.1 l) (h2.2.1 l), fun l hl => (List.mem_append.1 hl).elim (h1.2.2 l) (h2.2.2 l)⟩
      | [], hv => exact absurd hv.1 (by simp)
    · simp at ha
end
end Go.Proofs.YtfknpnkdedckhaaGreatDoorT

/- The interpreter over trees: what was handed over, opened. -/
namespace Go.Proofs.YtfknpnkdedckhaaGreatDoorT
open Go Go.RowKit
set_option linter.unusedVariables false

/-- The keys of what is opened: old ones out of m, new ones from i to j. -/
structure KP (key : Nat → Loc) (i j : Nat) (ks m : List Loc) : Prop where
  le : i ≤ j
  mem : ∀ l ∈ ks, l ∈ m ∨ ∃ n, i ≤ n ∧ n < j ∧ l = key n
  nd : (∀ a b, key a = key b → a = b) → m.Nodup → (∀ l ∈ m, ∀ n, l ≠ key n) → ks.Nodup
theorem KP.nil (key : Nat → Loc) (i : Nat) (m : List Loc) : KP key i i [] m := ⟨Nat.le_refl _, fun l hl => by simp at hl, fun _ _ _ => .nil⟩
theorem KP.append {key : Nat → Loc} {i j k : Nat} {a b m n : List Loc} (h : KP key i j a m) (g : KP key j k b n) : KP key i k (a ++ b) (m ++ n) := by
  refine ⟨Nat.le_trans h.le g.le, fun l hl => ?_, fun hk hn hne => ?_⟩
  · rcases List.mem_append.1 hl with hl | hl
    · rcases h.mem l hl with h1 | ⟨x, h1, h2, h3⟩
      · exact .inl (List.mem_append_left _ h1)
      · exact .inr ⟨x, h1, Nat.lt_of_lt_of_le h2 g.le, h3⟩
    · rcases g.mem l hl with h1 | ⟨x, h1, h2, h3⟩
      · exact .inl (List.mem_append_right _ h1)
      · exact .inr ⟨x, Nat.le_trans h.le h1, h2, h3⟩
  · have hn' := List.nodup_append.1 hn
    refine List.nodup_append.2 ⟨h.nd hk hn'.1 (fun l hl => hne l (List.mem_append_left _ hl)), g.nd hk hn'.2.1 (fun l hl => hne l (List.mem_append_right _ hl)), fun x hx y hy he => ?_⟩
    subst he
    rcases h.mem x hx with h1 | ⟨p, h1, h2, h3⟩ <;> rcases g.mem x hy with g1 | ⟨q, g1, g2, g3⟩
    · exact hn'.2.2 x h1 x g1 rfl
    · exact hne x (List.mem_append_left _ h1) q g3
    · exact hne x (List.mem_append_right _ g1) p h3
    · have := hk p q (h3.symm.trans g3)
      omega
theorem KP.new {key : Nat → Loc} {i j : Nat} {a : List Loc} (h : KP key (i + 1) j a []) : KP key i j (key i :: a) [] := by
  refine ⟨Nat.le_of_succ_le h.le, fun l hl => ?_, fun hk hn hne => ?_⟩
  · rcases List.mem_cons.1 hl with rfl | hl
    · exact .inr ⟨i, Nat.le_refl _, h.le, rfl⟩
    · rcases h.mem l hl with h1 | ⟨x, h1, h2, h3⟩
      · exact .inl h1
      · exact .inr ⟨x, Nat.le_of_succ_le h1, h2, h3⟩
  · refine List.nodup_cons.2 ⟨fun hi => ?_, h.nd hk hn hne⟩
    rcases h.mem _ hi with h1 | ⟨x, h1, h2, h3⟩
    · simp at h1
    · have := hk _ _ h3; omega
theorem KP.old {key : Nat → Loc} {i j : Nat} {a : List Loc} (l : Loc) (h : KP key i j a []) : KP key i j (l :: a) [l] := by
  refine ⟨h.le, fun l' hl => ?_, fun hk hn hne => ?_⟩
  · rcases List.mem_cons.1 hl with rfl | hl
    · exact .inl (List.mem_singleton.2 rfl)
    · rcases h.mem l' hl with h1 | h1
      · simp at h1
      · exact .inr h1
  · refine List.nodup_cons.2 ⟨fun hi => ?_, h.nd hk .nil (by simp)⟩
    rcases h.mem _ hi with h1 | ⟨x, h1, h2, h3⟩
    · simp at h1
    · exact hne l (List.mem_singleton.2 rfl) x h3
theorem KP.sub {key : Nat → Loc} {i j : Nat} {a m n : List Loc} (h : KP key i j a m) (hs : m.Sublist n) : KP key i j a n :=
  ⟨h.le, fun l hl => (h.mem l hl).imp (hs.subset ·) id, fun hk hn hne => h.nd hk (hn.sublist hs) (fun l hl => hne l (hs.subset hl))⟩

/-- Where what is opened comes to stand. -/
structure Fin (B : Base) (w : World) (ok0 : Nat → Prop) (ij : Loc → Nat) (σ : Loc → Option O) (cnt : Nat → Nat) (u : List (Loc × O)) (Z : List (Loc × Nat)) : Prop where
  inj : ∀ z ∈ Z, ij z.1 = z.2
  obj : ∀ e ∈ u, σ e.1 = some e.2 ∧ e.1.2 < cnt e.1.1
  ok : ∀ k, ok0 k → (sctx B w ij σ cnt).ok k
section
variable {P : Program} {B : Base} {w : World} {ok : Nat → Prop} {key : Nat → Loc}
theorem Fin.left {inj : Loc → Nat} {σ : Loc → Option O} {cnt : Nat → Nat} {u u' : List (Loc × O)} {Z Z' : List (Loc × Nat)} (h : Fin B w ok inj σ cnt (u ++ u') (Z ++ Z')) : Fin B w ok inj σ cnt u Z :=
  ⟨fun z hz => h.inj z (List.mem_append_left _ hz), fun e he => h.obj e (List.mem_append_left _ he), h.ok⟩
theorem Fin.right {inj : Loc → Nat} {σ : Loc → Option O} {cnt : Nat → Nat} {u u' : List (Loc × O)} {Z Z' : List (Loc × Nat)} (h : Fin B w ok inj σ cnt (u ++ u') (Z ++ Z')) : Fin B w ok inj σ cnt u' Z' :=
  ⟨fun z hz => h.inj z (List.mem_append_right _ hz), fun e he => h.obj e (List.mem_append_right _ he), h.ok⟩
/-- The objects that were opened are what they say. -/
def ObjsOk (B : Base) (w : World) (inj : Loc → Nat) (σ : Loc → Option O) (cnt : Nat → Nat) (u : List (Loc × O)) : Prop := ∀ e ∈ u, RepO (sctx B w inj σ cnt) (inj e.1) e.2
def Opened (w : World) (ok : Nat → Prop) (t' : T) (v : Value) (u : List (Loc × O)) (b : List Nat) : Prop :=
  ∃ Z : List (Loc × Nat), Z.map (·.1) = u.map (·.1) ∧ Z.map (·.2) = b ∧ ∀ (B : Base) (inj : Loc → Nat) (σ : Loc → Option O) (cnt : Nat → Nat), Fin B w ok inj σ cnt u Z → Rep (sctx B w inj σ cnt) t' v ∧ ObjsOk B w inj σ cnt u
def OpenedL (w : World) (ok : Nat → Prop) (cs' : List T) (us : List Value) (u : List (Loc × O)) (b : List Nat) : Prop :=
  ∃ Z : List (Loc × Nat), Z.map (·.1) = u.map (·.1) ∧ Z.map (·.2) = b ∧ ∀ (B : Base) (inj : Loc → Nat) (σ : Loc → Option O) (cnt : Nat → Nat), Fin B w ok inj σ cnt u Z → RepA (sctx B w inj σ cnt) cs' us ∧ ObjsOk B w inj σ cnt u
theorem opened_plain {t : T} {v : Value} (h : Rep (cctx w ok) t v) : Opened w ok t v [] [] :=
  ⟨[], rfl, rfl, fun B inj σ cnt f => ⟨(h.mono (cctx_le rfl f.ok)).of_ro, fun e he => by simp at he⟩⟩
mutual
theorem opn_ok : ∀ (t : T) (i : Nat) (t' : T) (j : Nat) (u : List (Loc × O)) (v : Value) (b : List Nat), opn key i t = (t', j, u) → RepX w ok t v b → KP key i j (u.map (·.1)) [] ∧ Opened w ok t' v u b
  | .cown e sz xs, i, t', j, u, v, b, ho, hx => by
    simp only [opn, Prod.mk.injEq] at ho
    obtain ⟨rfl, rfl, rfl⟩ := ho
    obtain ⟨g, c, cells, rfl, rfl, h0, hg, hcs, hn, hm, hrow⟩ := hx
    refine ⟨(KP.nil key (i + 1) []).new, [(key i, g)], rfl, rfl, fun B inj σ cnt f => ?_⟩
    have hi : inj (key i) = g := f.inj _ (List.mem_singleton.2 rfl)
    obtain ⟨hs, hf⟩ := f.obj _ (List.mem_singleton.2 rfl)
    refine ⟨.own ⟨hf, g, _, c, rfl, hn, fun e1 sz1 xs1 h1 => ?_⟩, fun e he => ?_⟩
    · simp only at hs
      rw [hs] at h1
      injection h1 with h1; injection h1 with g1 g2 g3
      subst g1; subst g2; subst g3
      exact ⟨rfl, hi.symm, cells, by rw [hi]; exact hg, hcs⟩
    · rw [List.mem_singleton.1 he]
      refine ⟨h0, cells, c, by rw [hi]; exact hg, hcs, hn, hm, hrow.mono (cctx_le rfl f.ok) (fun _ _ h => h)⟩
  | .cbox ty cs, i, t', j, u, v, b, ho, hx => by
    simp only [opn] at ho
    cases hc : opnL key (i + 1) cs with
    | mk cs' p =>
      obtain ⟨j', u'⟩ := p
      rw [hc] at ho
      simp only [Prod.mk.injEq] at ho
      obtain ⟨rfl, rfl, rfl⟩ := ho
      obtain ⟨g, us, bs', rfl, rfl, hg, hxs, h1⟩ := hx
      obtain ⟨hk, Z, z1, z2, hZ⟩ := opnL_ok cs (i + 1) cs' j' u' us bs' hc hxs
      refine ⟨hk.new, (key i, g) :: Z, by simp [z1], by simp [z2], fun B inj σ cnt f => ?_⟩
      have hi : inj (key i) = g := f.inj _ (List.mem_cons_self ..)
      obtain ⟨hs, hf⟩ := f.obj _ (List.mem_cons_self ..)
      have f' : Fin B w ok inj σ cnt u' Z := ⟨fun z hz => f.inj z (List.mem_cons_of_mem _ hz), fun e he => f.obj e (List.mem_cons_of_mem _ he), f.ok⟩
      obtain ⟨hr, hob⟩ := hZ B inj σ cnt f'
      refine ⟨.ptr ⟨hf, g, rfl, fun ty1 cs1 _ => hi.symm⟩, fun e he => ?_⟩
      rcases List.mem_cons.1 he with rfl | he
      · exact ⟨us, by rw [hi]; exact hg, hr, h1⟩
      · exact hob e he
  | .agg cs, i, t', j, u, v, b, ho, hx => by
    simp only [opn] at ho
    cases hc : opnL key i cs with
    | mk cs' p =>
      obtain ⟨j', u'⟩ := p
      rw [hc] at ho
      simp only [Prod.mk.injEq] at ho
      obtain ⟨rfl, rfl, rfl⟩ := ho
      obtain ⟨us, rfl, hxs, h1⟩ := hx
      obtain ⟨hk, Z, z1, z2, hZ⟩ := opnL_ok cs i cs' j' u' us b hc hxs
      refine ⟨hk, Z, z1, z2, fun B inj σ cnt f => ?_⟩
      obtain ⟨hr, hob⟩ := hZ B inj σ cnt f
      exact ⟨.agg hr.1 hr.2 h1, hob⟩
  | .tup cs, i, t', j, u, v, b, ho, hx => by
    simp only [opn] at ho
    cases hc : opnL key i cs with
    | mk cs' p =>
      obtain ⟨j', u'⟩ := p
      rw [hc] at ho
      simp only [Prod.mk.injEq] at ho
      obtain ⟨rfl, rfl, rfl⟩ := ho
      obtain ⟨us, rfl, hxs⟩ := hx
      obtain ⟨hk, Z, z1, z2, hZ⟩ := opnL_ok cs i cs' j' u' us b hc hxs
      refine ⟨hk, Z, z1, z2, fun B inj σ cnt f => ?_⟩
      obtain ⟨hr, hob⟩ := hZ B inj σ cnt f
      exact ⟨.tup hr.1 hr.2, hob⟩
  | .fn fn fs cs, i, t', j, u, v, b, ho, hx => by
    simp only [opn] at ho
    cases hf : opnL key i fs with
    | mk fs' p =>
      obtain ⟨j1, u1⟩ := p
      cases hc : opnL key j1 cs with
      | mk cs' q =>
        obtain ⟨j2, u2⟩ := q
        rw [hf] at ho
        simp only [hc, Prod.mk.injEq] at ho
        obtain ⟨rfl, rfl, rfl⟩ := ho
        obtain ⟨vf, vc, b1, b2, rfl, rfl, hx1, hx2⟩ := hx
        obtain ⟨hk1, Z1, z11, z12, hZ1⟩ := opnL_ok fs i fs' j1 u1 vf b1 hf hx1
        obtain ⟨hk2, Z2, z21, z22, hZ2⟩ := opnL_ok cs j1 cs' j2 u2 vc b2 hc hx2
        refine ⟨by have := hk1.append hk2; simpa using this, Z1 ++ Z2, by simp [z11, z21], by simp [z12, z22], fun B inj σ cnt f => ?_⟩
        obtain ⟨hr1, hob1⟩ := hZ1 B inj σ cnt f.left
        obtain ⟨hr2, hob2⟩ := hZ2 B inj σ cnt f.right
        exact ⟨.fn hr1.1 hr2.1 hr1.2 hr2.2, fun e he => (List.mem_append.1 he).elim (hob1 e) (hob2 e)⟩
  | .s x, i, t', j, u, v, b, ho, hx => by
    simp only [opn, Prod.mk.injEq] at ho
    obtain ⟨rfl, rfl, rfl⟩ := ho
    obtain ⟨rfl, hx⟩ := hx
    exact ⟨KP.nil _ _ _, opened_plain hx⟩
  | .ifc ty x, i, t', j, u, v, b, ho, hx => by
    simp only [opn, Prod.mk.injEq] at ho
    obtain ⟨rfl, rfl, rfl⟩ := ho
    obtain ⟨rfl, hx⟩ := hx
    exact ⟨KP.nil _ _ _, opened_plain hx⟩
  | .sl sz xs, i, t', j, u, v, b, ho, hx => by
    simp only [opn, Prod.mk.injEq] at ho
    obtain ⟨rfl, rfl, rfl⟩ := ho
    obtain ⟨rfl, hx⟩ := hx
    exact ⟨KP.nil _ _ _, opened_plain hx⟩
  | .ep cs, i, t', j, u, v, b, ho, hx => by
    simp only [opn, Prod.mk.injEq] at ho
    obtain ⟨rfl, rfl, rfl⟩ := ho
    obtain ⟨rfl, hx⟩ := hx
    exact ⟨KP.nil _ _ _, opened_plain hx⟩
  | .dead, i, t', j, u, v, b, ho, hx => by
    simp only [opn, Prod.mk.injEq] at ho
    obtain ⟨rfl, rfl, rfl⟩ := ho
    have hx : b = [] := hx
    subst hx
    exact ⟨KP.nil _ _ _, opened_plain .dead⟩
  | .own _, i, t', j, u, v, b, ho, hx => hx.elim
  | .ptr _ _, i, t', j, u, v, b, ho, hx => hx.elim
  | .eptr _ _ _ _, i, t', j, u, v, b, ho, hx => hx.elim
  | .it _, i, t', j, u, v, b, ho, hx => hx.elim
theorem opnL_ok : ∀ (cs : List T) (i : Nat) (cs' : List T) (j : Nat) (u : List (Loc × O)) (us : List Value) (b : List Nat), opnL key i cs = (cs', j, u) → RepXL w ok cs us b → KP key i j (u.map (·.1)) [] ∧ OpenedL w ok cs' us u b
  | [], i, cs', j, u, us, b, ho, hx => by
    simp only [opnL, Prod.mk.injEq] at ho
    obtain ⟨rfl, rfl, rfl⟩ := ho
    obtain ⟨rfl, rfl⟩ := hx
    exact ⟨KP.nil _ _ _, [], rfl, rfl, fun B inj σ cnt f => ⟨RepA.nil _, fun e he => by simp at he⟩⟩
  | x :: cs, i, cs', j, u, us, b, ho, hx => by
    simp only [opnL] at ho
    cases hf : opn key i x with
    | mk x' p =>
      obtain ⟨j1, u1⟩ := p
      cases hc : opnL key j1 cs with
      | mk cs1 q =>
        obtain ⟨j2, u2⟩ := q
        rw [hf] at ho
        simp only [hc, Prod.mk.injEq] at ho
        obtain ⟨rfl, rfl, rfl⟩ := ho
        obtain ⟨v, vs, b1, b2, rfl, rfl, hx1, hx2⟩ := hx
        obtain ⟨hk1, Z1, z11, z12, hZ1⟩ := opn_ok x i x' j1 u1 v b1 hf hx1
        obtain ⟨hk2, Z2, z21, z22, hZ2⟩ := opnL_ok cs j1 cs1 j2 u2 vs b2 hc hx2
        refine ⟨by have := hk1.append hk2; simpa using this, Z1 ++ Z2, by simp [z11, z21], by simp [z12, z22], fun B inj σ cnt f => ?_⟩
        obtain ⟨hr1, hob1⟩ := hZ1 B inj σ cnt f.left
        obtain ⟨hr2, hob2⟩ := hZ2 B inj σ cnt f.right
        exact ⟨hr2.cons hr1, fun e he => (List.mem_append.1 he).elim (hob1 e) (hob2 e)⟩
end
/-! ### What comes back -/
/-- The keys that come back. -/
def oldsC : List T → List Loc
  | [] => []
  | .ptr l _ :: r => l :: oldsC r
  | _ :: r => oldsC r
def oldsT (mv : Bool) : T → List Loc
  | .ptr l _ => [l]
  | .own l => if mv then [l] else []
  | .fn _ _ cs => oldsC cs
  | _ => []
def oldsL (mv : Bool) : List T → List Loc
  | [] => []
  | x :: r => oldsT mv x ++ oldsL mv r
theorem oldsC_sub {σ : Loc → Option O} {rec : List T → Option (List T × List Loc)} : ∀ (cs cs' : List T) (m : List Loc), clsTL σ rec cs = some (cs', m) → (oldsC cs).Sublist m
  | [], cs', m, h => by simp [oldsC]
  | x :: cs, cs', m, h => by
    unfold clsTL at h
    split at h
    · rename_i x' a r' b he1 he2
      injection h with h; injection h with e1 e2; subst e1; subst e2
      have ih := oldsC_sub cs r' b he2
      cases x with
      | ptr l off =>
        unfold clsT at he1
        split at he1
        · split at he1
          · split at he1
            · injection he1 with he1; injection he1 with f1 f2; subst f2
              simp only [oldsC, List.cons_append]
              exact List.Sublist.cons_cons _ (ih.trans (List.sublist_append_right _ _))
            · simp at he1
          · simp at he1
        · simp at he1
      | _ => exact ih.trans (List.sublist_append_right _ _)
    · simp at h
theorem oldsT_sub {σ : Loc → Option O} {mv : Bool} {t t' : T} {m r : List Loc} (h : argC σ mv t = some (t', m, r)) : (oldsT mv t).Sublist m := by
  cases t with
  | ptr l off =>
    simp only [argC, cls] at h
    unfold clsT at h
    split at h
    · rename_i t1 m1 he
      injection h with h; injection h with e1 e2; injection e2 with e2 e3; subst e2
      split at he
      · split at he
        · split at he
          · injection he with he; injection he with f1 f2; subst f2
            simp [oldsT]
          · simp at he
        · simp at he
      · simp at he
    · simp at h
  | own l =>
    simp only [argC, cls] at h
    cases mv with
    | false => simp [oldsT]
    | true =>
      simp only [if_true] at h
      unfold clsT at h
      split at h
      · rename_i t1 m1 he
        injection h with h; injection h with e1 e2; injection e2 with e2 e3; subst e2
        split at he
        · injection he with he; injection he with f1 f2; subst f2
          simp [oldsT]
        · simp at he
      · simp at h
  | fn f fs cs =>
    simp only [argC, cls] at h
    unfold clsT at h
    split at h
    · rename_i t1 m1 he
      injection h with h; injection h with e1 e2; injection e2 with e2 e3; subst e2
      split at he
      · rename_i fs' a cs' b he1 he2
        injection he with he; injection he with f1 f2; subst f2
        exact (oldsC_sub cs cs' b he2).trans (List.sublist_append_right _ _)
      · simp at he
    · simp at h
  | _ => simp [oldsT]
theorem oldsL_sub {σ : Loc → Option O} {mv : Bool} : ∀ (ts ts' : List T) (m r : List Loc), argCL σ mv ts = some (ts', m, r) → (oldsL mv ts).Sublist m
  | [], ts', m, r, h => by simp [oldsL]
  | x :: ts, ts', m, r, h => by
    unfold argCL at h
    split at h
    · rename_i x' m1 a1 r' m2 a2 he1 he2
      injection h with h; injection h with e1 e2; injection e2 with e2 e3; subst e2
      exact (oldsT_sub he1).append (oldsL_sub ts r' m2 a2 he2)
    · simp at h
/-- What came back: the old keys at their old blocks, the new ones somewhere among b. -/
def Backed (w0 w : World) (ok : Nat → Prop) (key : Nat → Loc) (inj0 : Loc → Nat) (σ0 : Loc → Option O) (m : List Loc) (i j : Nat) (u : List (Loc × O)) (b : List Nat) : Prop :=
  KP key i j (u.map (·.1)) m ∧ (∀ e ∈ u, e.1 ∈ m → (∀ n, e.1 ≠ key n) → ∀ e0 sz0 xs0, σ0 e.1 = some (.arr e0 sz0 xs0) → ∀ cells ty, w0.heap[inj0 e.1]? = some (.cells cells ty (0, 0)) → ∃ cells', w.heap[inj0 e.1]? = some (.cells cells' ty (0, 0)) ∧ cells'.size = cells.size) ∧
    ∃ Z : List (Loc × Nat), Z.map (·.1) = u.map (·.1) ∧ (Z.map (·.2)).Sublist b ∧ (∀ z ∈ Z, z.1 ∈ m → (∀ n, z.1 ≠ key n) → z.2 = inj0 z.1) ∧ ∀ (B : Base) (inj : Loc → Nat) (σ : Loc → Option O) (cnt : Nat → Nat), Fin B w ok inj σ cnt u Z → ObjsOk B w inj σ cnt u
theorem Backed.nil (w0 : World) (key : Nat → Loc) (inj0 : Loc → Nat) (σ0 : Loc → Option O) (m : List Loc) (i : Nat) (b : List Nat) : Backed w0 w ok key inj0 σ0 m i i [] b := ⟨KP.nil _ _ _, fun e he => by simp at he, [], rfl, List.nil_sublist _, fun z hz => by simp at hz, fun B inj σ cnt f e he => by simp at he⟩
theorem Backed.append {w0 : World} {inj0 : Loc → Nat} {σ0 : Loc → Option O} {m m' : List Loc} {i j k : Nat} {u u' : List (Loc × O)} {b b' : List Nat} (h : Backed w0 w ok key inj0 σ0 m i j u b) (g : Backed w0 w ok key inj0 σ0 m' j k u' b') : Backed w0 w ok key inj0 σ0 (m ++ m') i k (u ++ u') (b ++ b') := by
  obtain ⟨hk, hs, Z, z1, z2, z3, hZ⟩ := h
  obtain ⟨gk, gs, Y, y1, y2, y3, hY⟩ := g
  have hin : ∀ x, x ∈ u.map (·.1) → (∀ n, x ≠ key n) → x ∈ m := fun x hx hne => (hk.mem x hx).elim id (fun ⟨n, _, _, h1⟩ => absurd h1 (hne n))
  have gin : ∀ x, x ∈ u'.map (·.1) → (∀ n, x ≠ key n) → x ∈ m' := fun x hx hne => (gk.mem x hx).elim id (fun ⟨n, _, _, h1⟩ => absurd h1 (hne n))
  refine ⟨by have := hk.append gk; simpa using this, fun e he hm hne => ?_, Z ++ Y, by simp [z1, y1], by simpa using z2.append y2, fun z hz hm hne => ?_, fun B inj σ cnt f e he => (List.mem_append.1 he).elim (hZ B inj σ cnt f.left e) (hY B inj σ cnt f.right e)⟩
  · rcases List.mem_append.1 he with he | he
    · exact hs e he (hin _ (List.mem_map_of_mem he) hne) hne
    · exact gs e he (gin _ (List.mem_map_of_mem he) hne) hne
  · rcases List.mem_append.1 hz with hz | hz
    · exact z3 z hz (hin _ (by rw [← z1]; exact List.mem_map_of_mem hz) hne) hne
    · exact y3 z hz (gin _ (by rw [← y1]; exact List.mem_map_of_mem hz) hne) hne
theorem Backed.wider {w0 : World} {inj0 : Loc → Nat} {σ0 : Loc → Option O} {m : List Loc} {i j : Nat} {u : List (Loc × O)} {b b' : List Nat} (h : Backed w0 w ok key inj0 σ0 m i j u b) (hs : b.Sublist b') : Backed w0 w ok key inj0 σ0 m i j u b' := by
  obtain ⟨hk, hq, Z, z1, z2, z3, hZ⟩ := h
  exact ⟨hk, hq, Z, z1, z2.trans hs, z3, hZ⟩
section
variable {B0 : Base} {w0 : World} {inj0 : Loc → Nat} {σ0 : Loc → Option O} {cnt0 : Nat → Nat}
/-- A box that came back. -/
theorem back_box {l : Loc} {off : Nat} {ty : TypeId} {cs cs' : List T} {i j : Nat} {u : List (Loc × O)} {v : Value} {b : List Nat} (ho : opnL key i cs = (cs', j, u)) (hx : RepX w ok (.cbox ty cs) v b) (hp : (sctx B0 w0 inj0 σ0 cnt0).ptr l off v) (ha : σ0 l ≠ none) (hlk : ∀ o, σ0 l = some o → likeB o (.box ty cs') = true) :
    Backed w0 w ok key inj0 σ0 [l] i j ((l, .box ty cs') :: u) b := by
  obtain ⟨g, us, bs', rfl, rfl, hg, hxs, h1⟩ := hx
  obtain ⟨_, b0, hv, hb0⟩ := hp
  have hbx : ∃ ty0 cs0, σ0 l = some (.box ty0 cs0) := by
    cases hs : σ0 l with
    | none => exact absurd hs ha
    | some o =>
      have := hlk o hs
      cases o with
      | box ty0 cs0 => exact ⟨_, _, rfl⟩
      | arr => simp [likeB] at this
      | iter => simp [likeB] at this
  obtain ⟨ty0, cs0, hbx⟩ := hbx
  have hb := hb0 _ _ hbx
  have hgl : g = inj0 l := by
    injection hv with hv; injection hv with hv; injection hv with hv
    rw [hv, hb]
  obtain ⟨hk, Z, z1, z2, hZ⟩ := opnL_ok cs i cs' j u us bs' ho hxs
  refine ⟨hk.old l, fun e he hm hne e0 sz0 xs0 hs => ?_, (l, g) :: Z, by simp [z1], by simp [z2], fun z hz hm hne => ?_, fun B inj σ cnt f => ?_⟩
  · have : e.1 = l := List.mem_singleton.1 hm
    rw [this, hbx] at hs
    simp at hs
  · rcases List.mem_cons.1 hz with rfl | hz
    · exact hgl
    · have : z.1 ∈ u.map (·.1) := by rw [← z1]; exact List.mem_map_of_mem hz
      rcases hk.mem _ this with h1 | ⟨n, _, _, h1⟩
      · simp at h1
      · exact absurd h1 (hne n)
  · have hi : inj l = g := f.inj _ (List.mem_cons_self ..)
    have f' : Fin B w ok inj σ cnt u Z := ⟨fun z hz => f.inj z (List.mem_cons_of_mem _ hz), fun e he => f.obj e (List.mem_cons_of_mem _ he), f.ok⟩
    obtain ⟨hr, hob⟩ := hZ B inj σ cnt f'
    intro e he
    rcases List.mem_cons.1 he with rfl | he
    · exact ⟨us, by rw [hi]; exact hg, hr, h1⟩
    · exact hob e he
theorem backC_ok : ∀ (cs cs' : List T) (i j : Nat) (u : List (Loc × O)) (us : List Value) (b : List Nat), (∀ l ∈ oldsC cs, σ0 l ≠ none) → backC key i cs cs' = some (j, u) → (∀ e ∈ u, ∀ o, σ0 e.1 = some o → likeB o e.2 = true) → RepA (sctx B0 w0 inj0 σ0 cnt0) cs us → RepXL w ok cs' us b → Backed w0 w ok key inj0 σ0 (oldsC cs) i j u b := by
  intro cs
  induction cs with
  | nil =>
    intro cs' i j u us b hm hb hu hr hx
    cases cs' with
    | nil => simp [backC] at hb; obtain ⟨rfl, rfl⟩ := hb; exact Backed.nil _ _ _ _ _ _ _
    | cons => simp [backC] at hb
  | cons x r ih =>
    intro cs' i j u us b hm hb hu hr hx
    unfold backC at hb
    split at hb
    · rename_i e1; simp at e1
    · rename_i l off r0 ty cs1 r' e1
      injection e1 with e1 e2
      subst e1; subst e2
      cases hc : opnL key i cs1 with
      | mk cs2 q =>
        obtain ⟨j1, u1⟩ := q
        rw [hc] at hb
        simp only at hb
        cases hb2 : backC key j1 r r' with
        | none => rw [hb2] at hb; simp at hb
        | some q2 =>
          obtain ⟨k, u2⟩ := q2
          rw [hb2] at hb
          simp only [Option.some.injEq, Prod.mk.injEq] at hb
          obtain ⟨rfl, rfl⟩ := hb
          obtain ⟨v, vs, b1, b2, rfl, rfl, hx1, hx2⟩ := hx
          have hp : (sctx B0 w0 inj0 σ0 cnt0).ptr l off v := by have := hr.head; cases this; assumption
          exact Backed.append (m := [l]) (u := (l, .box ty cs2) :: u1) (back_box hc hx1 hp (hm l (List.mem_cons_self ..)) (fun o ho => hu (l, .box ty cs2) (List.mem_cons_self ..) o ho)) (ih r' j1 k u2 vs b2 (fun l' hl' => hm l' (List.mem_cons_of_mem _ hl')) hb2 (fun e he => hu e (List.mem_append_right _ he)) hr.tail hx2)
    · simp at hb
    · rename_i x0 r0 y0 r' hov hne e1
      injection e1 with e1 e2
      subst e1; subst e2
      obtain ⟨v, vs, b1, b2, rfl, rfl, hx1, hx2⟩ := hx
      have ho : oldsC (x :: r) = oldsC r := by cases x <;> first | rfl | exact absurd rfl (hne _ _)
      rw [ho] at hm ⊢
      exact (ih r' i j u vs b2 hm hb hu hr.tail hx2).wider (List.sublist_append_right _ _)
    · simp at hb
theorem backT_ok {mv : Bool} {x y : T} {i j : Nat} {u : List (Loc × O)} {v : Value} {b : List Nat} (hm : ∀ l ∈ oldsT mv x, σ0 l ≠ none) (hb : backT key mv i x y = some (j, u)) (hu : ∀ e ∈ u, ∀ o, σ0 e.1 = some o → likeB o e.2 = true) (hr : Rep (sctx B0 w0 inj0 σ0 cnt0) x v) (hx : RepX w ok y v b) : Backed w0 w ok key inj0 σ0 (oldsT mv x) i j u b := by
  unfold backT at hb
  split at hb
  · rename_i l off ty cs
    cases hc : opnL key i cs with
    | mk cs2 q =>
      obtain ⟨j1, u1⟩ := q
      rw [hc] at hb
      simp only [Option.some.injEq, Prod.mk.injEq] at hb
      obtain ⟨rfl, rfl⟩ := hb
      have hp : (sctx B0 w0 inj0 σ0 cnt0).ptr l off v := by cases hr; assumption
      exact back_box hc hx hp (hm l (List.mem_singleton.2 rfl)) (fun o ho => hu (l, .box ty cs2) (List.mem_cons_self ..) o ho)
  · rename_i l e sz xs
    split at hb
    · rename_i hc
      subst hc
      injection hb with hb; injection hb with e1 e2; subst e1; subst e2
      have hp : (sctx B0 w0 inj0 σ0 cnt0).own l v := by cases hr; assumption
      obtain ⟨g, c, cells, rfl, rfl, hz, hg, hcs, hn, hmx, hrow⟩ := hx
      obtain ⟨_, b0, n0, c0, hv, hnc, hb0⟩ := hp
      have hbx : ∃ xs0, σ0 l = some (.arr e sz xs0) := by
        cases hs : σ0 l with
        | none => exact absurd hs (hm l (by simp [oldsT]))
        | some o =>
          have := hu _ (List.mem_singleton.2 rfl) o hs
          cases o with
          | box => simp [likeB] at this
          | arr e0 sz0 xs0 =>
            simp only [likeB, Bool.and_eq_true, decide_eq_true_eq] at this
            obtain ⟨⟨rfl, rfl⟩, _⟩ := this
            exact ⟨xs0, rfl⟩
          | iter => simp [likeB] at this
      obtain ⟨xs0, hbx⟩ := hbx
      obtain ⟨_, hb1, cells0, hb2, hb3⟩ := hb0 _ _ _ hbx
      injection hv with hv1 _ hv2
      injection hv1 with hv1; injection hv1 with hv1
      subst hv2
      have hgl : g = inj0 l := by rw [hv1, hb1]
      refine ⟨by simpa [oldsT] using (KP.nil key i []).old l, fun e' he' hm' hne e0 sz0 xs1 hs cells1 ty hc1 => ?_, [(l, g)], rfl, List.Sublist.refl _, fun z hz _ _ => by rw [List.mem_singleton.1 hz]; exact hgl, fun B inj σ cnt f e he => ?_⟩
      · rw [List.mem_singleton.1 he'] at hc1 hs ⊢
        simp only at hc1 hs ⊢
        rw [hb2] at hc1
        injection hc1 with hc1; injection hc1 with hc1 hc2 _
        subst hc1; subst hc2
        exact ⟨cells, by rw [← hgl]; exact hg, by rw [hcs, hb3]⟩
      · have hi : inj l = g := f.inj _ (List.mem_singleton.2 rfl)
        rw [List.mem_singleton.1 he]
        exact ⟨hz, cells, c, by rw [hi]; exact hg, hcs, hn, hmx, hrow.mono (cctx_le rfl f.ok) (fun _ _ h => h)⟩
    · simp at hb
  · rename_i f fs cs f' fs' cs'
    obtain ⟨vf, vc, b1, b2, rfl, rfl, hx1, hx2⟩ := hx
    obtain ⟨vf', vc', hv, hr1, hr2⟩ := hr.fn_parts
    injection hv with hv1 hv2 hv3
    have e2 : vc = vc' := by simpa using hv3
    subst e2
    exact (backC_ok cs cs' i j u vc b2 hm hb hu hr2 hx2).wider (List.sublist_append_right _ _)
  · injection hb with hb; injection hb with e1 e2; subst e1; subst e2
    exact Backed.nil _ _ _ _ _ _ _
theorem backL_ok {mv : Bool} : ∀ (xs ys : List T) (i j : Nat) (u : List (Loc × O)) (vs : List Value) (b : List Nat), (∀ l ∈ oldsL mv xs, σ0 l ≠ none) → backL key mv i xs ys = some (j, u) → (∀ e ∈ u, ∀ o, σ0 e.1 = some o → likeB o e.2 = true) → RepA (sctx B0 w0 inj0 σ0 cnt0) xs vs → RepXL w ok ys vs b → Backed w0 w ok key inj0 σ0 (oldsL mv xs) i j u b
  | [], [], i, j, u, vs, b, hm, hb, hu, hr, hx => by simp [backL] at hb; obtain ⟨rfl, rfl⟩ := hb; exact Backed.nil _ _ _ _ _ _ _
  | [], _ :: _, i, j, u, vs, b, hm, hb, hu, hr, hx => by simp [backL] at hb
  | _ :: _, [], i, j, u, vs, b, hm, hb, hu, hr, hx => by simp [backL] at hb
  | x :: xs, y :: ys, i, j, u, vs, b, hm, hb, hu, hr, hx => by
    unfold backL at hb
    split at hb
    · rename_i j1 u1 he1
      split at hb
      · rename_i k u2 he2
        injection hb with hb; injection hb with e1 e2; subst e1; subst e2
        obtain ⟨v, vs', b1, b2, rfl, rfl, hx1, hx2⟩ := hx
        exact Backed.append (backT_ok (fun l hl => hm l (List.mem_append_left _ hl)) he1 (fun e he => hu e (List.mem_append_left _ he)) hr.head hx1)
          (backL_ok xs ys j1 k u2 vs' b2 (fun l hl => hm l (List.mem_append_right _ hl)) he2 (fun e he => hu e (List.mem_append_right _ he)) hr.tail hx2)
      · simp at hb
    · simp at hb
end
end
end Go.Proofs.YtfknpnkdedckhaaGreatDoorT

/- The interpreter over trees: a call. -/
namespace Go.Proofs.YtfknpnkdedckhaaGreatDoorT
open Go Go.RowKit
set_option linter.unusedVariables false

/-- What may be read behind a call. -/
def okOut (w w' : World) (ok : Nat → Prop) (bs bb : List Nat) (k : Nat) : Prop := (ok k ∨ k ∈ bs ∨ w.heap.size ≤ k) ∧ k < w'.heap.size ∧ k ∉ bb
/-- What a function does, at closed arguments: its closed result, and what becomes of what was handed over. -/
def Contract (P : Program) (f : FuncId) (cargs : List T) (res : T) (outs : List T) : Prop :=
  ∀ (w : World) (ok : Nat → Prop) (vals : List Value) (bs : List Nat), RepXL w ok cargs vals bs → bs.Nodup → (∀ k ∈ bs, k < w.heap.size ∧ ¬ ok k) → (∀ k, ok k → k < w.heap.size) → Glob w ok →
    Calls P f vals.toArray w (fun e w' => ∃ (v : Value) (b1 b2 : List Nat), e = .returned v ∧ (b1 ++ b2).Nodup ∧ (∀ k ∈ b1 ++ b2, (k ∈ bs ∨ w.heap.size ≤ k) ∧ k < w'.heap.size) ∧ Fr (· ∈ bs) w w' ∧
      RepX w' (okOut w w' ok bs (b1 ++ b2)) res v b1 ∧ RepXL w' (okOut w w' ok bs (b1 ++ b2)) outs vals b2)

section
variable {P : Program} {B : Base} {w : World} {inj : Loc → Nat} {σ : Loc → Option O} {cnt : Nat → Nat}
theorem nodupL_ok : ∀ {m : List Loc}, nodupL m = true → m.Nodup
  | [], _ => .nil
  | l :: r, h => by
    simp only [nodupL, Bool.and_eq_true, Bool.not_eq_true', List.contains_eq_mem, decide_eq_false_iff_not] at h
    exact List.nodup_cons.2 ⟨h.1, nodupL_ok h.2⟩
theorem kblks_nodup (h : SR B w inj σ cnt) : ∀ {m : List Loc}, m.Nodup → (∀ l ∈ m, σ l ≠ none) → (kblks inj m).Nodup
  | [], _, _ => .nil
  | l :: r, hn, ha => by
    obtain ⟨h1, h2⟩ := List.nodup_cons.1 hn
    refine List.nodup_cons.2 ⟨fun hi => ?_, kblks_nodup h h2 (fun x hx => ha x (List.mem_cons_of_mem _ hx))⟩
    obtain ⟨l', hl', he⟩ := List.mem_map.1 hi
    have a1 := ha l (List.mem_cons_self ..)
    have a2 := ha l' (List.mem_cons_of_mem _ hl')
    cases e1 : σ l with
    | none => exact a1 e1
    | some o =>
      cases e2 : σ l' with
      | none => exact a2 e2
      | some o' =>
        have := h.uniq l' l o' o e2 e1 he
        subst this
        exact h1 hl'
theorem updL_not {l : Loc} : ∀ {u : List (Loc × Option O)} {σ : Loc → Option O}, l ∉ u.map (·.1) → updL σ u l = σ l
  | [], σ, _ => rfl
  | e :: r, σ, h => by
    simp only [List.map_cons, List.mem_cons, not_or] at h
    show updL _ r l = _
    rw [updL_not h.2, if_neg h.1]
theorem updL_in : ∀ {u : List (Loc × Option O)} {σ : Loc → Option O} {e : Loc × Option O}, (u.map (·.1)).Nodup → e ∈ u → updL σ u e.1 = e.2
  | [], σ, e, _, h => by simp at h
  | x :: r, σ, e, hn, h => by
    simp only [List.map_cons, List.nodup_cons] at hn
    show updL _ r e.1 = _
    rcases List.mem_cons.1 h with rfl | h
    · rw [updL_not hn.1, if_pos rfl]
    · exact updL_in hn.2 h
/-- Blocks for some keys. -/
def asg (f : Loc → Nat) : List (Loc × Nat) → Loc → Nat
  | [] => f
  | z :: r => fun l => if l = z.1 then z.2 else asg f r l
theorem asg_in {f : Loc → Nat} : ∀ {Z : List (Loc × Nat)} {z : Loc × Nat}, (Z.map (·.1)).Nodup → z ∈ Z → asg f Z z.1 = z.2
  | [], z, _, h => by simp at h
  | x :: r, z, hn, h => by
    simp only [List.map_cons, List.nodup_cons] at hn
    rcases List.mem_cons.1 h with rfl | h
    · simp [asg]
    · have : z.1 ≠ x.1 := fun e => hn.1 (by rw [← e]; exact List.mem_map_of_mem h)
      simp only [asg, if_neg this]
      exact asg_in hn.2 h
theorem asg_not {f : Loc → Nat} {l : Loc} : ∀ {Z : List (Loc × Nat)}, l ∉ Z.map (·.1) → asg f Z l = f l
  | [], _ => rfl
  | x :: r, h => by
    simp only [List.map_cons, List.mem_cons, not_or] at h
    simp only [asg, if_neg h.1]
    exact asg_not h.2
theorem snd_uniq : ∀ {Z : List (Loc × Nat)}, (Z.map (·.2)).Nodup → ∀ {y z : Loc × Nat}, y ∈ Z → z ∈ Z → y.2 = z.2 → y = z
  | [], _, y, z, hy, _, _ => by simp at hy
  | x :: r, hn, y, z, hy, hz, he => by
    simp only [List.map_cons, List.nodup_cons] at hn
    rcases List.mem_cons.1 hy with h1 | h1 <;> rcases List.mem_cons.1 hz with h2 | h2
    · rw [h1, h2]
    · exact absurd (by rw [← h1, he]; exact List.mem_map_of_mem h2) hn.1
    · exact absurd (by rw [← h2, ← he]; exact List.mem_map_of_mem h1) hn.1
    · exact snd_uniq hn.2 h1 h2 he
theorem likeB_ok {o o' : O} (h : likeB o o' = true) : o.like o' := by
  cases o <;> cases o' <;> simp [likeB] at h <;> simp [O.like, h]
mutual
theorem noRo_ok {C : Ctx} {ok : Nat → Prop} : ∀ (t : T) (v : Value) (b : List Nat), noRo t = true → RepX w ok t v b → Rep C t v
  | .s u, v, b, h, hx => by obtain ⟨_, hx⟩ := hx; cases hx; exact .s (by assumption)
  | .agg cs, v, b, h, hx => by
    obtain ⟨vs, rfl, hx, h1⟩ := hx
    have := noRoL_ok (C := C) cs vs b h hx
    exact .agg this.1 this.2 h1
  | .tup cs, v, b, h, hx => by
    obtain ⟨vs, rfl, hx⟩ := hx
    have := noRoL_ok (C := C) cs vs b h hx
    exact .tup this.1 this.2
  | .ifc _ _, v, b, h, hx => by simp [noRo] at h
  | .sl _ _, v, b, h, hx => by simp [noRo] at h
  | .own _, v, b, h, hx => by simp [noRo] at h
  | .ptr _ _, v, b, h, hx => by simp [noRo] at h
  | .ep _, v, b, h, hx => by simp [noRo] at h
  | .eptr _ _ _ _, v, b, h, hx => by simp [noRo] at h
  | .fn _ _ _, v, b, h, hx => by simp [noRo] at h
  | .it _, v, b, h, hx => by simp [noRo] at h
  | .cown _ _ _, v, b, h, hx => by simp [noRo] at h
  | .cbox _ _, v, b, h, hx => by simp [noRo] at h
  | .dead, v, b, h, hx => by simp [noRo] at h
theorem noRoL_ok {C : Ctx} {ok : Nat → Prop} : ∀ (ts : List T) (vs : List Value) (b : List Nat), noRoL ts = true → RepXL w ok ts vs b → RepA C ts vs
  | [], vs, b, h, hx => by obtain ⟨rfl, _⟩ := hx; exact RepA.nil _
  | x :: ts, vs, b, h, hx => by
    obtain ⟨v, vs', b1, b2, rfl, rfl, h1, h2⟩ := hx
    simp only [noRoL, Bool.and_eq_true] at h
    exact (noRoL_ok ts vs' b2 h.2 h2).cons (noRo_ok x v b1 h.1 h1)
end
mutual
theorem noRo_opn {key : Nat → Loc} : ∀ (t : T) (i : Nat), noRo t = true → opn key i t = (t, i, [])
  | .s u, i, h => rfl
  | .agg cs, i, h => by simp only [opn, noRoL_opn cs i h]
  | .tup cs, i, h => by simp only [opn, noRoL_opn cs i h]
  | .ifc _ _, i, h => rfl
  | .sl _ _, i, h => rfl
  | .own _, i, h => rfl
  | .ptr _ _, i, h => rfl
  | .ep _, i, h => rfl
  | .eptr _ _ _ _, i, h => rfl
  | .fn _ _ _, i, h => by simp [noRo] at h
  | .it _, i, h => rfl
  | .cown _ _ _, i, h => by simp [noRo] at h
  | .cbox _ _, i, h => by simp [noRo] at h
  | .dead, i, h => rfl
theorem noRoL_opn {key : Nat → Loc} : ∀ (ts : List T) (i : Nat), noRoL ts = true → opnL key i ts = (ts, i, [])
  | [], i, h => rfl
  | x :: ts, i, h => by
    simp only [noRoL, Bool.and_eq_true] at h
    simp only [opnL, noRo_opn x i h.1, noRoL_opn ts i h.2, List.append_nil]
end
theorem ckey_inj (site : Nat) (cnt : Nat → Nat) (a b : Nat) (h : ckey site cnt a = ckey site cnt b) : a = b := by
  have := congrArg Prod.fst h
  simp only [ckey] at this
  omega
/-- A call. -/
theorem call_ok {call : FuncId → List T → Option (T × List T)} (hC : ∀ g cargs res outs, call g cargs = some (res, outs) → Contract P g cargs res outs) {S : St} (h : SR B w inj S.σ S.cnt) (hG : Glob w (sctx B w inj S.σ S.cnt).ok)
    {args : List T} {vals : List Value} (ha : RepA (sctx B w inj S.σ S.cnt) args vals) {mv : FuncId → Bool} {site : Nat} {f : FuncId} {d : Dl} (hd : evCall S call mv site f args = some d) :
    Calls P f vals.toArray w (fun e w' => ∃ v, e = .returned v ∧ Stp B w inj S.σ S.cnt d v w') := by
  unfold evCall at hd
  split at hd
  · rename_i cargs m r harg
    split at hd
    · rename_i hnd
      simp only [Bool.and_eq_true, List.all_eq_true, Bool.not_eq_true', List.contains_eq_mem, decide_eq_false_iff_not] at hnd
      obtain ⟨hnd, hrm⟩ := hnd
      have hmn := nodupL_ok hnd
      split at hd
      · rename_i res outs hcall
        split at hd
        · rename_i j u hback
          cases hop : opn (ckey site S.cnt) j res with
          | mk res' q =>
          obtain ⟨k, u'⟩ := q
          rw [hop] at hd
          simp only at hd
          split at hd
          · rename_i hchk
            simp only [Bool.and_eq_true, decide_eq_true_eq, List.all_eq_true] at hchk
            obtain ⟨hk62, hlike⟩ := hchk
            injection hd with hd
            -- the contract
            have hargs := argCL_ok (ok := fun k => (sctx B w inj S.σ S.cnt).ok k ∨ blks inj r k) h (fun k hk => .inl hk) args cargs m r vals (fun k hk => .inr hk) harg ha
            obtain ⟨hxl, hma, hra⟩ := hargs
            have halive : ∀ l, S.σ l ≠ none → ∃ o, S.σ l = some o := fun l hl => by
              cases hs : S.σ l with
              | none => exact absurd hs hl
              | some o => exact ⟨o, rfl⟩
            have hbs := kblks_nodup h hmn hma
            have hbk : ∀ k ∈ kblks inj m, k < w.heap.size ∧ ¬ ((sctx B w inj S.σ S.cnt).ok k ∨ blks inj r k) := by
              intro k hk
              obtain ⟨l, hl, rfl⟩ := List.mem_map.1 hk
              obtain ⟨o, ho⟩ := halive l (hma l hl)
              refine ⟨h.lt l o ho, ?_⟩
              rintro (⟨_, _, h3⟩ | ⟨l', hl', he⟩)
              · exact h3 ⟨l, o, ho, rfl⟩
              · obtain ⟨o', ho'⟩ := halive l' (hra l' hl')
                have := h.uniq l' l o' o ho' ho he
                subst this
                exact hrm l' hl' hl
            refine (hC f cargs res outs hcall w _ vals _ hxl hbs hbk ?_ (hG.mono fun k hk => ⟨.inl hk, rfl⟩)).mono ?_
            · rintro k (⟨_, h2, _⟩ | ⟨l, hl, rfl⟩)
              · exact h2
              · obtain ⟨o, ho⟩ := halive l (hra l hl)
                exact h.lt l o ho
            rintro e w' ⟨v, b1, b2, rfl, hbb, hbin, hfr, hres, houts⟩
            refine ⟨v, rfl, ?_⟩
            have hcnt : ∀ s, S.cnt s ≤ (if ((List.range k).map (site + 1 + ·)).contains s then S.cnt s + 1 else S.cnt s) := by intro s; split <;> omega
            have hfro : Fr (owned S.σ inj) w w' := hfr.mono (fun i hi => by
              obtain ⟨l, hl, rfl⟩ := List.mem_map.1 hi
              obtain ⟨o, ho⟩ := halive l (hma l hl)
              exact ⟨l, o, ho, rfl⟩)
            by_cases hkeep : r ≠ [] ∧ (r.isEmpty || (noRo res && m.isEmpty && u.isEmpty)) = true
            · -- what was frozen is the call's own again
              obtain ⟨hr0, hkp⟩ := hkeep
              have hrf : r.isEmpty = false := by cases r with | nil => exact absurd rfl hr0 | cons => rfl
              rw [hkp] at hd
              simp only [hrf, Bool.false_or, Bool.and_eq_true, List.isEmpty_iff] at hkp
              obtain ⟨⟨hno, rfl⟩, rfl⟩ := hkp
              rw [noRo_opn res j hno] at hop
              simp only [Prod.mk.injEq] at hop
              obtain ⟨rfl, rfl, rfl⟩ := hop
              subst hd
              have hsame : ∀ l o, S.σ l = some o → w'.heap[inj l]? = w.heap[inj l]? := fun l o ho => hfr.block _ (h.lt l o ho) (by simp [kblks])
              have le := next_le (B := B) (inj' := inj) (σ' := S.σ) hfro hcnt (fun l o' hl => .inl ⟨l, o', hl, rfl⟩) (fun l o' _ hl => ⟨o', hl, rfl, O.like_refl _, fun _ _ _ _ cells e hc => ⟨cells, by rw [hsame l o' hl]; exact hc, rfl⟩⟩)
              refine ⟨inj, ?_, ?_, noRo_ok res v b1 hno hres⟩
              · exact h.next hfro hcnt (fun l o' hl => .inl ⟨l, o', hl, rfl⟩) (fun l o' hl => Nat.lt_of_lt_of_le (h.lt l o' hl) hfr.size) h.uniq (fun l o' hl => Nat.lt_of_lt_of_le (h.fresh l o' hl) (hcnt _)) (fun l o' hl => (h.obj l o' hl).mono le (hsame l o' hl))
              · exact le
            · -- all that was read or moved is given up
              have hM : ∃ M : List Loc, d = ⟨res', killL M ++ (u ++ u').map (fun e => (e.1, some e.2)), (List.range k).map (site + 1 + ·), m ++ r ++ u.map (·.1)⟩ ∧ (∀ l ∈ m, l ∈ M) ∧ (∀ l ∈ r, l ∈ M) := by
                refine ⟨_, hd.symm, fun l hl => List.mem_append_left _ hl, fun l hl => ?_⟩
                cases r with
                | nil => simp at hl
                | cons x r =>
                  have : ((x :: r).isEmpty || (noRo res && m.isEmpty && u.isEmpty)) = false := by
                    cases hq : ((x :: r).isEmpty || (noRo res && m.isEmpty && u.isEmpty)) with
                    | false => rfl
                    | true => exact absurd ⟨by simp, hq⟩ hkeep
                  rw [this]
                  exact List.mem_append_right _ hl
              obtain ⟨M, rfl, hmM, hrM⟩ := hM
              have holds := oldsL_sub args cargs m r harg
              have hold_m : ∀ l ∈ oldsL (mv f) args, l ∈ m := fun l hl => holds.subset hl
              have hlikeO : ∀ e ∈ u, ∀ o, S.σ e.1 = some o → likeB o e.2 = true := fun e he o ho => by
                have := hlike e he
                rw [ho] at this
                exact this
              obtain ⟨hkp, hshape, Zb, zb1, zb2, zb3, hZb⟩ := backL_ok (w := w') (key := ckey site S.cnt) args outs 0 j u vals b2 (fun l hl => hma l (hold_m l hl)) hback hlikeO ha houts
              obtain ⟨hkp', Z1, z11, z12, hZ1⟩ := opn_ok (w := w') (key := ckey site S.cnt) res j res' k u' v b1 hop hres
              have hKP := hkp.append hkp'
              have hkne : ∀ l, S.σ l ≠ none → ∀ n, l ≠ ckey site S.cnt n := by
                rintro l hl n rfl
                obtain ⟨o, ho⟩ := halive _ hl
                have := h.fresh _ _ ho
                simp [ckey] at this
              have hks : ((u ++ u').map (·.1)).Nodup := by
                rw [List.map_append]
                refine hKP.nd (ckey_inj site S.cnt) (by rw [List.append_nil]; exact hmn.sublist holds) (fun l hl => hkne l (hma l (hold_m l (by simpa using hl))))
              have hZk : (Zb ++ Z1).map (·.1) = (u ++ u').map (·.1) := by simp [zb1, z11]
              have hZs : ((Zb ++ Z1).map (·.2)).Nodup := by
                have h1 : ((Zb ++ Z1).map (·.2)).Sublist (b2 ++ b1) := by rw [List.map_append, z12]; exact zb2.append (List.Sublist.refl _)
                refine List.Nodup.sublist h1 ?_
                exact (List.perm_append_comm.nodup_iff).1 hbb
              have hZin : ∀ z ∈ Zb ++ Z1, z.2 ∈ b1 ++ b2 := by
                intro z hz
                rcases List.mem_append.1 hz with hz | hz
                · exact List.mem_append_right _ (zb2.subset (List.mem_map_of_mem hz))
                · exact List.mem_append_left _ (by rw [← z12]; exact List.mem_map_of_mem hz)
              generalize hinj' : asg inj (Zb ++ Z1) = inj'
              have hin : ∀ z ∈ Zb ++ Z1, inj' z.1 = z.2 := fun z hz => by rw [← hinj']; exact asg_in (by rw [hZk]; exact hks) hz
              have hout : ∀ l, l ∉ (u ++ u').map (·.1) → inj' l = inj l := fun l hl => by rw [← hinj']; exact asg_not (by rw [hZk]; exact hl)
              have hkeyz : ∀ l ∈ (u ++ u').map (·.1), ∃ z ∈ Zb ++ Z1, z.1 = l := fun l hl => by
                rw [← hZk] at hl
                obtain ⟨z, hz, he⟩ := List.mem_map.1 hl
                exact ⟨z, hz, he⟩
              generalize hcnt' : (fun s => if ((List.range k).map (site + 1 + ·)).contains s then S.cnt s + 1 else S.cnt s) = cnt' at hcnt ⊢
              have hcnt : ∀ s, S.cnt s ≤ cnt' s := fun s => by rw [← hcnt']; exact hcnt s
              generalize hσ' : updL S.σ (killL M ++ (u ++ u').map (fun e => (e.1, some e.2))) = σ'
              have hmm : ((u ++ u').map (fun e => (e.1, some e.2))).map (·.1) = (u ++ u').map (·.1) := by simp [List.map_map, Function.comp_def]
              have hσin : ∀ e ∈ u ++ u', σ' e.1 = some e.2 := fun e he => by
                rw [← hσ', updL_append]
                exact updL_in (e := (e.1, some e.2)) (by rw [hmm]; exact hks) (List.mem_map_of_mem (f := fun e : Loc × O => (e.1, some e.2)) he)
              have hσout : ∀ l o, l ∉ (u ++ u').map (·.1) → σ' l = some o → l ∉ M ∧ S.σ l = some o := fun l o hl ho => by
                rw [← hσ', updL_append, updL_not (by rw [hmm]; exact hl)] at ho
                exact kill_some ho
              have hcase : ∀ l o, σ' l = some o → (∃ e ∈ u ++ u', e.1 = l ∧ e.2 = o ∧ ∃ z ∈ Zb ++ Z1, z.1 = l ∧ inj' l = z.2) ∨ (l ∉ (u ++ u').map (·.1) ∧ l ∉ M ∧ S.σ l = some o ∧ inj' l = inj l) := by
                intro l o ho
                by_cases hl : l ∈ (u ++ u').map (·.1)
                · left
                  obtain ⟨e, he, rfl⟩ := List.mem_map.1 hl
                  obtain ⟨z, hz, hze⟩ := hkeyz _ hl
                  have := hσin e he
                  rw [ho] at this
                  injection this with this
                  exact ⟨e, he, rfl, this.symm, z, hz, hze, by rw [← hze]; exact hin z hz⟩
                · right
                  obtain ⟨h1, h2⟩ := hσout l o hl ho
                  exact ⟨hl, h1, h2, hout l hl⟩
              have hnotin : ∀ l o, l ∉ M → S.σ l = some o → inj l ∉ kblks inj m := by
                intro l o hlM ho hi
                obtain ⟨l', hl', he⟩ := List.mem_map.1 hi
                obtain ⟨o', ho'⟩ := halive l' (hma l' hl')
                have := h.uniq l' l o' o ho' ho he
                subst this
                exact hlM (hmM l' hl')
              have hsame : ∀ l o, l ∉ M → S.σ l = some o → w'.heap[inj l]? = w.heap[inj l]? := fun l o hlM ho => hfr.block _ (h.lt l o ho) (hnotin l o hlM ho)
              have hokN : ∀ k, okOut w w' (fun k => (sctx B w inj S.σ S.cnt).ok k ∨ blks inj r k) (kblks inj m) (b1 ++ b2) k → (sctx B w' inj' σ' cnt').ok k := by
                rintro k0 ⟨hk1, hk2, hk3⟩
                have hkb : B.okb k0 ∧ ∀ l o, l ∉ M → S.σ l = some o → inj l ≠ k0 := by
                  rcases hk1 with (⟨g1, g2, g3⟩ | ⟨l, hl, rfl⟩) | hk1 | hk1
                  · exact ⟨g1, fun l o _ ho he => g3 ⟨l, o, ho, he⟩⟩
                  · obtain ⟨o, ho⟩ := halive l (hra l hl)
                    refine ⟨(h.mine l o ho).elim (fun x => .inr (.inl x)) (fun x => .inr (.inr x)), fun l' o' hlM ho' he => ?_⟩
                    have := h.uniq l' l o' o ho' ho he
                    subst this
                    exact hlM (hrM l' hl)
                  · obtain ⟨l, hl, rfl⟩ := List.mem_map.1 hk1
                    obtain ⟨o, ho⟩ := halive l (hma l hl)
                    refine ⟨(h.mine l o ho).elim (fun x => .inr (.inl x)) (fun x => .inr (.inr x)), fun l' o' hlM ho' he => ?_⟩
                    have := h.uniq l' l o' o ho' ho he
                    subst this
                    exact hlM (hmM l' hl)
                  · exact ⟨.inr (.inr (Nat.le_trans h.fr.size hk1)), fun l o _ ho he => by have := h.lt l o ho; omega⟩
                refine ⟨hkb.1, hk2, ?_⟩
                rintro ⟨l, o, ho, he⟩
                rcases hcase l o ho with ⟨_, _, _, _, z, hz, _, hiz⟩ | ⟨_, hlM, hs, hi⟩
                · exact hk3 (by rw [← he, hiz]; exact hZin z hz)
                · exact hkb.2 l o hlM hs (by rw [← hi]; exact he)
              have hfresh' : ∀ e ∈ u ++ u', e.1.2 < cnt' e.1.1 := by
                intro e he
                have : e.1 ∈ u.map (·.1) ++ u'.map (·.1) := by rw [← List.map_append]; exact List.mem_map_of_mem he
                rcases hKP.mem _ this with hm' | ⟨n, _, hn, hk'⟩
                · obtain ⟨o, ho⟩ := halive e.1 (hma _ (hold_m _ (by simpa using hm')))
                  exact Nat.lt_of_lt_of_le (h.fresh _ _ ho) (hcnt _)
                · rw [hk', ← hcnt']
                  have hin : ((List.range k).map (site + 1 + ·)).contains (ckey site S.cnt n).1 = true := by
                    simp only [List.contains_eq_mem, decide_eq_true_eq, List.mem_map, List.mem_range]
                    exact ⟨n, hn, rfl⟩
                  show (ckey site S.cnt n).2 < if ((List.range k).map (site + 1 + ·)).contains (ckey site S.cnt n).1 = true then _ else _
                  rw [if_pos hin]
                  exact Nat.lt_succ_self _
              have hFin : Fin B w' (okOut w w' (fun k => (sctx B w inj S.σ S.cnt).ok k ∨ blks inj r k) (kblks inj m) (b1 ++ b2)) inj' σ' cnt' (u ++ u') (Zb ++ Z1) := ⟨hin, fun e he => ⟨hσin e he, hfresh' e he⟩, hokN⟩
              have hobU := hZb B inj' σ' cnt' hFin.left
              obtain ⟨hrep', hobU'⟩ := hZ1 B inj' σ' cnt' hFin.right
              have hob : ∀ e ∈ u ++ u', RepO (sctx B w' inj' σ' cnt') (inj' e.1) e.2 := fun e he => (List.mem_append.1 he).elim (hobU e) (hobU' e)
              have hnew : ∀ l o', σ' l = some o' → owned S.σ inj (inj' l) ∨ w.heap.size ≤ inj' l := by
                intro l o' ho
                rcases hcase l o' ho with ⟨_, _, _, _, z, hz, _, hiz⟩ | ⟨_, hlM, hs, hi⟩
                · rw [hiz]
                  rcases (hbin z.2 (hZin z hz)).1 with hb | hb
                  · obtain ⟨l', hl', he⟩ := List.mem_map.1 hb
                    obtain ⟨o2, ho2⟩ := halive l' (hma l' hl')
                    exact .inl ⟨l', o2, ho2, he⟩
                  · exact .inr hb
                · rw [hi]; exact .inl ⟨l, o', hs, rfl⟩
              have le : (sctx B w inj S.σ S.cnt).le (sctx B w' inj' σ' cnt') := next_le hfro hcnt hnew (by
                intro l o' hlt ho
                rcases hcase l o' ho with ⟨e, he, rfl, rfl, z, hz, hze, hiz⟩ | ⟨_, hlM, hs, hi⟩
                · have hne : ∀ n, e.1 ≠ ckey site S.cnt n := by
                    intro n hn
                    rw [hn] at hlt
                    simp [ckey] at hlt
                  have heu : e ∈ u := by
                    rcases List.mem_append.1 he with he | he
                    · exact he
                    · rcases hkp'.mem _ (List.mem_map_of_mem he) with hx | ⟨n, _, _, hx⟩
                      · simp at hx
                      · exact absurd hx (hne n)
                  have hold : e.1 ∈ oldsL (mv f) args := (hkp.mem _ (List.mem_map_of_mem heu)).elim id (fun ⟨n, _, _, hx⟩ => absurd hx (hne n))
                  obtain ⟨o, ho0⟩ := halive e.1 (hma _ (hold_m _ hold))
                  have hzb : z ∈ Zb := by
                    rcases List.mem_append.1 hz with hz | hz
                    · exact hz
                    · have : z.1 ∈ u'.map (·.1) := by rw [← z11]; exact List.mem_map_of_mem hz
                      rcases hkp'.mem _ this with hx | ⟨n, _, _, hx⟩
                      · simp at hx
                      · exact absurd (hze.symm.trans hx) (hne n)
                  have hzi := zb3 z hzb (by rw [hze]; exact hold) (by rw [hze]; exact hne)
                  refine ⟨o, ho0, by rw [hiz, hzi, hze], likeB_ok (hlikeO e heu o ho0), fun e0 sz0 xs0 hos cells ty hc => ?_⟩
                  subst hos
                  exact hshape e heu hold hne e0 sz0 xs0 ho0 cells ty hc
                · refine ⟨o', hs, hi, O.like_refl _, fun _ _ _ _ cells e hc => ⟨cells, by rw [hsame l o' hlM hs]; exact hc, rfl⟩⟩)
              refine ⟨inj', ?_⟩
              show SR B w' inj' (updL S.σ (killL M ++ (u ++ u').map (fun e => (e.1, some e.2)))) (fun s => if ((List.range k).map (site + 1 + ·)).contains s then S.cnt s + 1 else S.cnt s) ∧ (sctx B w inj S.σ S.cnt).le (sctx B w' inj' (updL S.σ (killL M ++ (u ++ u').map (fun e => (e.1, some e.2)))) (fun s => if ((List.range k).map (site + 1 + ·)).contains s then S.cnt s + 1 else S.cnt s)) ∧ Rep (sctx B w' inj' (updL S.σ (killL M ++ (u ++ u').map (fun e => (e.1, some e.2)))) (fun s => if ((List.range k).map (site + 1 + ·)).contains s then S.cnt s + 1 else S.cnt s)) res' v
              rw [hσ', hcnt']
              refine ⟨h.next hfro hcnt hnew ?_ ?_ ?_ ?_, le, hrep'⟩
              · intro l o' ho
                rcases hcase l o' ho with ⟨_, _, _, _, z, hz, _, hiz⟩ | ⟨_, hlM, hs, hi⟩
                · rw [hiz]; exact (hbin z.2 (hZin z hz)).2
                · rw [hi]; exact Nat.lt_of_lt_of_le (h.lt l o' hs) hfr.size
              · intro l l' o1 o2 h1 h2 he
                rcases hcase l o1 h1 with ⟨_, _, _, _, z, hz, hzl, hiz⟩ | ⟨_, hlM, hs, hi⟩ <;> rcases hcase l' o2 h2 with ⟨_, _, _, _, z', hz', hzl', hiz'⟩ | ⟨_, hlM', hs', hi'⟩
                · have := snd_uniq hZs hz hz' (by rw [← hiz, ← hiz']; exact he)
                  rw [← hzl, ← hzl', this]
                · rw [hiz, hi'] at he
                  rcases (hbin z.2 (hZin z hz)).1 with hb | hb
                  · exact absurd (he ▸ hb) (hnotin l' o2 hlM' hs')
                  · have := h.lt l' o2 hs'; omega
                · rw [hi, hiz'] at he
                  rcases (hbin z'.2 (hZin z' hz')).1 with hb | hb
                  · exact absurd (he ▸ hb) (hnotin l o1 hlM hs)
                  · have := h.lt l o1 hs; omega
                · rw [hi, hi'] at he
                  exact h.uniq l l' o1 o2 hs hs' he
              · intro l o' ho
                rcases hcase l o' ho with ⟨e, he, rfl, _, _⟩ | ⟨_, hlM, hs, hi⟩
                · exact hfresh' e he
                · exact Nat.lt_of_lt_of_le (h.fresh l o' hs) (hcnt _)
              · intro l o' ho
                rcases hcase l o' ho with ⟨e, he, rfl, rfl, _⟩ | ⟨_, hlM, hs, hi⟩
                · exact hob e he
                · rw [hi]; exact (h.obj l o' hs).mono le (hsame l o' hlM hs)
          · simp at hd
        · simp at hd
      · simp at hd
    · simp at hd
  · simp at hd
end
end Go.Proofs.YtfknpnkdedckhaaGreatDoorT

/- The interpreter over trees: one operation. -/
namespace Go.Proofs.YtfknpnkdedckhaaGreatDoorT
open Go Go.RowKit
set_option linter.unusedVariables false

/-- A function that a call enters. -/
def Enters (P : Program) (f : FuncId) : Prop := ∃ fn, P.funcs[f]? = some fn ∧ fn.name ≠ "runtime.NumGoroutine" ∧ fn.body.isNone = false
/-- Calls that are known. -/
def Known (P : Program) (call : FuncId → List T → Option (T × List T)) : Prop := ∀ g cargs res outs, call g cargs = some (res, outs) → Enters P g ∧ Contract P g cargs res outs
/-- The slots. -/
structure Sl (C : Ctx) (S : St) (a : Act) : Prop where
  size : a.tmps.size = S.nt
  defers : a.defers = []
  rep : ∀ i, Rep C (S.τ i) (a.tmps.getD i undef)
  glob : Glob C.w C.ok
section
variable {P : Program} {B : Base} {w : World} {inj : Loc → Nat} {S : St} {a : Act}
theorem opd_ok {C : Ctx} (h : Sl C S a) (x : Operand) : Rep C (opd S x) (a.eval x) := by
  cases x with
  | tmp t => exact h.rep t
  | const v =>
    show Rep C (if plainI v = true then ofV v else T.dead) v
    split
    · rename_i hp; exact rep_ofV hp
    · exact .dead
  | func f => exact .s rfl
  | global g => exact .dead
theorem opdL_ok {C : Ctx} (h : Sl C S a) : ∀ (xs : List Operand), RepA C (xs.map (opd S)) (xs.map a.eval)
  | [] => RepA.nil _
  | x :: r => (opdL_ok h r).cons (opd_ok h x)
theorem opdP_ok {C : Ctx} (h : Sl C S a) : ∀ (ps : List (Nat × Operand)), PartsA C (ps.map fun p => (p.1, opd S p.2)) (ps.map fun p => (p.1, a.eval p.2))
  | [] => ⟨rfl, RepA.nil _⟩
  | p :: r => ⟨by have := (opdP_ok h r).1; simp [List.map_map, Function.comp_def], (opdP_ok h r).2.cons (opd_ok h p.2)⟩
theorem opdO_ok {C : Ctx} (h : Sl C S a) (x : Option Operand) : RepOpt C (x.map (opd S)) (x.map a.eval) := by
  cases x with
  | none => trivial
  | some x => exact opd_ok h x
theorem wp_of_value {o : Oper} {v : Value} {w' : World} {K : Act → World → Prop} {Q : Exit → Act → World → Prop} (h : (execOp a.eval o).run P w = .ok (.value v) w') (hk : K (a.put o.dst v) w') : o.wp P a w K Q := by
  unfold Oper.wp
  rw [h]
  exact hk
theorem wp_of_skip {o : Oper} {w' : World} {K : Act → World → Prop} {Q : Exit → Act → World → Prop} (h : (execOp a.eval o).run P w = .ok .skip w') (hk : K (a.put o.dst undef) w') : o.wp P a w K Q := by
  unfold Oper.wp
  rw [h]
  exact hk
theorem run_enter {f : FuncId} (h : Enters P f) (args : Array Value) (w : World) : (callFunc f args).run P w = .ok (.enter f args) w := by
  obtain ⟨fn, hf, hn, hb⟩ := h
  have hb' : fn.body ≠ none := by intro e; simp [e] at hb
  simp [callFunc, hf, hn, hb']
theorem wp_of_enter {o : Oper} {f : FuncId} {args : Array Value} {w' : World} {K : Act → World → Prop} {Q : Exit → Act → World → Prop} (h : (execOp a.eval o).run P w = .ok (.enter f args) w') (hk : Calls P f args w' (fun e w'' => ∃ v, e = .returned v ∧ K (a.put o.dst v) w'')) : o.wp P a w K Q := by
  unfold Oper.wp
  rw [h]
  refine Calls.mono hk ?_
  rintro e w'' ⟨v, rfl, hk⟩
  exact hk
theorem nilCheck_run {x : Value} (h1 : x ≠ .pointer none) (h2 : x ≠ .nilIface) (h3 : x ≠ .nilFunc) (h4 : ∀ n a b, x ≠ .func (.method n) a b) {o : Oper} {y : Operand} (ho : o.op = .nilCheck y) (hx : a.eval y = x) : (execOp a.eval o).run P w = .ok (.value x) w := by
  unfold execOp
  simp only [ho, hx]
  rfl
/-- One operation. -/
theorem op_ok {call : FuncId → List T → Option (T × List T)} (hC : Known P call) (h : SR B w inj S.σ S.cnt) (hs : Sl (sctx B w inj S.σ S.cnt) S a) {mv : FuncId → Bool} {site : Nat} {o : Oper} {d : Dl} (hd : evOp P call mv site S o = some d)
    {K : Act → World → Prop} {Q : Exit → Act → World → Prop} (hK : ∀ v w', Stp B w inj S.σ S.cnt d v w' → K (a.put o.dst v) w') : o.wp P a w K Q := by
  have viaV : ∀ {v w'}, (execOp a.eval o).run P w = .ok (.value v) w' → Stp B w inj S.σ S.cnt d v w' → o.wp P a w K Q := fun hr hst => wp_of_value hr (hK _ _ hst)
  have viaP : ∀ {y v}, pv y = some d → (execOp a.eval o).run P w = .ok (.value v) w → Rep (sctx B w inj S.σ S.cnt) y v → o.wp P a w K Q := by
    intro y v hy hr hrep
    unfold pv at hy
    injection hy with hy; subst hy
    exact wp_of_value hr (hK _ _ (Stp.pure h hrep []))
  have viaO : ∀ {r : Option T}, (match r with | some v => pv v | none => none) = some d → (∀ y, r = some y → ∃ v, (execOp a.eval o).run P w = .ok (.value v) w ∧ Rep (sctx B w inj S.σ S.cnt) y v) → o.wp P a w K Q := by
    intro r hr hy
    cases r with
    | none => simp at hr
    | some y =>
      obtain ⟨v, h1, h2⟩ := hy y rfl
      exact viaP hr h1 h2
  unfold evOp at hd
  split at hd
  · rename_i x ho
    exact viaP hd (by simp only [execOp, ho]; rfl) (opd_ok hs x)
  · rename_i x ho
    exact viaP hd (by simp only [execOp, ho]; rfl) (opd_ok hs x)
  · rename_i c p q ho
    split at hd
    · rename_i t hc
      have hcv : a.eval c = .bool t := by have := opd_ok hs c; rw [hc] at this; exact rep_s this
      have hrun : (execOp a.eval o).run P w = .ok (.value (if t then a.eval p else a.eval q)) w := by simp [execOp, ho, hcv, asBool]
      split at hd
      · rename_i b1 b2 hp hq
        have hpv : a.eval p = .bool b1 := by have := opd_ok hs p; rw [hp] at this; exact rep_s this
        have hqv : a.eval q = .bool b2 := by have := opd_ok hs q; rw [hq] at this; exact rep_s this
        refine viaP hd hrun ?_
        rw [hpv, hqv]
        cases t <;> exact .s rfl
      · refine viaP hd hrun ?_
        cases t
        · exact opd_ok hs q
        · exact opd_ok hs p
    · simp at hd
  · rename_i t ho
    split at hd
    · rename_i cs hz
      injection hd with hd; subst hd
      obtain ⟨v, w', hr, hst⟩ := alloc_ok h site hz
      exact viaV (by simp only [execOp, ho, Sem.run_bind, hr, Result.andThen_ok]; rfl) hst
    · simp at hd
  · rename_i t x ho
    split at hd
    · rename_i hk
      injection hd with hd; subst hd
      obtain ⟨v, w', hr, hst⟩ := box_ok (P := P) h site t (opd_ok hs x) hk
      exact viaV (by simp only [execOp, ho, Sem.run_bind, hr, Result.andThen_ok]; rfl) hst
    · simp at hd
  · rename_i t ps ho
    split at hd
    · rename_i hpl
      split at hd
      · rename_i z hz
        split at hd
        · rename_i cs hf
          have hpa : PartsA (sctx B w inj S.σ S.cnt) (ps.toList.map fun p => (p.1, opd S p.2)) (ps.map fun (i, x) => (i, a.eval x)).toList := by
            rw [Array.toList_map]; exact opdP_ok hs ps.toList
          obtain ⟨v, hr, hrep⟩ := build_ok (sctx_good _ _ _ _ _) hpl hz hf hpa w
          exact viaP hd (by simp only [execOp, ho, Sem.run_bind, hr, Result.andThen_ok]; rfl) hrep
        · simp at hd
      · simp at hd
    · simp at hd
  · rename_i t len ps ho
    split at hd
    · rename_i e he
      split at hd
      · rename_i sz z hsz hz
        split at hd
        · simp at hd
        · rename_i hno
          split at hd
          · rename_i ze hze
            split at hd
            · rename_i ys r hf
              split at hd
              · rename_i xs hset
                injection hd with hd; subst hd
                have hpa : PartsA (sctx B w inj S.σ S.cnt) (ps.toList.map fun p => (p.1, opd S p.2)) (ps.map fun (i, x) => (i, a.eval x)).toList := by
                  rw [Array.toList_map]; exact opdP_ok hs ps.toList
                obtain ⟨v, w', hr, hst⟩ := buildSlice_ok h site he hsz hz hno hze hpa (by simpa [List.map_map, Function.comp_def] using hf) (by simpa [List.map_map, Function.comp_def] using hset)
                exact viaV (by simp only [execOp, ho, Sem.run_bind, hr, Result.andThen_ok]; rfl) hst
              · simp at hd
            · simp at hd
          · simp at hd
      · simp at hd
    · simp at hd
  · rename_i t x ho
    obtain ⟨v, hr, hst⟩ := load_ok h (opd_ok hs x) hd
    exact viaV (by simp only [execOp, ho, Sem.run_bind, hr, Result.andThen_ok]; rfl) hst
  · rename_i t p x ho
    obtain ⟨w', hr, hst⟩ := store_ok h (opd_ok hs p) (opd_ok hs x) hd
    exact wp_of_skip (by simp only [execOp, ho, Sem.run_bind, hr, Result.andThen_ok]; rfl) (hK _ _ hst)
  · rename_i x ho
    have hx := opd_ok hs x
    split at hd
    · rename_i l off hv
      rw [hv] at hx
      have hx' := hx
      cases hx
      rename_i hp
      obtain ⟨_, b, hb, _⟩ := hp
      exact viaP hd (nilCheck_run (by simp [hb]) (by simp [hb]) (by simp [hb]) (by simp [hb]) ho rfl) hx'
    · rename_i cs hv
      rw [hv] at hx
      obtain ⟨us, ad, hb, _⟩ := hx.ep_parts
      exact viaP hd (nilCheck_run (by simp [hb]) (by simp [hb]) (by simp [hb]) (by simp [hb]) ho rfl) hx
    · rename_i l sz i off hv
      rw [hv] at hx
      have hx' := hx
      cases hx
      rename_i hp
      obtain ⟨_, b, hb, _⟩ := hp
      exact viaP hd (nilCheck_run (by simp [hb]) (by simp [hb]) (by simp [hb]) (by simp [hb]) ho rfl) hx'
    · rename_i t y hv
      rw [hv] at hx
      split at hd
      · simp at hd
      · rename_i h0t
        obtain ⟨b, u, hb⟩ : ∃ b u, a.eval x = .iface b u := by
          rcases ifc_val hx with ⟨h1, _⟩ | ⟨_, h2⟩
          · exact absurd h1 h0t
          · exact h2
        exact viaP hd (nilCheck_run (by simp [hb]) (by simp [hb]) (by simp [hb]) (by simp [hb]) ho rfl) hx
    · rename_i f fs cs hv
      rw [hv] at hx
      obtain ⟨vf, vc, hb, _⟩ := hx.fn_parts
      exact viaP hd (nilCheck_run (by simp [hb]) (by simp [hb]) (by simp [hb]) (by simp [hb]) ho rfl) hx
    · rename_i f p q hv
      rw [hv] at hx
      have hb := rep_s hx
      exact viaP hd (nilCheck_run (by simp [hb]) (by simp [hb]) (by simp [hb]) (by simp [hb]) ho rfl) hx
    · simp at hd
  · rename_i op t x y c ho
    refine viaO hd fun z hz => ?_
    obtain ⟨r, hr, hrep⟩ := bin_ok (opd_ok hs x) (opd_ok hs y) hz
    refine ⟨r, ?_, hrep⟩
    unfold binRun at hr
    simp only [execOp, ho, Sem.run_bind, hr, Result.andThen_ok]
    rfl
  · rename_i op t x ho
    refine viaO hd fun z hz => ?_
    obtain ⟨r, hr, hrep⟩ := un_ok (P := P) (opd_ok hs x) hz w
    exact ⟨r, by simp only [execOp, ho, Sem.run_bind, hr, Result.andThen_ok]; rfl, hrep⟩
  · rename_i p q x ho
    refine viaO hd fun z hz => ?_
    obtain ⟨r, hr, hrep⟩ := conv_ok (opd_ok hs x) hz w
    exact ⟨r, by simp only [execOp, ho, Sem.run_bind, hr, Result.andThen_ok]; rfl, hrep⟩
  · rename_i t x ho
    split at hd
    · simp at hd
    · simp at hd
    · rename_i dd hni hu
      split at hd
      · rename_i y r hf
        split at hd
        · rename_i hyk
          simp only [Bool.and_eq_true, decide_eq_true_eq] at hyk
          injection hd with hd; subst hd
          have hif : ifaceT P t = some false := by
            unfold ifaceT
            rw [hu]
            cases dd <;> first | rfl | exact absurd rfl (hni _)
          obtain ⟨v, hr, hst⟩ := makeIface_ok h (opd_ok hs x) hif hyk.2 hf
          exact viaV (by simp only [execOp, ho, Sem.run_bind, hr, Result.andThen_ok]; rfl) hst
        · simp at hd
      · simp at hd
  · rename_i f fs cs ho
    split at hd
    · refine viaP (v := .func f (fs.map a.eval) (cs.map a.eval)) hd (by simp only [execOp, ho, Instr.makeFunc, Sem.run_bind, Sem.run_pure, Result.andThen_ok]) ?_
      have h1 := opdL_ok hs fs.toList
      have h2 := opdL_ok hs cs.toList
      have e1 : fs.map a.eval = (fs.toList.map a.eval).toArray := by apply Array.ext'; simp
      have e2 : cs.map a.eval = (cs.toList.map a.eval).toArray := by apply Array.ext'; simp
      rw [e1, e2]
      exact .fn h1.1 h2.1 h1.2 h2.2
    · simp at hd
  · rename_i t x lo hi ho
    obtain ⟨r, hr, hst⟩ := slice_ok h (rekey h) (opd_ok hs x) (opdO_ok hs lo) (opdO_ok hs hi) hd
    exact viaV (by simp only [execOp, ho, Sem.run_bind, Option.map_none, hr, Result.andThen_ok]; rfl) hst
  · rename_i t x i ho
    refine viaO hd fun z hz => ?_
    obtain ⟨r, hr, hrep⟩ := fieldAddr_ok (opd_ok hs x) hz
    exact ⟨r, by simp only [execOp, ho, Sem.run_bind, hr, Result.andThen_ok]; rfl, hrep⟩
  · rename_i t x i ho
    refine viaO hd fun z hz => ?_
    obtain ⟨r, hr, hrep⟩ := field_ok (opd_ok hs x) hz w
    exact ⟨r, by simp only [execOp, ho, Sem.run_bind, hr, Result.andThen_ok]; rfl, hrep⟩
  · rename_i t x i ho
    obtain ⟨r, hr, hst⟩ := indexAddr_ok h (opd_ok hs x) (opd_ok hs i) hd
    exact viaV (by simp only [execOp, ho, Sem.run_bind, hr, Result.andThen_ok]; rfl) hst
  · rename_i t x i ho
    refine viaO hd fun z hz => ?_
    obtain ⟨r, hr, hrep⟩ := index_ok (opd_ok hs x) (opd_ok hs i) hz w
    exact ⟨r, by simp only [execOp, ho, Sem.run_bind, hr, Result.andThen_ok]; rfl, hrep⟩
  · rename_i t x ho
    split at hd
    · rename_i b hu hv
      injection hd with hd; subst hd
      have hx := opd_ok hs x
      rw [hv] at hx
      obtain ⟨v, w', hr, hst⟩ := range_ok h site (b := b) hu
      rw [← rep_s hx] at hr
      exact viaV (by simp only [execOp, ho, Sem.run_bind, hr, Result.andThen_ok]; rfl) hst
    · simp at hd
  · rename_i x ho
    have hx := opd_ok hs x
    split at hd
    · rename_i l hv
      rw [hv] at hx
      split at hd
      · rename_i b pos hl
        obtain ⟨r, w', hr, hst⟩ := next_ok (P := P) h hl hx o.type
        have hr' : (execOp a.eval o).run P w = .ok (.value r) w' := by simp only [execOp, ho, Sem.run_bind, hr, Result.andThen_ok]; rfl
        split at hd
        · rename_i hlt
          injection hd with hd; subst hd
          rw [if_pos hlt] at hst
          exact viaV hr' hst
        · rename_i hlt
          injection hd with hd; subst hd
          rw [if_neg hlt] at hst
          exact viaV hr' hst
      · simp at hd
    · simp at hd
  · rename_i x xt t ok ho
    refine viaO hd fun z hz => ?_
    obtain ⟨r, hr, hrep⟩ := assert_ok (opd_ok hs x) hz w
    exact ⟨r, by simp only [execOp, ho, Sem.run_bind, hr, Result.andThen_ok]; rfl, hrep⟩
  · rename_i x i ho
    have hx := opd_ok hs x
    split at hd
    · rename_i cs hv
      rw [hv] at hx
      refine viaO hd fun z hz => ?_
      obtain ⟨r, hr, hrep⟩ := extract_ok (P := P) hx hz w
      exact ⟨r, by simp only [execOp, ho, Sem.run_bind, hr, Result.andThen_ok]; rfl, hrep⟩
    · simp at hd
  · rename_i c ho
    have hargs := opdL_ok hs c.args.toList
    have hamap : c.args.map a.eval = (c.args.toList.map a.eval).toArray := by apply Array.ext'; simp
    have goCall : ∀ (g : FuncId) (targs : List T) (vals : List Value), RepA (sctx B w inj S.σ S.cnt) targs vals → evCall S call mv site g targs = some d → (execOp a.eval o).run P w = (callFunc g vals.toArray).run P w → o.wp P a w K Q := by
      intro g targs vals hra hev hrun
      have hent : Enters P g := by
        unfold evCall at hev
        split at hev
        · split at hev
          · split at hev
            · rename_i hcall; exact (hC _ _ _ _ hcall).1
            · simp at hev
          · simp at hev
        · simp at hev
      refine wp_of_enter (hrun.trans (run_enter hent _ w)) ((call_ok (fun g ca re ou hh => (hC g ca re ou hh).2) h hs.glob hra hev).mono ?_)
      rintro e w' ⟨v, rfl, hst⟩
      exact ⟨v, rfl, hK v w' hst⟩
    split at hd
    · rename_i hcal
      split at hd
      · rename_i x hxs
        obtain ⟨r, hr, hst⟩ := len_ok h (opd_ok hs x) hd c.argTypes rfl o.type
        refine viaV (v := r) ?_ hst
        simp only [execOp, ho, resolve, hcal, invoke, builtin, Sem.run_bind, Sem.run_pure, Result.andThen_ok, hamap, hxs, List.map_cons, List.map_nil, hr]
      · simp at hd
    · rename_i hcal
      split at hd
      · rename_i s x hxs
        split at hd
        · rename_i t ht
          obtain ⟨t1, ht1, v, w', hr, hst⟩ := append_ok (ty := o.type) h (opd_ok hs s) (opd_ok hs x) hd
          refine viaV (v := v) (w' := w') ?_ hst
          have hr' : (Builtin.append_ c.argTypes o.type #[a.eval s, a.eval x]).run P w = .ok v w' := by
            rw [← hr]
            simp only [Builtin.append_, ht, ht1]
            rfl
          simp only [execOp, ho, resolve, hcal, invoke, builtin, Sem.run_bind, Sem.run_pure, Result.andThen_ok, hamap, hxs, List.map_cons, List.map_nil, hr']
        · simp at hd
      · simp at hd
    · rename_i hcal
      refine viaO hd fun z hz => ?_
      obtain ⟨r, hr, hrep⟩ := minmax_ok (P := P) hargs hz c.argTypes o.type w
      refine ⟨r, ?_, hrep⟩
      simp only [Bool.false_eq_true, if_false] at hr
      simp only [execOp, ho, resolve, hcal, invoke, builtin, Sem.run_bind, Sem.run_pure, Result.andThen_ok, hamap, hr]
    · rename_i hcal
      refine viaO hd fun z hz => ?_
      obtain ⟨r, hr, hrep⟩ := minmax_ok (P := P) hargs hz c.argTypes o.type w
      refine ⟨r, ?_, hrep⟩
      simp only [if_true] at hr
      simp only [execOp, ho, resolve, hcal, invoke, builtin, Sem.run_bind, Sem.run_pure, Result.andThen_ok, hamap, hr]
    · rename_i f hcal
      have hf := opd_ok hs f
      split at hd
      · rename_i g p q hv
        split at hd
        · rename_i hemp
          simp only [Bool.and_eq_true, Array.isEmpty_iff] at hemp
          obtain ⟨rfl, rfl⟩ := hemp
          rw [hv] at hf
          have hfv := rep_s hf
          refine goCall g _ _ hargs hd ?_
          simp only [execOp, ho, resolve, hcal, hfv, Deferred.ofValue, invoke, Sem.run_bind, Sem.run_pure, Result.andThen_ok, hamap]
          simp
        · simp at hd
      · rename_i g fs cs hv
        rw [hv] at hf
        obtain ⟨vf, vc, hfv, h1, h2⟩ := hf.fn_parts
        refine goCall g _ (vf ++ c.args.toList.map a.eval ++ vc) ((h1.append hargs).append h2) hd ?_
        simp only [execOp, ho, resolve, hcal, hfv, Deferred.ofValue, invoke, Sem.run_bind, Sem.run_pure, Result.andThen_ok, hamap]
        simp
      · simp at hd
    · rename_i f name hcal
      have hf := opd_ok hs f
      split at hd
      · rename_i t x hv
        split at hd
        · simp at hd
        · rename_i h0t
          split at hd
          · rename_i g hg
            rw [hv] at hf
            obtain ⟨u, hfv, hru⟩ : ∃ u, a.eval f = .iface t u ∧ Rep (sctx B w inj S.σ S.cnt) x u := by
              generalize a.eval f = v at hf
              cases hf with
              | ifc h1 h2 => exact ⟨_, rfl, h2.of_ro⟩
              | ifn => exact absurd rfl h0t
            refine goCall g _ (u :: c.args.toList.map a.eval) (hargs.cons hru) hd ?_
            unfold methodOf at hg
            split at hg
            · rename_i i hi
              split at hg
              · rename_i m hm
                split at hg
                · rename_i hp
                  split at hg
                  · simp at hg
                  · rename_i g' d hud hmf hnp
                    injection hg with hg; subst hg
                    have hpl : m.path.toList = [] := List.isEmpty_iff.1 hp
                    have hmeth : (method (P.types.size + Made.depth) t u name).run P w = .ok (g', u) w := by
                      have hmd : 0 < Made.depth := by decide
                      obtain ⟨k, hk⟩ : ∃ k, P.types.size + Made.depth = k + 1 := ⟨P.types.size + Made.depth - 1, by omega⟩
                      rw [hk]
                      simp only [method, Sem.run_bind, run_info hi, Result.andThen_ok, hm, hpl, follow, Sem.run_pure, hmf, receiverAt, run_und hnp]
                      cases d <;> first | exact absurd hnp (hud _) | rfl
                    simp only [execOp, ho, resolve, hcal, hfv, invoke, callMethod, Sem.run_bind, Sem.run_pure, Result.andThen_ok, hamap]
                    simp [hmeth]
                    rw [List.take_of_length_le (by simp)]
                  · simp at hg
                · simp at hg
              · simp at hg
            · simp at hg
          · simp at hd
      · simp at hd
    · simp at hd
  · simp at hd
end
end Go.Proofs.YtfknpnkdedckhaaGreatDoorT

/- The interpreter over trees: regions in the text's order, control, a function. -/
namespace Go.Proofs.YtfknpnkdedckhaaGreatDoorT
open Go Go.RowKit
set_option linter.unusedVariables false

/-- The state at a point of a function that began in C0. -/
def Hold (C0 : Ctx) (B : Base) (S : St) (a : Act) (w : World) : Prop := ∃ inj, SR B w inj S.σ S.cnt ∧ Sl (sctx B w inj S.σ S.cnt) S a ∧ C0.le (sctx B w inj S.σ S.cnt)
section
variable {P : Program} {B : Base} {C0 : Ctx} {w : World} {inj : Loc → Nat} {S : St} {a : Act}
theorem put_size (a : Act) (dst : Option Tmp) (v : Value) : (a.put dst v).tmps.size = a.tmps.size := by
  cases dst <;> simp [Act.put]
theorem put_defers' (a : Act) (dst : Option Tmp) (v : Value) : (a.put dst v).defers = a.defers := by
  cases dst <;> rfl
theorem put_get (a : Act) (t : Tmp) (v : Value) (i : Nat) : (a.put (some t) v).tmps.getD i undef = if i = t ∧ t < a.tmps.size then v else a.tmps.getD i undef := by
  simp only [Act.put, Array.getD_eq_getD_getElem?]
  by_cases h : i = t
  · subst h
    by_cases hl : i < a.tmps.size
    · simp [hl]
    · simp [hl]
  · simp [h, Array.getElem?_setIfInBounds_ne (Ne.symm h)]
theorem hold_ap (h : Hold C0 B S a w) {dst : Option Tmp} {d : Dl} {v : Value} {w' : World} (hi : SR B w inj S.σ S.cnt) (hs : Sl (sctx B w inj S.σ S.cnt) S a) (hc : C0.le (sctx B w inj S.σ S.cnt)) (hst : Stp B w inj S.σ S.cnt d v w') : Hold C0 B (S.ap dst d) (a.put dst v) w' := by
  obtain ⟨inj', h1, h2, h3⟩ := hst
  refine ⟨inj', h1, ⟨?_, ?_, fun i => ?_, hs.glob.le h2⟩, hc.trans h2⟩
  · rw [put_size]; exact hs.size
  · rw [put_defers']; exact hs.defers
  · cases dst with
    | none => exact (hs.rep i).mono h2
    | some t =>
      rw [put_get]
      have hsz := hs.size
      show Rep _ ((if t < S.nt then putT S.τ t d.v else S.τ) i) _
      by_cases ht : t < S.nt
      · rw [if_pos ht]
        unfold putT
        by_cases hit : i = t
        · rw [if_pos hit, if_pos ⟨hit, by rw [hsz]; exact ht⟩]; exact h3
        · rw [if_neg hit, if_neg (fun hh => hit hh.1)]; exact (hs.rep i).mono h2
      · rw [if_neg ht, if_neg (fun hh => ht (by rw [← hsz]; exact hh.2))]; exact (hs.rep i).mono h2
theorem hold_skip (h : Hold C0 B S a w) (dst : Option Tmp) : Hold C0 B (S.ap dst ⟨.tup [], [], [], []⟩) (a.put dst undef) w := by
  obtain ⟨inj, h1, h2, h3⟩ := id h
  exact hold_ap h h1 h2 h3 (Stp.pure h1 (x := .tup []) (v := undef) (.tup (vs := []) rfl (fun j x u hx => by simp at hx)) [])
theorem guard_ok {C : Ctx} (h : Sl C S a) {ops : Array Oper} {o : Oper} {b : Bool} (hg : guardT ops S o = some b) : Region.wanted o (yielded ops a.tmps) = b := by
  unfold guardT at hg
  unfold Region.wanted
  split at hg
  · rename_i e; rw [e]; injection hg
  · rename_i j want e
    rw [e]
    split at hg
    · rename_i p hp
      split at hg
      · rename_i t ht
        split at hg
        · rename_i b0 hb
          injection hg with hg; subst hg
          have := h.rep t
          rw [hb] at this
          have hv := rep_s this
          have hsome : a.tmps[t]? = some (.bool b0) := by
            rw [Array.getD_eq_getD_getElem?] at hv
            cases he : a.tmps[t]? with
            | none => rw [he] at hv; simp [undef] at hv
            | some x => rw [he] at hv; simp at hv; rw [hv]
          simp only [yielded, hp, Option.bind_some, ht, hsome]
          cases b0 <;> cases want <;> rfl
        · rename_i hb
          injection hg with hg; subst hg
          have := h.rep t
          rw [hb] at this
          obtain ⟨vs, hv, hr⟩ := this.tup_parts
          have hvs : vs = [] := List.eq_nil_of_length_eq_zero hr.1.symm
          subst hvs
          have hy : yielded ops a.tmps j = none := by
            simp only [yielded, hp, Option.bind_some, ht]
            rw [Array.getD_eq_getD_getElem?] at hv
            cases he : a.tmps[t]? with
            | none => rfl
            | some x =>
              rw [he] at hv
              simp only [Option.getD_some] at hv
              rw [hv]
          show (yielded ops a.tmps j == some want) = false
          rw [hy]
          rfl
        · simp at hg
      · simp at hg
    · simp at hg
/-- A region in the text's order. -/
theorem ops_ok {call : Nat → FuncId → List T → Option (T × List T)} (hC : ∀ s, Known P (call s)) {mv : FuncId → Bool} {id : Nat} {ops : Array Oper} {Q : Exit → Act → World → Prop} {S' : St} :
    ∀ (rest : List Oper) (i : Nat) (S : St) (a : Act) (w : World), ops.toList.drop i = rest → evOps P call mv id ops i rest S = some S' → Hold C0 B S a w → (∀ a' w', Hold C0 B S' a' w' → Q .normal a' w') → wpOps P ops Q (List.range' i rest.length) a w
  | [], i, S, a, w, hd, he, hh, hQ => by
    simp only [evOps, Option.some.injEq] at he
    subst he
    exact hQ a w hh
  | o :: rest, i, S, a, w, hd, he, hh, hQ => by
    have hh2 := hh
    obtain ⟨inj, h1, h2, h3⟩ := hh2
    have ho : ops[i]? = some o := by
      have := congrArg (·[0]?) hd
      simpa [List.getElem?_drop] using this
    have hd' : ops.toList.drop (i + 1) = rest := by
      have := congrArg (List.drop 1) hd
      simpa [List.drop_drop, Nat.add_comm] using this
    show wpOps P ops Q (i :: List.range' (i + 1) rest.length) a w
    unfold evOps at he
    split at he
    · rename_i hg
      have hw := guard_ok h2 hg
      split at he
      · rename_i d hev
        simp only [wpOps, ho, hw, if_true]
        exact .inl (op_ok (hC _) h1 h2 hev (fun v w' hst => ops_ok hC rest (i + 1) _ _ _ hd' he (hold_ap hh h1 h2 h3 hst) hQ))
      · simp at he
    · rename_i hg
      have hw := guard_ok h2 hg
      simp only [wpOps, ho, hw, Bool.false_eq_true, if_false]
      exact ops_ok hC rest (i + 1) _ _ _ hd' he (hold_skip hh o.dst) hQ
    · simp at he
/-- Regions of open order are sound. -/
def DrawOk (P : Program) (call : Nat → FuncId → List T → Option (T × List T)) (mv : FuncId → Bool) (bits : Array Oper → List Nat) : Prop :=
  ∀ (id : Nat) (ops : Array Oper) (dr : Nat → List Loc) (C0 : Ctx) (B : Base) (S S' : St) (a : Act) (w : World) (Q : Exit → Act → World → Prop), okD (bits ops) ops = true → evOpsD P call mv id (bits ops) ops dr 0 [] ops.toList S = some S' → Hold C0 B S a w → (∀ a' w', Hold C0 B S' a' w' → Q .normal a' w') → (Code.region id ops true).wp P Q a w
/-! ### A function -/
theorem run_results {vars : List ResultVar} {rs : List T} (h1 : SR B w inj S.σ S.cnt) (h2 : Sl (sctx B w inj S.σ S.cnt) S a) (hr : optAll (evRes P S) vars = some rs) :
    ∃ vs : List Value, (vars.mapM (fun x => match x with
      | ResultVar.tmp t => (pure (a.tmps.getD t undef) : Sem Value)
      | ResultVar.cell b t => do loadVar t (← asAddr (a.tmps.getD b undef)))).run P w = .ok vs w ∧ RepA (sctx B w inj S.σ S.cnt) rs vs := by
  induction vars generalizing rs with
  | nil =>
    simp only [optAll, Option.some.injEq] at hr
    subst hr
    exact ⟨[], by simp, RepA.nil _⟩
  | cons x r ih =>
    unfold optAll at hr
    split at hr
    · rename_i y s hy hs
      injection hr with hr; subst hr
      obtain ⟨vs, hv, hrep⟩ := ih hs
      cases x with
      | tmp t =>
        simp only [evRes, Option.some.injEq] at hy
        subst hy
        exact ⟨a.tmps.getD t undef :: vs, by simp only [List.mapM_cons, Sem.run_bind, Sem.run_pure, Result.andThen_ok, hv], hrep.cons (h2.rep t)⟩
      | cell b t =>
        simp only [evRes] at hy
        split at hy
        · rename_i d hd
          injection hy with hy; subst hy
          obtain ⟨v', A, hA, hrun', hrep', _⟩ := load_rep h1 (h2.rep b) hd
          refine ⟨v' :: vs, ?_, hrep.cons hrep'⟩
          have has : (asAddr (a.tmps.getD b undef)).run P w = .ok A w := by rw [hA]; rfl
          simp only [List.mapM_cons, Sem.run_bind, has, Sem.run_pure, hrun', Result.andThen_ok, hv]
        · simp at hy
    · simp at hr
def oneVal : List Value → Value
  | [v] => v
  | vs => .tuple vs.toArray
theorem results_run {fn : Func} {a : Act} {vs : List Value} {w : World} (h : (fn.results.toList.mapM (fun x => match x with
      | ResultVar.tmp t => (pure (a.tmps.getD t undef) : Sem Value)
      | ResultVar.cell b t => do loadVar t (← asAddr (a.tmps.getD b undef)))).run P w = .ok vs w) : (results fn a.tmps).run P w = .ok (oneVal vs) w := by
  have e : results fn a.tmps = (do
      let vs ← fn.results.toList.mapM (fun x => match x with
        | ResultVar.tmp t => (pure (a.tmps.getD t undef) : Sem Value)
        | ResultVar.cell b t => do loadVar t (← asAddr (a.tmps.getD b undef)))
      pure (if h : vs.toArray.size = 1 then vs.toArray[0] else .tuple vs.toArray)) := by
    unfold results
    rw [Array.mapM_eq_mapM_toList]
    simp only [bind_map_left]
    rfl
  rw [e, Sem.run_bind, h, Result.andThen_ok, Sem.run_pure]
  match vs with
  | [] => rfl
  | [v] => rfl
  | _ :: _ :: _ => simp [oneVal]
/-- What comes out of the arguments. -/
theorem outT_ok {ok : Nat → Prop} (h : SR B w inj S.σ S.cnt) (hok : ∀ k, (sctx B w inj S.σ S.cnt).ok k → ok k) {t t' : T} {m : List Loc} {v : Value} (ho : outT S.σ t = some (t', m)) (hr : Rep (sctx B w inj S.σ S.cnt) t v) : RepX w ok t' v (kblks inj m) ∧ ∀ l ∈ m, S.σ l ≠ none := by
  unfold outT at ho
  split at ho
  · exact cls_ok h hok _ _ _ v ho hr
  · exact cls_ok h hok _ _ _ v ho hr
  · split at ho
    · rename_i q hq
      injection ho with ho
      subst ho
      exact cls_ok h hok _ _ _ v hq hr
    · injection ho with ho; injection ho with e1 e2; subst e1; subst e2
      exact ⟨rfl, by simp⟩
  · injection ho with ho; injection ho with e1 e2; subst e1; subst e2
    exact ⟨rfl, by simp⟩
theorem outTL_ok {ok : Nat → Prop} (h : SR B w inj S.σ S.cnt) (hok : ∀ k, (sctx B w inj S.σ S.cnt).ok k → ok k) : ∀ (ts ts' : List T) (m : List Loc) (vs : List Value), outTL S.σ ts = some (ts', m) → RepA (sctx B w inj S.σ S.cnt) ts vs → RepXL w ok ts' vs (kblks inj m) ∧ ∀ l ∈ m, S.σ l ≠ none
  | [], ts', m, vs, ho, hr => by
    simp [outTL] at ho
    obtain ⟨rfl, rfl⟩ := ho
    have : vs = [] := List.eq_nil_of_length_eq_zero hr.1.symm
    subst this
    exact ⟨⟨rfl, rfl⟩, by simp⟩
  | x :: ts, ts', m, vs, ho, hr => by
    unfold outTL at ho
    split at ho
    · rename_i x' a1 r' b1 he1 he2
      injection ho with ho; injection ho with e1 e2; subst e1; subst e2
      match vs, hr with
      | u :: us, hr =>
        have h1 := outT_ok h hok he1 hr.head
        have h2 := outTL_ok h hok ts r' b1 us he2 hr.tail
        exact ⟨⟨u, us, _, _, rfl, by simp [kblks], h1.1, h2.1⟩, fun l hl => (List.mem_append.1 hl).elim (h1.2 l) (h2.2 l)⟩
      | [], hr => exact absurd hr.1 (by simp)
    · simp at ho
theorem resT_ok {ok : Nat → Prop} {rs : List T} {vs : List Value} {b : List Nat} (h : RepXL w ok rs vs b) : RepX w ok (resT rs) (oneVal vs) b := by
  match rs, vs, h with
  | [], [], h => exact ⟨[], rfl, h⟩
  | [x], [v], h =>
    obtain ⟨u, us, b1, b2, e, rfl, h1, h2⟩ := h
    obtain ⟨rfl, rfl⟩ := h2
    injection e with e _
    subst e
    rw [List.append_nil]
    exact h1
  | x :: y :: r, vs, h =>
    match vs, h.len with
    | [], hl => simp at hl
    | [_], hl => simp at hl
    | u :: v :: s, _ => exact ⟨u :: v :: s, rfl, h⟩
  | [], _ :: _, h => have := h.len; simp at this
  | [_], [], h => have := h.len; simp at this
  | [_], _ :: _ :: _, h => have := h.len; simp at this
/-- Results handed over: frozen (fz), or as they are. -/
def closeR (fz : Bool) (σ : Loc → Option O) (rs : List T) : Option (List T × List Loc × List Loc) := if fz then argCL σ false rs else match clsL σ 4 rs with
  | some (rs', m) => some (rs', m, [])
  | none => none
def canL2 (P : Program) : List TypeId → List T → List T
  | t :: ts, x :: xs => canT P t x :: canL2 P ts xs
  | _, xs => xs
section
variable {w : World} {ok : Nat → Prop}
theorem canC_X {P : Program} {t : TypeId} {x : T} {v : Value} {b : List Nat} (h : RepX w ok x v b) : RepX w ok (canC P t x) v b := by
  cases x with
  | sl sz xs =>
    obtain ⟨rfl, h⟩ := h
    have := canC_rep (P := P) (t := t) h
    unfold canC at this ⊢
    dsimp only at this ⊢
    split at this
    · rename_i h0
      rw [if_pos h0]
      split at this
      · split at this <;> exact ⟨rfl, this⟩
      · exact ⟨rfl, this⟩
    · rename_i h0
      rw [if_neg h0]; exact ⟨rfl, this⟩
  | _ => exact h
theorem canL_X {P : Program} : ∀ (ts : List TypeId) (xs : List T) (vs : List Value) (b : List Nat), RepXL w ok xs vs b → RepXL w ok (canL P ts xs) vs b
  | [], xs, vs, b, h => by cases xs <;> exact h
  | t :: ts, [], vs, b, h => h
  | t :: ts, x :: xs, vs, b, h => by
    obtain ⟨v, vs', b1, b2, rfl, rfl, h1, h2⟩ := h
    exact ⟨v, vs', b1, b2, rfl, rfl, canC_X h1, canL_X ts xs vs' b2 h2⟩
theorem canT_X {P : Program} {t : TypeId} {x : T} {v : Value} {b : List Nat} (h : RepX w ok x v b) : RepX w ok (canT P t x) v b := by
  unfold canT
  split
  · obtain ⟨vs, rfl, h, h1⟩ := h
    exact ⟨vs, rfl, canL_X _ _ _ _ h, h1⟩
  · exact canC_X h
theorem canL2_X {P : Program} : ∀ (ts : List TypeId) (xs : List T) (vs : List Value) (b : List Nat), RepXL w ok xs vs b → RepXL w ok (canL2 P ts xs) vs b
  | [], xs, vs, b, h => by cases xs <;> exact h
  | t :: ts, [], vs, b, h => h
  | t :: ts, x :: xs, vs, b, h => by
    obtain ⟨v, vs', b1, b2, rfl, rfl, h1, h2⟩ := h
    exact ⟨v, vs', b1, b2, rfl, rfl, canT_X h1, canL2_X ts xs vs' b2 h2⟩
theorem closeR_ok {B : Base} {inj : Loc → Nat} {σ : Loc → Option O} {cnt : Nat → Nat} (h : SR B w inj σ cnt) {fz : Bool} {rs rs' : List T} {m r : List Loc} {vs : List Value} (hok : ∀ k, (sctx B w inj σ cnt).ok k → ok k) (hr : ∀ k, blks inj r k → ok k)
    (hc : closeR fz σ rs = some (rs', m, r)) (hv : RepA (sctx B w inj σ cnt) rs vs) : RepXL w ok rs' vs (kblks inj m) ∧ (∀ l ∈ m, σ l ≠ none) ∧ ∀ l ∈ r, σ l ≠ none := by
  unfold closeR at hc
  split at hc
  · exact argCL_ok h hok rs rs' m r vs hr hc hv
  · split at hc
    · rename_i rs1 m1 he
      injection hc with hc; injection hc with e1 e2; injection e2 with e2 e3; subst e1; subst e2; subst e3
      have := clsL_ok h hok 4 rs rs1 m1 vs he hv
      exact ⟨this.1, this.2, by simp⟩
    · simp at hc
end
/-- Where a function begins. -/
def entrySt (ntmps : Nat) (targs : List T) (u : List (Loc × O)) : St := { τ := fun i => targs.getD i .dead, σ := updL (fun _ => none) (u.map fun e => (e.1, some e.2)), cnt := fun s => if s < 1000 then 1 else 0, nt := ntmps }
/-- Where it ends: its result and what becomes of its arguments. -/
def Ends (P : Program) (fn : Func) (fz : Bool) (targs : List T) (res : T) (outs : List T) (S : St) : Prop :=
  ∃ rs rs' m r m', optAll (evRes P S) fn.results.toList = some rs ∧ closeR fz S.σ rs = some (rs', m, r) ∧ outTL S.σ targs = some (outs, m') ∧ (nodupL (m ++ m') && r.all (fun l => !(m ++ m').contains l)) = true ∧ res = resT (canL2 P fn.resultTypes.toList rs')
/-- Keys of the entry. -/
def EntryCtx (C0 : Ctx) : Prop := ∀ l, ((∃ v, C0.own l v) ∨ (∃ n v, C0.ptr l n v) ∨ (∃ s i n v, C0.eptr l s i n v) ∨ ∃ v, C0.it l v) → l.1 < 1000 ∧ l.2 = 0
theorem contract_hold {f : FuncId} {fn : Func} {c : Code} (hf : P.funcs[f]? = some fn) (hb : fn.body = some c) {args targs : List T} {k : Nat} {u : List (Loc × O)} {res : T} {outs : List T} {fz : Bool}
    (ho : opnL key0 0 args = (targs, k, u)) (hk : k ≤ 1000) (hlen : args.length ≤ fn.ntmps)
    (hwp : ∀ (C0 : Ctx) (B : Base) (a : Act) (w : World), EntryCtx C0 → Hold C0 B (entrySt fn.ntmps targs u) a w → c.wp P (fun e a' w' => (e = .normal ∨ e = .ret) ∧ ∃ S', Hold C0 B S' a' w' ∧ Ends P fn fz targs res outs S') a w) : Contract P f args res outs := by
  intro w ok vals bs hx hnd hbs hokl hG
  obtain ⟨hkp, Z, z1, z2, hZ⟩ := opnL_ok (w := w) (ok := ok) args 0 targs k u vals bs ho hx
  have hksn : (u.map (·.1)).Nodup := hkp.nd (fun a b hab => congrArg Prod.fst hab) .nil (by simp)
  have hzs : (Z.map (·.2)).Nodup := by rw [z2]; exact hnd
  let B : Base := { w0 := w, bs := bs, ok0 := ok }
  generalize hS : entrySt fn.ntmps targs u = S at hwp
  have hSσ : S.σ = updL (fun _ => none) (u.map fun e => (e.1, some e.2)) := by rw [← hS]; rfl
  have hScnt : S.cnt = fun s => if s < 1000 then 1 else 0 := by rw [← hS]; rfl
  have hSτ : S.τ = fun i => targs.getD i .dead := by rw [← hS]; rfl
  have hSnt : S.nt = fn.ntmps := by rw [← hS]; rfl
  have hmm : (u.map (fun e : Loc × O => (e.1, some e.2))).map (·.1) = u.map (·.1) := by simp [List.map_map, Function.comp_def]
  have hσin : ∀ e ∈ u, S.σ e.1 = some e.2 := fun e he => by
    rw [hSσ]
    exact updL_in (e := (e.1, some e.2)) (by rw [hmm]; exact hksn) (List.mem_map_of_mem (f := fun e : Loc × O => (e.1, some e.2)) he)
  have hσex : ∀ l o, S.σ l = some o → ∃ e ∈ u, e.1 = l ∧ e.2 = o := by
    intro l o hl
    by_cases hin : l ∈ u.map (·.1)
    · obtain ⟨e, he, rfl⟩ := List.mem_map.1 hin
      have := hσin e he
      rw [hl] at this
      injection this with this
      exact ⟨e, he, rfl, this.symm⟩
    · rw [hSσ, updL_not (by rw [hmm]; exact hin)] at hl
      simp at hl
  let inj : Loc → Nat := asg (fun _ => 0) Z
  have hin : ∀ z ∈ Z, inj z.1 = z.2 := fun z hz => asg_in (by rw [z1]; exact hksn) hz
  have hkey : ∀ e ∈ u, ∃ z ∈ Z, z.1 = e.1 := fun e he => by
    have : e.1 ∈ Z.map (·.1) := by rw [z1]; exact List.mem_map_of_mem he
    obtain ⟨z, hz, hze⟩ := List.mem_map.1 this
    exact ⟨z, hz, hze⟩
  have hzb : ∀ z ∈ Z, z.2 ∈ bs := fun z hz => by rw [← z2]; exact List.mem_map_of_mem hz
  have hcase : ∀ l o, S.σ l = some o → ∃ e ∈ u, e.1 = l ∧ e.2 = o ∧ ∃ z ∈ Z, z.1 = l ∧ inj l = z.2 := by
    intro l o hl
    obtain ⟨e, he, rfl, rfl⟩ := hσex l o hl
    obtain ⟨z, hz, hze⟩ := hkey e he
    exact ⟨e, he, rfl, rfl, z, hz, hze, by rw [← hze]; exact hin z hz⟩
  have hfresh : ∀ e ∈ u, e.1.2 < S.cnt e.1.1 := by
    intro e he
    rcases hkp.mem _ (List.mem_map_of_mem he) with h1 | ⟨n, _, hn, h1⟩
    · simp at h1
    · rw [h1, hScnt]
      have hlt : (key0 n).1 < 1000 := by show n < 1000; omega
      show 0 < if (key0 n).1 < 1000 then 1 else 0
      rw [if_pos hlt]
      exact Nat.one_pos
  have hok : ∀ k, ok k → (sctx B w inj S.σ S.cnt).ok k := by
    intro k hk
    refine ⟨.inl hk, hokl k hk, ?_⟩
    rintro ⟨l, o, hl, he⟩
    obtain ⟨_, _, _, _, z, hz, _, hiz⟩ := hcase l o hl
    have := (hbs z.2 (hzb z hz)).2
    rw [← hiz, he] at this
    exact this hk
  obtain ⟨hra, hob⟩ := hZ B inj S.σ S.cnt ⟨hin, fun e he => ⟨hσin e he, hfresh e he⟩, hok⟩
  have hSR : SR B w inj S.σ S.cnt := by
    refine ⟨Fr.refl _ w, ?_, ?_, ?_, ?_, ?_⟩
    · intro l o hl
      obtain ⟨_, _, _, _, z, hz, _, hiz⟩ := hcase l o hl
      rw [hiz]; exact (hbs z.2 (hzb z hz)).1
    · intro l l' o o' h1 h2 he
      obtain ⟨_, _, _, _, z, hz, hzl, hiz⟩ := hcase l o h1
      obtain ⟨_, _, _, _, z', hz', hzl', hiz'⟩ := hcase l' o' h2
      have := snd_uniq hzs hz hz' (by rw [← hiz, ← hiz']; exact he)
      rw [← hzl, ← hzl', this]
    · intro l o hl
      obtain ⟨e, he, rfl, rfl, _⟩ := hcase l o hl
      exact hob e he
    · intro l o hl
      obtain ⟨e, he, rfl, rfl, _⟩ := hcase l o hl
      exact hfresh e he
    · intro l o hl
      obtain ⟨_, _, _, _, z, hz, _, hiz⟩ := hcase l o hl
      rw [hiz]; exact .inl (hzb z hz)
  have hvl : vals.length = args.length := hx.len.symm
  have htl : targs.length = vals.length := hra.1
  let a : Act := { tmps := vals.toArray ++ Array.replicate (fn.ntmps - vals.toArray.size) undef, defers := [] }
  have hSl : Sl (sctx B w inj S.σ S.cnt) S a := by
    refine ⟨?_, rfl, fun i => ?_, hG.mono fun k hk => ⟨hok k hk, rfl⟩⟩
    · rw [hSnt]
      show (vals.toArray ++ Array.replicate (fn.ntmps - vals.toArray.size) undef).size = fn.ntmps
      simp
      omega
    · rw [hSτ]
      show Rep _ (targs.getD i .dead) ((vals.toArray ++ Array.replicate (fn.ntmps - vals.toArray.size) undef).getD i undef)
      rw [Array.getD_eq_getD_getElem?, Array.getElem?_append, List.getD_eq_getElem?_getD]
      by_cases hi : i < vals.length
      · rw [if_pos (by simpa using hi)]
        have h1 : targs[i]? = some targs[i] := List.getElem?_eq_getElem (by omega)
        have h2 : vals.toArray[i]? = some vals[i] := by simp [hi]
        rw [h1, h2]
        exact hra.2 i _ _ h1 (List.getElem?_eq_getElem hi)
      · have h1 : targs[i]? = none := List.getElem?_eq_none (by omega)
        rw [h1]
        exact .dead
  have hH : Hold (sctx B w inj S.σ S.cnt) B S a w := ⟨inj, hSR, hSl, Ctx.le.refl _⟩
  have hE : EntryCtx (sctx B w inj S.σ S.cnt) := by
    have hz : ∀ l : Loc, l.2 < S.cnt l.1 → l.1 < 1000 ∧ l.2 = 0 := by
      intro l hl
      rw [hScnt] at hl
      simp only at hl
      split at hl
      · exact ⟨by assumption, by omega⟩
      · omega
    rintro l (⟨v, h1, _⟩ | ⟨n, v, h1, _⟩ | ⟨s, i, n, v, h1, _⟩ | ⟨v, h1, _⟩) <;> exact hz l h1
  refine calls_of_wp hf hb (Go.wp_mono (hwp _ B a w hE hH) ?_)
  rintro e a' w' ⟨hex, S', hH', rs, rs', m, r, m', hrs, hcl, hout, hnm, rfl⟩
  simp only [Bool.and_eq_true, List.all_eq_true, Bool.not_eq_true', List.contains_eq_mem, decide_eq_false_iff_not] at hnm
  obtain ⟨hnm, hrm⟩ := hnm
  obtain ⟨inj', h1, h2, h3⟩ := hH'
  obtain ⟨vs, hvs, hrep⟩ := run_results h1 h2 hrs
  have hras := hra.mono h3
  have hokO : ∀ bb : List Nat, (∀ k ∈ bb, owned S'.σ inj' k) → ∀ k, (sctx B w' inj' S'.σ S'.cnt).ok k → okOut w w' ok bs bb k := by
    rintro bb hbb k ⟨g1, g2, g3⟩
    exact ⟨g1, g2, fun hk => g3 (hbb k hk)⟩
  have hmal := (closeR_ok h1 (ok := fun _ => True) (fun _ _ => trivial) (fun _ _ => trivial) hcl hrep).2.1
  have hral := (closeR_ok h1 (ok := fun _ => True) (fun _ _ => trivial) (fun _ _ => trivial) hcl hrep).2.2
  have hmal' := (outTL_ok h1 (ok := fun _ => True) (fun _ _ => trivial) targs outs m' vals hout hras).2
  have hall : ∀ l ∈ m ++ m', ∃ o, S'.σ l = some o := by
    intro l hl
    have hne : S'.σ l ≠ none := (List.mem_append.1 hl).elim (hmal l) (hmal' l)
    cases hs : S'.σ l with
    | none => exact absurd hs hne
    | some o => exact ⟨o, rfl⟩
  have hbb : ∀ k ∈ kblks inj' m ++ kblks inj' m', owned S'.σ inj' k := by
    intro k hk
    have hk : k ∈ (m ++ m').map inj' := by rw [List.map_append]; exact hk
    obtain ⟨l, hl, rfl⟩ := List.mem_map.1 hk
    obtain ⟨o, ho⟩ := hall l hl
    exact ⟨l, o, ho, rfl⟩
  have hokR : ∀ k, blks inj' r k → okOut w w' ok bs (kblks inj' m ++ kblks inj' m') k := by
    rintro k ⟨l, hl, rfl⟩
    cases hs : S'.σ l with
    | none => exact absurd hs (hral l hl)
    | some o =>
      refine ⟨(h1.mine l o hs).elim (fun x => .inr (.inl x)) (fun x => .inr (.inr x)), h1.lt l o hs, fun hk => ?_⟩
      have hk : inj' l ∈ (m ++ m').map inj' := by rw [List.map_append]; exact hk
      obtain ⟨l', hl', he⟩ := List.mem_map.1 hk
      obtain ⟨o', ho'⟩ := hall l' hl'
      have := h1.uniq l' l o' o ho' hs he
      subst this
      exact hrm l' hl hl'
  have hX := canL2_X (P := P) fn.resultTypes.toList _ _ _ (closeR_ok h1 (hokO _ hbb) hokR hcl hrep).1
  have hO := (outTL_ok h1 (hokO _ hbb) targs outs m' vals hout hras).1
  have hfin : bodyPost P fn (fun e w' => ∃ (v : Value) (b1 b2 : List Nat), e = .returned v ∧ (b1 ++ b2).Nodup ∧ (∀ k ∈ b1 ++ b2, (k ∈ bs ∨ w.heap.size ≤ k) ∧ k < w'.heap.size) ∧ Fr (· ∈ bs) w w' ∧
      RepX w' (okOut w w' ok bs (b1 ++ b2)) (resT (canL2 P fn.resultTypes.toList rs')) v b1 ∧ RepXL w' (okOut w w' ok bs (b1 ++ b2)) outs vals b2) .normal a' w' := by
    refine ⟨h2.defers, _, results_run hvs, _, kblks inj' m, kblks inj' m', rfl, ?_, ?_, h1.fr, resT_ok hX, hO⟩
    · have := kblks_nodup h1 (nodupL_ok hnm) (fun l hl => by obtain ⟨o, ho⟩ := hall l hl; rw [ho]; simp)
      simpa [kblks] using this
    · intro k hk
      obtain ⟨l, o, ho, rfl⟩ := hbb k hk
      exact ⟨h1.mine l o ho, h1.lt l o ho⟩
  rcases hex with rfl | rfl
  · exact hfin
  · exact hfin
end
end Go.Proofs.YtfknpnkdedckhaaGreatDoorT

/- The interpreter over trees: an operation looks only at its operands, at the keys that it reads, at the counts of what it makes. -/
namespace Go.Proofs.YtfknpnkdedckhaaGreatDoorT
open Go Go.RowKit
set_option linter.unusedVariables false

section
variable {P : Program} {σ σ' : Loc → Option O}
mutual
theorem frz_loc : ∀ (t t' : T) (r : List Loc), frz σ t = some (t', r) → (∀ l ∈ r, σ' l = σ l) → frz σ' t = some (t', r)
  | .s u, t', r, h, ha => by
    have e : frz σ' (.s u) = frz σ (.s u) := by
      unfold frz
      split <;> simp_all
    rw [e]; exact h
  | .agg cs, t', r, h, ha => by
    unfold frz at h ⊢
    split at h
    · rename_i cs' r' he
      injection h with h; injection h with e1 e2; subst e1; subst e2
      rw [frzL_loc cs cs' r' he ha]
    · simp at h
  | .own l, t', r, h, ha => by
    unfold frz at h ⊢
    split at h
    · rename_i e sz xs hl
      injection h with h; injection h with e1 e2; subst e1; subst e2
      rw [ha l (List.mem_singleton.2 rfl), hl]
    · simp at h
  | .sl sz xs, t', r, h, ha => by unfold frz at h ⊢; exact h
  | .ifc t x, t', r, h, ha => by unfold frz at h ⊢; exact h
  | .ep cs, t', r, h, ha => by unfold frz at h ⊢; exact h
  | .tup _, t', r, h, ha => by simp [frz] at h
  | .ptr _ _, t', r, h, ha => by simp [frz] at h
  | .eptr _ _ _ _, t', r, h, ha => by simp [frz] at h
  | .fn _ _ _, t', r, h, ha => by simp [frz] at h
  | .it _, t', r, h, ha => by simp [frz] at h
  | .cown _ _ _, t', r, h, ha => by simp [frz] at h
  | .cbox _ _, t', r, h, ha => by simp [frz] at h
  | .dead, t', r, h, ha => by simp [frz] at h
theorem frzL_loc : ∀ (cs cs' : List T) (r : List Loc), frzL σ cs = some (cs', r) → (∀ l ∈ r, σ' l = σ l) → frzL σ' cs = some (cs', r)
  | [], cs', r, h, ha => by unfold frzL at h ⊢; exact h
  | x :: cs, cs', r, h, ha => by
    unfold frzL at h ⊢
    split at h
    · rename_i x' a r' b he1 he2
      injection h with h; injection h with e1 e2; subst e1; subst e2
      rw [frz_loc x x' a he1 (fun l hl => ha l (List.mem_append_left _ hl)), frzL_loc cs r' b he2 (fun l hl => ha l (List.mem_append_right _ hl))]
    · simp at h
end
def RecLoc (σ σ' : Loc → Option O) (rec rec' : List T → Option (List T × List Loc)) : Prop := ∀ (cs cs' : List T) (m : List Loc), rec cs = some (cs', m) → (∀ l ∈ m, σ' l = σ l) → rec' cs = some (cs', m)
mutual
theorem clsT_loc {rec rec' : List T → Option (List T × List Loc)} (hrec : RecLoc σ σ' rec rec') : ∀ (t t' : T) (m : List Loc), clsT σ rec t = some (t', m) → (∀ l ∈ m, σ' l = σ l) → clsT σ' rec' t = some (t', m)
  | .s u, t', m, h, ha => by unfold clsT at h ⊢; exact h
  | .agg cs, t', m, h, ha => by
    unfold clsT at h ⊢
    split at h
    · rename_i cs' m' he
      injection h with h; injection h with e1 e2; subst e1; subst e2
      rw [clsTL_loc hrec cs cs' m' he ha]
    · simp at h
  | .tup cs, t', m, h, ha => by
    unfold clsT at h ⊢
    split at h
    · rename_i cs' m' he
      injection h with h; injection h with e1 e2; subst e1; subst e2
      rw [clsTL_loc hrec cs cs' m' he ha]
    · simp at h
  | .fn f fs cs, t', m, h, ha => by
    unfold clsT at h ⊢
    split at h
    · rename_i fs' a cs' b he1 he2
      injection h with h; injection h with e1 e2; subst e1; subst e2
      rw [clsTL_loc hrec fs fs' a he1 (fun l hl => ha l (List.mem_append_left _ hl)), clsTL_loc hrec cs cs' b he2 (fun l hl => ha l (List.mem_append_right _ hl))]
    · simp at h
  | .own l, t', m, h, ha => by
    unfold clsT at h ⊢
    split at h
    · rename_i e sz xs hl
      injection h with h; injection h with e1 e2; subst e1; subst e2
      rw [ha l (List.mem_singleton.2 rfl), hl]
    · simp at h
  | .ptr l off, t', m, h, ha => by
    unfold clsT at h ⊢
    split at h
    · rename_i ho
      rw [if_pos ho]
      split at h
      · rename_i ty cs hl
        split at h
        · rename_i cs' m' he
          injection h with h; injection h with e1 e2; subst e1; subst e2
          rw [ha l (List.mem_cons_self ..), hl]
          simp only [hrec cs cs' m' he (fun l' hl' => ha l' (List.mem_cons_of_mem _ hl'))]
        · simp at h
      · simp at h
    · simp at h
  | .sl sz xs, t', m, h, ha => by unfold clsT at h ⊢; exact h
  | .ifc t x, t', m, h, ha => by unfold clsT at h ⊢; exact h
  | .ep cs, t', m, h, ha => by unfold clsT at h ⊢; exact h
  | .eptr _ _ _ _, t', m, h, ha => by simp [clsT] at h
  | .it _, t', m, h, ha => by simp [clsT] at h
  | .cown _ _ _, t', m, h, ha => by simp [clsT] at h
  | .cbox _ _, t', m, h, ha => by simp [clsT] at h
  | .dead, t', m, h, ha => by simp [clsT] at h
theorem clsTL_loc {rec rec' : List T → Option (List T × List Loc)} (hrec : RecLoc σ σ' rec rec') : ∀ (cs cs' : List T) (m : List Loc), clsTL σ rec cs = some (cs', m) → (∀ l ∈ m, σ' l = σ l) → clsTL σ' rec' cs = some (cs', m)
  | [], cs', m, h, ha => by unfold clsTL at h ⊢; exact h
  | x :: cs, cs', m, h, ha => by
    unfold clsTL at h ⊢
    split at h
    · rename_i x' a r' b he1 he2
      injection h with h; injection h with e1 e2; subst e1; subst e2
      rw [clsT_loc hrec x x' a he1 (fun l hl => ha l (List.mem_append_left _ hl)), clsTL_loc hrec cs r' b he2 (fun l hl => ha l (List.mem_append_right _ hl))]
    · simp at h
end
theorem clsL_loc : ∀ d, RecLoc σ σ' (clsL σ d) (clsL σ' d)
  | 0 => fun cs cs' m h ha => by
    unfold clsL at h ⊢
    exact clsTL_loc (fun _ _ _ hh => by simp at hh) cs cs' m h ha
  | d + 1 => fun cs cs' m h ha => by
    unfold clsL at h ⊢
    exact clsTL_loc (clsL_loc d) cs cs' m h ha
theorem cls_loc (t t' : T) (m : List Loc) (h : cls σ t = some (t', m)) (ha : ∀ l ∈ m, σ' l = σ l) : cls σ' t = some (t', m) := clsT_loc (clsL_loc 4) t t' m h ha
theorem argC_loc {mv : Bool} {t t' : T} {m r : List Loc} (h : argC σ mv t = some (t', m, r)) (ha : ∀ l ∈ m ++ r, σ' l = σ l) : argC σ' mv t = some (t', m, r) := by
  have viaC : ∀ t, (match cls σ t with | some (t, m) => some (t, m, []) | none => none) = some (t', m, r) → (match cls σ' t with | some (t, m) => some (t, m, []) | none => none) = some (t', m, r) := by
    intro t h
    split at h
    · rename_i t1 m1 he
      injection h with h; injection h with e1 e2; injection e2 with e2 e3; subst e1; subst e2; subst e3
      rw [cls_loc _ _ _ he (fun l hl => ha l (List.mem_append_left _ hl))]
    · simp at h
  have viaF : ∀ t, (match frz σ t with | some (t, r) => some (t, [], r) | none => none) = some (t', m, r) → (match frz σ' t with | some (t, r) => some (t, [], r) | none => none) = some (t', m, r) := by
    intro t h
    split at h
    · rename_i t1 m1 he
      injection h with h; injection h with e1 e2; injection e2 with e2 e3; subst e1; subst e2; subst e3
      rw [frz_loc _ _ _ he (fun l hl => ha l (List.mem_append_right _ hl))]
    · simp at h
  unfold argC at h ⊢
  split at h
  · exact viaC _ h
  · exact viaC _ h
  · split at h
    · rename_i hmv; simp only [hmv, if_true]; exact viaC _ h
    · rename_i hmv; simp only [hmv]; exact viaF _ h
  · exact viaF _ h
theorem argCL_loc {mv : Bool} : ∀ (ts ts' : List T) (m r : List Loc), argCL σ mv ts = some (ts', m, r) → (∀ l ∈ m ++ r, σ' l = σ l) → argCL σ' mv ts = some (ts', m, r)
  | [], ts', m, r, h, ha => by unfold argCL at h ⊢; exact h
  | x :: ts, ts', m, r, h, ha => by
    unfold argCL at h ⊢
    split at h
    · rename_i x' m1 a1 r' m2 a2 he1 he2
      injection h with h; injection h with e1 e2; injection e2 with e2 e3; subst e1; subst e2; subst e3
      rw [argC_loc he1 (fun l hl => ha l (by simp only [List.mem_append] at hl ⊢; rcases hl with hl | hl <;> simp [hl])), argCL_loc ts r' m2 a2 he2 (fun l hl => ha l (by simp only [List.mem_append] at hl ⊢; rcases hl with hl | hl <;> simp [hl]))]
    · simp at h
theorem srcOf_loc {sz : Nat} {x : T} {ys : List T} {r : List Loc} (h : srcOf σ sz x = some (ys, r)) (ha : ∀ l ∈ r, σ' l = σ l) : srcOf σ' sz x = some (ys, r) := by
  unfold srcOf at h ⊢
  split at h
  · exact h
  · rename_i l
    split at h
    · rename_i e sz' ys' hl
      split at h
      · rename_i hc
        injection h with h; injection h with e1 e2; subst e1; subst e2
        simp only [ha l (List.mem_singleton.2 rfl), hl, if_pos hc]
      · simp at h
    · simp at h
  · exact h
  · simp at h
/-! ### New keys -/
variable {key key' : Nat → Loc}
mutual
theorem opn_le : ∀ (t : T) (i : Nat), i ≤ (opn key i t).2.1
    | .cown e sz xs, i => Nat.le_succ i
    | .cbox ty cs, i => Nat.le_trans (Nat.le_succ i) (opnL_le cs (i + 1))
    | .agg cs, i => opnL_le cs i
    | .tup cs, i => opnL_le cs i
    | .fn f fs cs, i => Nat.le_trans (opnL_le fs i) (opnL_le cs _)
    | .s _, i => Nat.le_refl i
    | .ifc _ _, i => Nat.le_refl i
    | .sl _ _, i => Nat.le_refl i
    | .own _, i => Nat.le_refl i
    | .ptr _ _, i => Nat.le_refl i
    | .ep _, i => Nat.le_refl i
    | .eptr _ _ _ _, i => Nat.le_refl i
    | .it _, i => Nat.le_refl i
    | .dead, i => Nat.le_refl i
theorem opnL_le : ∀ (ts : List T) (i : Nat), i ≤ (opnL key i ts).2.1
    | [], i => Nat.le_refl i
    | x :: r, i => Nat.le_trans (opn_le x i) (opnL_le r _)
end
mutual
theorem opn_loc : ∀ (t : T) (i : Nat), (∀ n, i ≤ n → n < (opn key i t).2.1 → key' n = key n) → opn key' i t = opn key i t
  | .cown e sz xs, i, h => by
    have := h i (Nat.le_refl _) (Nat.lt_succ_self i)
    simp only [opn, this]
  | .cbox ty cs, i, h => by
    have hle := opnL_le (key := key) cs (i + 1)
    have h1 := h i (Nat.le_refl _) hle
    have h2 := opnL_loc cs (i + 1) (fun n hn hlt => h n (by omega) hlt)
    simp only [opn, h1, h2]
  | .agg cs, i, h => by
    have h2 := opnL_loc cs i (fun n hn hlt => h n hn hlt)
    simp only [opn, h2]
  | .tup cs, i, h => by
    have h2 := opnL_loc cs i (fun n hn hlt => h n hn hlt)
    simp only [opn, h2]
  | .fn f fs cs, i, h => by
    have l1 := opnL_le (key := key) fs i
    have l2 := opnL_le (key := key) cs (opnL key i fs).2.1
    have h1 := opnL_loc fs i (fun n hn hlt => h n hn (Nat.lt_of_lt_of_le hlt l2))
    have h2 := opnL_loc cs (opnL key i fs).2.1 (fun n hn hlt => h n (Nat.le_trans l1 hn) hlt)
    simp only [opn, h1, h2]
  | .s _, i, h => rfl
  | .ifc _ _, i, h => rfl
  | .sl _ _, i, h => rfl
  | .own _, i, h => rfl
  | .ptr _ _, i, h => rfl
  | .ep _, i, h => rfl
  | .eptr _ _ _ _, i, h => rfl
  | .it _, i, h => rfl
  | .dead, i, h => rfl
theorem opnL_loc : ∀ (ts : List T) (i : Nat), (∀ n, i ≤ n → n < (opnL key i ts).2.1 → key' n = key n) → opnL key' i ts = opnL key i ts
  | [], i, h => rfl
  | x :: r, i, h => by
    have l1 := opn_le (key := key) x i
    have l2 := opnL_le (key := key) r (opn key i x).2.1
    have h1 := opn_loc x i (fun n hn hlt => h n hn (Nat.lt_of_lt_of_le hlt l2))
    have h2 := opnL_loc r (opn key i x).2.1 (fun n hn hlt => h n (Nat.le_trans l1 hn) hlt)
    simp only [opnL, h1, h2]
end
theorem opn_loc' {t t' : T} {i j : Nat} {u : List (Loc × O)} (h : opn key i t = (t', j, u)) (ha : ∀ n, i ≤ n → n < j → key' n = key n) : opn key' i t = (t', j, u) := by
  rw [opn_loc t i (by rw [h]; exact ha), h]
theorem opnL_loc' {t t' : List T} {i j : Nat} {u : List (Loc × O)} (h : opnL key i t = (t', j, u)) (ha : ∀ n, i ≤ n → n < j → key' n = key n) : opnL key' i t = (t', j, u) := by
  rw [opnL_loc t i (by rw [h]; exact ha), h]
theorem backC_le : ∀ (cs cs' : List T) (i j : Nat) (u : List (Loc × O)), backC key i cs cs' = some (j, u) → i ≤ j := by
  intro cs
  induction cs with
  | nil =>
    intro cs' i j u hb
    cases cs' with
    | nil => simp [backC] at hb; omega
    | cons => simp [backC] at hb
  | cons x r ih =>
    intro cs' i j u hb
    unfold backC at hb
    split at hb
    · rename_i e1; simp at e1
    · rename_i l off r0 ty cs1 r' e1
      injection e1 with e1 e2
      subst e1; subst e2
      cases hc : opnL key i cs1 with
      | mk cs2 q =>
        obtain ⟨j1, u1⟩ := q
        rw [hc] at hb
        simp only at hb
        cases hb2 : backC key j1 r r' with
        | none => rw [hb2] at hb; simp at hb
        | some q2 =>
          obtain ⟨k, u2⟩ := q2
          rw [hb2] at hb
          simp only [Option.some.injEq, Prod.mk.injEq] at hb
          obtain ⟨rfl, rfl⟩ := hb
          have := opnL_le (key := key) cs1 i
          rw [hc] at this
          exact Nat.le_trans this (ih r' j1 k u2 hb2)
    · simp at hb
    · rename_i x0 r0 y0 r' hov hne e1
      injection e1 with e1 e2
      subst e1; subst e2
      exact ih r' i j u hb
    · simp at hb
theorem backC_loc : ∀ (cs cs' : List T) (i j : Nat) (u : List (Loc × O)), backC key i cs cs' = some (j, u) → (∀ n, i ≤ n → n < j → key' n = key n) → backC key' i cs cs' = some (j, u) := by
  intro cs
  induction cs with
  | nil =>
    intro cs' i j u hb ha
    cases cs' with
    | nil => exact hb
    | cons => simp [backC] at hb
  | cons x r ih =>
    intro cs' i j u hb ha
    unfold backC at hb
    split at hb
    · rename_i e1; simp at e1
    · rename_i l off r0 ty cs1 r' e1
      injection e1 with e1 e2
      subst e1; subst e2
      cases hc : opnL key i cs1 with
      | mk cs2 q =>
        obtain ⟨j1, u1⟩ := q
        rw [hc] at hb
        simp only at hb
        cases hb2 : backC key j1 r r' with
        | none => rw [hb2] at hb; simp at hb
        | some q2 =>
          obtain ⟨k, u2⟩ := q2
          rw [hb2] at hb
          simp only [Option.some.injEq, Prod.mk.injEq] at hb
          obtain ⟨rfl, rfl⟩ := hb
          have l1 := opnL_le (key := key) cs1 i
          rw [hc] at l1
          have l2 := backC_le r r' j1 k u2 hb2
          have h1 := opnL_loc' hc (fun n hn hlt => ha n hn (Nat.lt_of_lt_of_le hlt l2))
          have h2 := ih r' j1 k u2 hb2 (fun n hn hlt => ha n (Nat.le_trans l1 hn) hlt)
          simp only [backC, h1, h2]
    · simp at hb
    · rename_i x0 r0 y0 r' hov hne e1
      injection e1 with e1 e2
      subst e1; subst e2
      have h2 := ih r' i j u hb ha
      cases x <;> first | exact absurd rfl (hne _ _) | simp only [backC, h2]
    · simp at hb
theorem backT_le {mv : Bool} {x y : T} {i j : Nat} {u : List (Loc × O)} (hb : backT key mv i x y = some (j, u)) : i ≤ j := by
  unfold backT at hb
  split at hb
  · rename_i l off ty cs
    cases hc : opnL key i cs with
    | mk cs2 q =>
      obtain ⟨j1, u1⟩ := q
      rw [hc] at hb
      simp only [Option.some.injEq, Prod.mk.injEq] at hb
      obtain ⟨rfl, rfl⟩ := hb
      have := opnL_le (key := key) cs i
      rw [hc] at this
      exact this
  · split at hb
    · injection hb with hb; injection hb with e1 e2; omega
    · simp at hb
  · exact backC_le _ _ _ _ _ hb
  · injection hb with hb; injection hb with e1 e2; omega
theorem backT_loc {mv : Bool} {x y : T} {i j : Nat} {u : List (Loc × O)} (hb : backT key mv i x y = some (j, u)) (ha : ∀ n, i ≤ n → n < j → key' n = key n) : backT key' mv i x y = some (j, u) := by
  unfold backT at hb ⊢
  split at hb
  · rename_i l off ty cs
    cases hc : opnL key i cs with
    | mk cs2 q =>
      obtain ⟨j1, u1⟩ := q
      rw [hc] at hb
      simp only [Option.some.injEq, Prod.mk.injEq] at hb
      obtain ⟨rfl, rfl⟩ := hb
      simp only [opnL_loc' hc ha]
  · exact hb
  · exact backC_loc _ _ _ _ _ hb ha
  · exact hb
theorem backL_le {mv : Bool} : ∀ (xs ys : List T) (i j : Nat) (u : List (Loc × O)), backL key mv i xs ys = some (j, u) → i ≤ j
  | [], [], i, j, u, hb => by simp [backL] at hb; omega
  | [], _ :: _, i, j, u, hb => by simp [backL] at hb
  | _ :: _, [], i, j, u, hb => by simp [backL] at hb
  | x :: xs, y :: ys, i, j, u, hb => by
    unfold backL at hb
    split at hb
    · rename_i j1 u1 he1
      split at hb
      · rename_i k u2 he2
        injection hb with hb; injection hb with e1 e2; subst e1
        exact Nat.le_trans (backT_le he1) (backL_le xs ys j1 k u2 he2)
      · simp at hb
    · simp at hb
theorem backL_loc {mv : Bool} : ∀ (xs ys : List T) (i j : Nat) (u : List (Loc × O)), backL key mv i xs ys = some (j, u) → (∀ n, i ≤ n → n < j → key' n = key n) → backL key' mv i xs ys = some (j, u)
  | [], [], i, j, u, hb, ha => hb
  | [], _ :: _, i, j, u, hb, ha => by simp [backL] at hb
  | _ :: _, [], i, j, u, hb, ha => by simp [backL] at hb
  | x :: xs, y :: ys, i, j, u, hb, ha => by
    unfold backL at hb
    split at hb
    · rename_i j1 u1 he1
      split at hb
      · rename_i k u2 he2
        injection hb with hb; injection hb with e1 e2; subst e1; subst e2
        have l1 := backT_le he1
        have l2 := backL_le xs ys j1 k u2 he2
        simp only [backL, backT_loc he1 (fun n hn hlt => ha n hn (Nat.lt_of_lt_of_le hlt l2)), backL_loc xs ys j1 k u2 he2 (fun n hn hlt => ha n (Nat.le_trans l1 hn) hlt)]
      · simp at hb
    · simp at hb
theorem frzC_loc {P : Program} {ty : TypeId} {t t' : T} {r : List Loc} (h : frzC P ty σ t = some (t', r)) (ha : ∀ l ∈ r, σ' l = σ l) : frzC P ty σ' t = some (t', r) := by
  unfold frzC at h ⊢
  split at h
  · rename_i y r' he
    injection h with h; injection h with e1 e2; subst e1; subst e2
    rw [frz_loc t y r' he ha]
  · simp at h
/-- A call looks at what it moves and reads, and at its own counts. -/
theorem evCall_loc {S S' : St} {call : FuncId → List T → Option (T × List T)} {mv : FuncId → Bool} {site : Nat} {f : FuncId} {args : List T} {d : Dl} (hd : evCall S call mv site f args = some d) (hσ : ∀ l ∈ d.rd, S'.σ l = S.σ l) (hc : ∀ s ∈ d.bump, S'.cnt s = S.cnt s) : evCall S' call mv site f args = some d := by
  unfold evCall at hd
  split at hd
  · rename_i cargs m r harg
    split at hd
    · rename_i hnd
      split at hd
      · rename_i res outs hcall
        split at hd
        · rename_i j u hback
          cases hop : opn (ckey site S.cnt) j res with
          | mk res' q =>
          obtain ⟨k, u'⟩ := q
          rw [hop] at hd
          simp only at hd
          split at hd
          · rename_i hchk
            injection hd with hd
            have hrd : d.rd = m ++ r ++ u.map (·.1) := by rw [← hd]
            have hbm : d.bump = (List.range k).map (site + 1 + ·) := by rw [← hd]
            rw [hrd] at hσ
            rw [hbm] at hc
            have hk : ∀ n, n < k → ckey site S'.cnt n = ckey site S.cnt n := fun n hn => by
              unfold ckey
              rw [hc (site + 1 + n) (List.mem_map.2 ⟨n, List.mem_range.2 hn, rfl⟩)]
            have l2 := opn_le (key := ckey site S.cnt) res j
            rw [hop] at l2
            have h1 := argCL_loc (σ' := S'.σ) args cargs m r harg (fun l hl => hσ l (List.mem_append_left _ hl))
            have h2 := backL_loc (key' := ckey site S'.cnt) args outs 0 j u hback (fun n _ hlt => hk n (Nat.lt_of_lt_of_le hlt l2))
            have h3 := opn_loc' (key' := ckey site S'.cnt) hop (fun n _ hlt => hk n hlt)
            have h4 : (u.all fun e => match S'.σ e.1 with | some o => likeB o e.2 | none => true) = u.all fun e => match S.σ e.1 with | some o => likeB o e.2 | none => true := by
              refine Bool.eq_iff_iff.2 ?_
              simp only [List.all_eq_true]
              constructor
              · intro hh e he
                have := hh e he
                rw [hσ e.1 (List.mem_append_right _ (List.mem_map_of_mem he))] at this
                exact this
              · intro hh e he
                rw [hσ e.1 (List.mem_append_right _ (List.mem_map_of_mem he))]
                exact hh e he
            unfold evCall
            simp only [h1, hnd, if_true, hcall, h2, h3]
            rw [hd]
            exact if_pos ((congrArg (decide (k ≤ 62) && ·) h4).trans hchk)
          · simp at hd
        · simp at hd
      · simp at hd
    · simp at hd
  · simp at hd
/-- An operation looks at its operands. -/
theorem mem_fst {α β : Type} {ps : List (α × β)} {f g : β → T} (h : ∀ p ∈ ps, f p.2 = g p.2) : (ps.map fun p => (p.1, f p.2)) = ps.map fun p => (p.1, g p.2) := List.map_congr_left fun p hp => by rw [h p hp]
theorem evOp_slots {call : FuncId → List T → Option (T × List T)} {mv : FuncId → Bool} {site : Nat} {S : St} {τ' : Nat → T} {o : Oper} (hs : ∀ cs b, o.op ≠ .select cs b) (h : ∀ x ∈ o.op.operands, opd { S with τ := τ' } x = opd S x) :
    evOp P call mv site { S with τ := τ' } o = evOp P call mv site S o := by
  obtain ⟨dst, op, type, pos, after, guard⟩ := o
  cases op <;> simp only [Op.operands] at h <;> simp only [evOp]
  case move x => rw [h x (by simp)]
  case assign x => rw [h x (by simp)]
  case pick c p q => rw [h c (by simp), h p (by simp), h q (by simp)]
  case box t x => rw [h x (by simp)]
  case build t ps => rw [mem_fst (fun p hp => h p.2 (by simpa using ⟨p.1, Array.mem_toList_iff.1 hp⟩))]
  case buildSlice t n ps =>
    have e : (ps.toList.map fun p => opd { S with τ := τ' } p.2) = ps.toList.map fun p => opd S p.2 := List.map_congr_left fun p hp => h p.2 (by simpa using ⟨p.1, Array.mem_toList_iff.1 hp⟩)
    rw [e]
  case load t x => rw [h x (by simp)]; rfl
  case store t p x => rw [h x (by simp), h p (by simp)]; rfl
  case nilCheck x => rw [h x (by simp)]
  case binOp op t x y c => rw [h x (by simp), h y (by simp)]
  case unOp op t x => rw [h x (by simp)]
  case convert p q x => rw [h x (by simp)]
  case makeInterface t x => rw [h x (by simp)]
  case makeFunc f fs cs =>
    have e1 : fs.toList.map (opd { S with τ := τ' }) = fs.toList.map (opd S) := List.map_congr_left fun x hx => h x (by simp at hx ⊢; exact .inl hx)
    have e2 : cs.toList.map (opd { S with τ := τ' }) = cs.toList.map (opd S) := List.map_congr_left fun x hx => h x (by simp at hx ⊢; exact .inr hx)
    have e3 : (fs.toList ++ cs.toList).all (fun x => (opd { S with τ := τ' } x).ok1) = (fs.toList ++ cs.toList).all (fun x => (opd S x).ok1) := by
      refine Bool.eq_iff_iff.2 ?_
      simp only [List.all_eq_true]
      constructor
      · intro hh x hx
        rw [← h x (by simpa using hx)]; exact hh x hx
      · intro hh x hx
        rw [h x (by simpa using hx)]; exact hh x hx
    rw [e1, e2, e3]
  case slice t x lo hi mx =>
    have e1 : lo.map (opd { S with τ := τ' }) = lo.map (opd S) := by cases lo with | none => rfl | some y => simp [h y (by simp)]
    have e2 : hi.map (opd { S with τ := τ' }) = hi.map (opd S) := by cases hi with | none => rfl | some y => simp [h y (by simp)]
    cases mx with
    | none => simp only [e1, e2]; rw [h x (by simp)]; rfl
    | some y => rfl
  case fieldAddr t x i => rw [h x (by simp)]
  case field t x i => rw [h x (by simp)]
  case indexAddr t x i => rw [h x (by simp), h i (by simp)]; rfl
  case index t x i => rw [h x (by simp), h i (by simp)]
  case range t x => rw [h x (by simp)]
  case next x b => cases b with
    | true => simp only; rw [h x (by simp)]
    | false => rfl
  case typeAssert x xt t ok => rw [h x (by simp)]
  case extract x i => rw [h x (by simp)]
  case call c =>
    have ha : ∀ x ∈ c.args, opd { S with τ := τ' } x = opd S x := fun x hx => h x (by simp [Call.operands, hx])
    have hm : c.args.toList.map (opd { S with τ := τ' }) = c.args.toList.map (opd S) := List.map_congr_left fun x hx => ha x (by simpa using hx)
    cases hcal : c.callee with
    | builtin b =>
      cases b with
      | len =>
        simp only
        split
        · rename_i x hx
          rw [ha x (by have : x ∈ c.args.toList := by rw [hx]; simp
                       simpa using this)]
        · rfl
      | append =>
        simp only
        split
        · rename_i s x hx
          rw [ha s (by have : s ∈ c.args.toList := by rw [hx]; simp
                       simpa using this), ha x (by have : x ∈ c.args.toList := by rw [hx]; simp
                                                   simpa using this)]
          rfl
        · rfl
      | min => simp only [hm]
      | max => simp only [hm]
      | _ => rfl
    | value f =>
      have hf : opd { S with τ := τ' } f = opd S f := h f (by simp [Call.operands, hcal])
      simp only [hf, hm]
      rfl
    | invoke f m =>
      have hf : opd { S with τ := τ' } f = opd S f := h f (by simp [Call.operands, hcal])
      simp only [hf, hm]
      rfl
/-- An operation looks at the keys that it reads, and at the counts of what it makes. -/
theorem evOp_mem {call : FuncId → List T → Option (T × List T)} {mv : FuncId → Bool} {site : Nat} {S : St} {σ' : Loc → Option O} {cnt' : Nat → Nat} {o : Oper} {d : Dl} (hd : evOp P call mv site S o = some d) (hσ : ∀ l ∈ d.rd, σ' l = S.σ l) (hc : ∀ s ∈ d.bump, cnt' s = S.cnt s) :
    evOp P call mv site { S with σ := σ', cnt := cnt' } o = some d := by
  have ho : ∀ x, opd { S with σ := σ', cnt := cnt' } x = opd S x := fun x => by cases x <;> rfl
  have hof : opd { S with σ := σ', cnt := cnt' } = opd S := funext ho
  unfold evOp at hd ⊢
  rw [hof]
  split at hd <;> try exact hd
  · -- alloc
    split at hd
    · rename_i cs hz
      injection hd with hd; subst hd
      have := hc site (List.mem_singleton.2 rfl)
      simp only [this]
    · simp at hd
  · -- box
    split at hd
    · rename_i hk
      injection hd with hd; subst hd
      have := hc site (List.mem_singleton.2 rfl)
      simp only [hk, if_true, this]
    · simp at hd
  · -- buildSlice
    split at hd
    · rename_i e he
      split at hd
      · rename_i sz z hsz hz
        split at hd
        · simp at hd
        · rename_i hno
          split at hd
          · rename_i ze hze
            split at hd
            · rename_i ys r hf
              split at hd
              · rename_i xs hset
                injection hd with hd; subst hd
                have h1 := hc site (List.mem_singleton.2 rfl)
                have h2 := frzL_loc (σ' := σ') _ _ _ hf hσ
                simp only [if_neg hno, h2, hset, h1]
              · simp at hd
            · simp at hd
          · simp at hd
      · simp at hd
    · simp at hd
  · -- load
    unfold evLoad at hd ⊢
    split at hd
    · rename_i l off hv
      split at hd
      · rename_i ty cs hl
        split at hd
        · rename_i x hx
          injection hd with hd; subst hd
          have := hσ l (List.mem_singleton.2 rfl)
          simp only [this, hl, hx]
        · simp at hd
      · simp at hd
    · exact hd
    · rename_i l sz i off hv
      split at hd
      · rename_i e sz' xs hl
        split at hd
        · rename_i x hx
          split at hd
          · rename_i hk
            split at hd
            · rename_i y hy
              injection hd with hd; subst hd
              have := hσ l (List.mem_singleton.2 rfl)
              simp only [this, hl, hx, hk, if_true, hy]
            · simp at hd
          · simp at hd
        · simp at hd
      · simp at hd
    · simp at hd
  · -- store
    unfold evStore at hd ⊢
    split at hd
    · rename_i l off hv
      split at hd
      · rename_i ty cs n hl hs
        split at hd
        · rename_i hk
          injection hd with hd; subst hd
          have := hσ l (List.mem_singleton.2 rfl)
          simp only [this, hl, hs, hk, if_true]
        · simp at hd
      · simp at hd
    · rename_i l sz i off hv
      split at hd
      · rename_i e sz' xs n w r hl hs hf
        split at hd
        · rename_i x hx
          split at hd
          · rename_i hk
            have hrd : d.rd = l :: r := by
              split at hd
              · injection hd with hd; rw [← hd]
              · split at hd
                · simp at hd
                · injection hd with hd; rw [← hd]
            rw [hrd] at hσ
            have h1 := hσ l (List.mem_cons_self ..)
            have h2 := frzC_loc (σ' := σ') hf (fun l' hl' => hσ l' (List.mem_cons_of_mem _ hl'))
            simp only [h1, hl, hs, h2, hx, hk, if_true]
            exact hd
          · simp at hd
        · simp at hd
      · simp at hd
    · simp at hd
  · -- makeInterface
    split at hd
    · simp at hd
    · simp at hd
    · rename_i dd hni hu
      split at hd
      · rename_i y r hf
        split at hd
        · rename_i hk
          injection hd with hd; subst hd
          have h2 := frzC_loc (σ' := σ') hf hσ
          simp only [h2, hk, if_true]
        · simp at hd
      · simp at hd
  · -- slice
    unfold evSlice at hd ⊢
    split at hd <;> try exact hd
    rename_i l e hv hu
    split at hd
    · rename_i z e' sz xs hs hl
      split at hd
      · rename_i h' e1
        split at hd
        · rename_i k e2
          split at hd
          · rename_i hk
            injection hd with hd; subst hd
            have h1 := hσ l (List.mem_singleton.2 rfl)
            have h2 := hc l.1 (List.mem_singleton.2 rfl)
            simp only [h1, hl, hs, e1, e2, if_pos hk, h2]
          · simp at hd
        · simp at hd
      · simp at hd
    · simp at hd
  · -- indexAddr
    unfold evIndexAddr at hd ⊢
    split at hd <;> try exact hd
    rename_i e k n he hv
    split at hd
    · rename_i sz hs
      split at hd
      · exact hd
      · rename_i l hl
        split at hd
        · rename_i e2 sz2 xs hlx
          split at hd
          · rename_i hn
            injection hd with hd; subst hd
            have h1 := hσ l (List.mem_singleton.2 rfl)
            simp only [h1, hlx, if_pos hn]
          · simp at hd
        · simp at hd
      · simp at hd
    · simp at hd
  · -- range
    split at hd
    · rename_i b hu hv
      injection hd with hd; subst hd
      have := hc site (List.mem_singleton.2 rfl)
      simp only [this]
    · simp at hd
  · -- next
    split at hd
    · rename_i l hv
      split at hd
      · rename_i b pos hl
        have hrd : d.rd = [l] := by
          split at hd
          · injection hd with hd; rw [← hd]
          · injection hd with hd; rw [← hd]
        rw [hrd] at hσ
        have := hσ l (List.mem_singleton.2 rfl)
        simp only [this, hl]
        exact hd
      · simp at hd
    · simp at hd
  · -- a call
    rename_i c hop
    split at hd <;> try exact hd
    · -- len
      split at hd <;> try exact hd
      unfold evLen at hd ⊢
      split at hd <;> try exact hd
      split at hd <;> try exact hd
      split at hd <;> try exact hd
      rename_i hns
      split at hd
      · rename_i n r hl
        injection hd with hd; subst hd
        have : ∀ (x : T), lenT S.σ x = some (n, r) → lenT σ' x = some (n, r) := by
          intro x hx
          unfold lenT at hx ⊢
          split at hx <;> try exact hx
          rename_i l
          split at hx
          · rename_i hll
            injection hx with hx; injection hx with hx1 hx2; subst hx1; subst hx2
            simp only [hσ l (List.mem_singleton.2 rfl), hll]
          · simp at hx
        simp only [this _ hl]
      · simp at hd
    · -- append
      split at hd
      · rename_i s x hxs
        split at hd
        · rename_i t ht
          unfold evAppend at hd ⊢
          split at hd
          · rename_i e t1 het
            split at hd
            · rename_i e1 sz by_ z he1 hsz hby hz
              split at hd
              · simp at hd
              · rename_i hnz
                split at hd
                · rename_i ys r hsrc
                  split at hd
                  · rename_i hok
                    split at hd
                    · split at hd
                      · rename_i hbytes
                        split at hd
                        · injection hd with hd; subst hd
                          have h2 := srcOf_loc (σ' := σ') hsrc hσ
                          simp only [if_neg hnz, h2, hok, if_true, if_pos hbytes]
                        · rename_i hne
                          injection hd with hd; subst hd
                          have h2 := srcOf_loc (σ' := σ') (r := r) hsrc hσ
                          have h1 := hc site (List.mem_singleton.2 rfl)
                          simp only [if_neg hnz, h2, hok, if_true, if_pos hbytes, h1]
                      · simp at hd
                    · rename_i l hv
                      split at hd
                      · rename_i e' sz' xs hl
                        split at hd
                        · rename_i hcnd
                          injection hd with hd; subst hd
                          have h0 := hσ l (List.mem_cons_self ..)
                          have h2 := srcOf_loc (σ' := σ') hsrc (fun l' hl' => hσ l' (List.mem_cons_of_mem _ hl'))
                          have h1 := hc l.1 (List.mem_singleton.2 rfl)
                          simp only [if_neg hnz, h2, hok, if_true, h0, hl, if_pos hcnd, h1]
                        · simp at hd
                      · simp at hd
                    · simp at hd
                  · simp at hd
                · simp at hd
            · simp at hd
          · simp at hd
        · simp at hd
      · simp at hd
    · -- a function value
      split at hd
      · rename_i g p q hv
        split at hd
        · rename_i hemp
          simp only [hemp, if_true]
          exact evCall_loc (S' := { S with σ := σ', cnt := cnt' }) hd hσ hc
        · simp at hd
      · exact evCall_loc (S' := { S with σ := σ', cnt := cnt' }) hd hσ hc
      · simp at hd
    · -- a method
      split at hd
      · split at hd
        · simp at hd
        · rename_i h0
          rw [if_neg h0]
          split at hd
          · rename_i g hg
            exact evCall_loc (S' := { S with σ := σ', cnt := cnt' }) hd hσ hc
          · simp at hd
      · simp at hd
end
end Go.Proofs.YtfknpnkdedckhaaGreatDoorT

/- The interpreter over trees: regions of open order. -/
namespace Go.Proofs.YtfknpnkdedckhaaGreatDoorT
open Go Go.RowKit
set_option linter.unusedVariables false

/-! ### What comes before what -/
theorem bitsRow_acc {bs : List Nat} {j : Nat} : ∀ (es : List Edge) (acc : Nat), (es.foldl (fun acc e => if Region.binds .any e then acc ||| (1 <<< e.on) ||| bs.getD e.on 0 else acc) acc).testBit j = true → acc.testBit j = true ∨ ∃ e ∈ es, Region.binds .any e = true ∧ (e.on = j ∨ (bs.getD e.on 0).testBit j = true)
  | [], acc, h => .inl h
  | e :: es, acc, h => by
    simp only [List.foldl_cons] at h
    rcases bitsRow_acc es _ h with h1 | ⟨e', he', h1⟩
    · split at h1
      · rename_i hb
        rw [Nat.testBit_or, Nat.testBit_or, Bool.or_eq_true, Bool.or_eq_true] at h1
        rcases h1 with (h1 | h1) | h1
        · exact .inl h1
        · refine .inr ⟨e, List.mem_cons_self .., hb, .inl ?_⟩
          rw [Nat.testBit_shiftLeft, Bool.and_eq_true, decide_eq_true_eq, Nat.testBit_one_eq_true_iff_self_eq_zero] at h1
          omega
        · exact .inr ⟨e, List.mem_cons_self .., hb, .inr h1⟩
      · exact .inl h1
    · exact .inr ⟨e', List.mem_cons_of_mem _ he', h1⟩
theorem bitsRow_bit {bs : List Nat} {j : Nat} {es : List Edge} (h : (bitsRow bs es).testBit j = true) : ∃ e ∈ es, Region.binds .any e = true ∧ (e.on = j ∨ (bs.getD e.on 0).testBit j = true) := by
  rcases bitsRow_acc es 0 h with h1 | h1
  · simp at h1
  · exact h1
theorem bitsGo_old : ∀ (r : List Oper) (bs : List Nat) (i : Nat), i < bs.length → (bitsGo r bs).getD i 0 = bs.getD i 0
  | [], bs, i, h => rfl
  | o :: r, bs, i, h => by
    simp only [bitsGo]
    rw [bitsGo_old r _ i (by simp; omega)]
    simp only [List.getD_eq_getElem?_getD, List.getElem?_append_left h]
theorem bitsGo_at : ∀ (r : List Oper) (bs : List Nat) (i : Nat) (o : Oper), r[i]? = some o → ∃ pre : List Nat, pre.length = bs.length + i ∧ (bitsGo r bs).getD (bs.length + i) 0 = bitsRow pre o.after.toList ∧ ∀ k, k < bs.length + i → pre.getD k 0 = (bitsGo r bs).getD k 0
  | [], bs, i, o, h => by simp at h
  | p :: r, bs, 0, o, h => by
    simp at h; subst h
    refine ⟨bs, rfl, ?_, fun k hk => ?_⟩
    · simp only [bitsGo, Nat.add_zero]
      rw [bitsGo_old r _ _ (by simp)]
      simp [List.getD_eq_getElem?_getD]
    · rw [bitsGo_old (p :: r) bs k (by omega)]
  | p :: r, bs, i + 1, o, h => by
    simp at h
    obtain ⟨pre, h1, h2, h3⟩ := bitsGo_at r (bs ++ [bitsRow bs p.after.toList]) i o h
    simp only [List.length_append, List.length_singleton] at h1 h2 h3
    refine ⟨pre, by omega, ?_, fun k hk => ?_⟩
    · simp only [bitsGo]
      rw [show bs.length + (i + 1) = bs.length + 1 + i by omega]
      exact h2
    · simp only [bitsGo]
      exact h3 k (by omega)
theorem bits_edge {ops : Array Oper} {i j : Nat} {o : Oper} (ho : ops[i]? = some o) (h : ((bitsOf ops).getD i 0).testBit j = true) : ∃ e ∈ o.after, Region.binds .any e = true ∧ (e.on = j ∨ ((bitsOf ops).getD e.on 0).testBit j = true) := by
  obtain ⟨pre, h1, h2, h3⟩ := bitsGo_at ops.toList [] i o (by simpa using ho)
  simp only [List.length_nil, Nat.zero_add] at h1 h2 h3
  unfold bitsOf at h
  rw [h2] at h
  obtain ⟨e, he, hb, hj⟩ := bitsRow_bit h
  refine ⟨e, by simpa using he, hb, hj.imp id (fun hj => ?_)⟩
  by_cases hk : e.on < i
  · rw [h3 _ hk] at hj; exact hj
  · rw [List.getD_eq_getElem?_getD, List.getElem?_eq_none (by omega)] at hj
    simp at hj
/-! ### States -/
def dstAt (ops : Array Oper) (i : Nat) : Option Nat := (ops[i]?).bind (·.dst)
def stt (ops : Array Oper) (D : Nat → Dl) (S0 : St) (X : Nat → Bool) : Nat → St
  | 0 => S0
  | m + 1 => if X m then (stt ops D S0 X m).ap (dstAt ops m) (D m) else stt ops D S0 X m
def keysOf (d : Dl) : List Loc := d.upd.map (·.1)
section
variable {ops : Array Oper} {D : Nat → Dl} {S0 : St} {X Y : Nat → Bool}
theorem ap_nt (S : St) (dst : Option Nat) (d : Dl) : (S.ap dst d).nt = S.nt := rfl
theorem ap_τ (S : St) (dst : Option Nat) (d : Dl) (t : Nat) : (S.ap dst d).τ t = if dst = some t ∧ t < S.nt then d.v else S.τ t := by
  cases dst with
  | none => simp [St.ap]
  | some i =>
    show (if i < S.nt then putT S.τ i d.v else S.τ) t = _
    by_cases hi : i < S.nt
    · rw [if_pos hi]
      unfold putT
      by_cases ht : t = i
      · subst ht; simp [hi]
      · rw [if_neg ht, if_neg (by rintro ⟨h, _⟩; injection h with h; exact ht h.symm)]
    · rw [if_neg hi, if_neg (by rintro ⟨h, h2⟩; injection h with h; exact hi (h ▸ h2))]
theorem updL_congr {l : Loc} : ∀ {u : List (Loc × Option O)} {σ σ' : Loc → Option O}, σ l = σ' l → updL σ u l = updL σ' u l
  | [], σ, σ', h => h
  | e :: r, σ, σ', h => updL_congr (u := r) (by show (if l = e.1 then e.2 else σ l) = if l = e.1 then e.2 else σ' l; rw [h])
theorem updL_indep {l : Loc} : ∀ {u : List (Loc × Option O)} {σ σ' : Loc → Option O}, l ∈ u.map (·.1) → updL σ u l = updL σ' u l
  | [], σ, σ', h => by simp at h
  | e :: r, σ, σ', h => by
    by_cases hr : l ∈ r.map (·.1)
    · exact updL_indep (u := r) hr
    · rcases List.mem_cons.1 h with h | h
      · refine updL_congr (u := r) ?_
        show (if l = e.1 then e.2 else σ l) = if l = e.1 then e.2 else σ' l
        rw [if_pos h, if_pos h]
      · exact absurd h hr
theorem ap_σ (S : St) (dst : Option Nat) (d : Dl) : (S.ap dst d).σ = updL S.σ d.upd := rfl
theorem ap_cnt (S : St) (dst : Option Nat) (d : Dl) (s : Nat) : (S.ap dst d).cnt s = if d.bump.contains s then S.cnt s + 1 else S.cnt s := rfl
theorem stt_nt : ∀ m, (stt ops D S0 X m).nt = S0.nt
  | 0 => rfl
  | m + 1 => by
    unfold stt
    split
    · rw [ap_nt]; exact stt_nt m
    · exact stt_nt m
theorem stt_τ {t : Nat} : ∀ m, (∀ j, j < m → dstAt ops j = some t → X j = Y j) → (stt ops D S0 X m).τ t = (stt ops D S0 Y m).τ t
  | 0, _ => rfl
  | m + 1, h => by
    have ih := stt_τ m (fun j hj => h j (by omega))
    unfold stt
    by_cases hd : dstAt ops m = some t
    · rw [← h m (by omega) hd]
      split
      · rw [ap_τ, ap_τ, stt_nt, stt_nt, ih]
      · exact ih
    · have e : ∀ Z, (if Z m = true then (stt ops D S0 Z m).ap (dstAt ops m) (D m) else stt ops D S0 Z m).τ t = (stt ops D S0 Z m).τ t := by
        intro Z
        split
        · rw [ap_τ, if_neg (fun hh => hd hh.1)]
        · rfl
      rw [e X, e Y]; exact ih
theorem stt_σ {l : Loc} : ∀ m, (∀ j, j < m → l ∈ keysOf (D j) → X j = Y j) → (stt ops D S0 X m).σ l = (stt ops D S0 Y m).σ l
  | 0, _ => rfl
  | m + 1, h => by
    have ih := stt_σ m (fun j hj => h j (by omega))
    unfold stt
    by_cases hd : l ∈ keysOf (D m)
    · rw [← h m (by omega) hd]
      split
      · rw [ap_σ, ap_σ]; exact updL_congr ih
      · exact ih
    · have e : ∀ Z, (if Z m = true then (stt ops D S0 Z m).ap (dstAt ops m) (D m) else stt ops D S0 Z m).σ l = (stt ops D S0 Z m).σ l := by
        intro Z
        split
        · rw [ap_σ, updL_not hd]
        · rfl
      rw [e X, e Y]; exact ih
theorem stt_cnt {s : Nat} : ∀ m, (∀ j, j < m → s ∈ (D j).bump → X j = Y j) → (stt ops D S0 X m).cnt s = (stt ops D S0 Y m).cnt s
  | 0, _ => rfl
  | m + 1, h => by
    have ih := stt_cnt m (fun j hj => h j (by omega))
    unfold stt
    by_cases hd : s ∈ (D m).bump
    · rw [← h m (by omega) hd]
      split
      · rw [ap_cnt, ap_cnt, ih]
      · exact ih
    · have e : ∀ Z, (if Z m = true then (stt ops D S0 Z m).ap (dstAt ops m) (D m) else stt ops D S0 Z m).cnt s = (stt ops D S0 Z m).cnt s := by
        intro Z
        split
        · rw [ap_cnt, if_neg (by simpa using hd)]
        · rfl
      rw [e X, e Y]; exact ih
theorem stt_eq {m : Nat} (h : ∀ j, j < m → X j = Y j) : stt ops D S0 X m = stt ops D S0 Y m := by
  induction m with
  | zero => rfl
  | succ m ih =>
    unfold stt
    rw [h m (by omega), ih (fun j hj => h j (by omega))]
/-- Only what is below i. -/
theorem stt_below {i : Nat} : ∀ m, i ≤ m → stt ops D S0 (fun j => decide (j < i)) m = stt ops D S0 (fun _ => true) i
  | 0, h => by
    have : i = 0 := by omega
    subst this; rfl
  | m + 1, h => by
    by_cases hi : i = m + 1
    · subst hi
      exact stt_eq (fun j hj => by simp [hj])
    · have hm := stt_below (i := i) m (by omega)
      show (if decide (m < i) = true then _ else _) = _
      have hn : ¬ (decide (m < i) = true) := by simp; omega
      rw [if_neg hn]
      exact hm
/-- One more, at a place where nothing later that is there touches what it does. -/
theorem stt_up {i n : Nat} (hi : i < n) (hX : X i = false)
    (h1 : ∀ j, i < j → j < n → X j = true → ∀ t, dstAt ops i = some t → dstAt ops j ≠ some t)
    (h2 : ∀ j, i < j → j < n → X j = true → ∀ l ∈ keysOf (D i), l ∉ keysOf (D j)) :
    (stt ops D S0 X n).ap (dstAt ops i) (D i) = stt ops D S0 (fun j => if j = i then true else X j) n := by
  have key : ∀ m, i < m → m ≤ n → (stt ops D S0 X m).ap (dstAt ops i) (D i) = stt ops D S0 (fun j => if j = i then true else X j) m := by
    intro m
    induction m with
    | zero => intro h; omega
    | succ m ih =>
      intro him hmn
      by_cases hm : i = m
      · subst hm
        show (if X i = true then _ else stt ops D S0 X i).ap _ _ = if (if i = i then true else X i) = true then _ else _
        rw [hX, if_neg (by simp), if_pos (by simp)]
        rw [stt_eq (Y := X) (X := fun j => if j = i then true else X j) (fun j hj => by simp [Nat.ne_of_lt hj])]
      · have ih := ih (by omega) (by omega)
        show (if X m = true then (stt ops D S0 X m).ap (dstAt ops m) (D m) else stt ops D S0 X m).ap (dstAt ops i) (D i) = if (if m = i then true else X m) = true then (stt ops D S0 _ m).ap (dstAt ops m) (D m) else stt ops D S0 _ m
        have hmi : (if m = i then true else X m) = X m := if_neg (fun e => hm e.symm)
        rw [← ih, hmi]
        by_cases hXm : X m = true
        · rw [if_pos hXm, if_pos hXm]
          generalize stt ops D S0 X m = S
          have a1 := h1 m (by omega) (by omega) hXm
          have a2 := h2 m (by omega) (by omega) hXm
          have eτ : ((S.ap (dstAt ops m) (D m)).ap (dstAt ops i) (D i)).τ = ((S.ap (dstAt ops i) (D i)).ap (dstAt ops m) (D m)).τ := by
            funext t
            simp only [ap_τ, ap_nt]
            by_cases c1 : dstAt ops i = some t ∧ t < S.nt
            · rw [if_pos c1, if_neg (fun c2 => a1 t c1.1 c2.1), if_pos c1]
            · rw [if_neg c1]
              by_cases c2 : dstAt ops m = some t ∧ t < S.nt
              · rw [if_pos c2, if_pos c2]
              · rw [if_neg c2, if_neg c2, if_neg c1]
          have eσ : ((S.ap (dstAt ops m) (D m)).ap (dstAt ops i) (D i)).σ = ((S.ap (dstAt ops i) (D i)).ap (dstAt ops m) (D m)).σ := by
            funext l
            simp only [ap_σ]
            by_cases c1 : l ∈ keysOf (D i)
            · rw [updL_not (u := (D m).upd) (a2 l c1)]
              exact updL_indep c1
            · rw [updL_not (u := (D i).upd) c1]
              exact updL_congr (updL_not c1).symm
          have ec : ((S.ap (dstAt ops m) (D m)).ap (dstAt ops i) (D i)).cnt = ((S.ap (dstAt ops i) (D i)).ap (dstAt ops m) (D m)).cnt := by
            funext s
            simp only [ap_cnt]
            by_cases c1 : (D i).bump.contains s = true <;> by_cases c2 : (D m).bump.contains s = true <;> simp only [c1, c2, if_true, if_false, Bool.false_eq_true]
          show St.mk _ _ _ _ = St.mk _ _ _ _
          simp only [St.mk.injEq]
          exact ⟨eτ, eσ, ec, rfl⟩
        · rw [if_neg hXm, if_neg hXm]
  exact key n hi (Nat.le_refl _)
end
theorem guardT_congr {ops : Array Oper} {S S' : St} {o : Oper} (h : ∀ t ∈ guardSlot ops o, S'.τ t = S.τ t) : guardT ops S' o = guardT ops S o := by
  unfold guardT
  unfold guardSlot at h
  cases hg : o.guard with
  | none => rfl
  | some p =>
    obtain ⟨j, want⟩ := p
    simp only [hg] at h ⊢
    cases hp : ops[j]? with
    | none => rfl
    | some q =>
      simp only [hp] at h ⊢
      cases hd : q.dst with
      | none => rfl
      | some t =>
        simp only
        rw [h t (by simp [hd])]
theorem opd_congr {S S' : St} : ∀ {xs : List Operand}, (∀ t ∈ tmpsOf xs, S'.τ t = S.τ t) → ∀ x ∈ xs, opd S' x = opd S x
  | [], h, x, hx => by simp at hx
  | y :: r, h, x, hx => by
    rcases List.mem_cons.1 hx with rfl | hx
    · cases x with
      | tmp t => exact h t (by simp [tmpsOf])
      | _ => rfl
    · refine opd_congr (xs := r) (fun t ht => h t ?_) x hx
      cases y <;> simp [tmpsOf, ht]
theorem updL_drop_out {F : List Loc} {l : Loc} (hl : l ∉ F) : ∀ (u : List (Loc × Option O)) (σ : Loc → Option O), updL σ (u.filter fun e => !F.contains e.1) l = updL σ u l
  | [], σ => rfl
  | e :: r, σ => by
    by_cases he : e.1 ∈ F
    · rw [List.filter_cons_of_neg (by simpa using he), updL_drop_out hl r σ]
      refine updL_congr (u := r) ?_
      show σ l = if l = e.1 then e.2 else σ l
      rw [if_neg (fun (h : l = e.1) => hl (by rw [h]; exact he))]
    · rw [List.filter_cons_of_pos (by simpa using he)]
      exact updL_drop_out hl r _
theorem drop_ap {S : St} {d : Dl} {F : List Loc} (h : SameAt S.σ d F) (dst : Option Nat) : S.ap dst d = S.ap dst (dropD F d) := by
  have e : updL S.σ d.upd = updL S.σ (dropD F d).upd := by
    funext l
    by_cases hl : l ∈ F
    · rw [(h l hl).2]
      refine (updL_not (u := (dropD F d).upd) ?_).symm
      intro hk
      obtain ⟨x, hx, rfl⟩ := List.mem_map.1 hk
      have := (List.mem_filter.1 hx).2
      simp [hl] at this
    · exact (updL_drop_out hl d.upd S.σ).symm
  show St.mk _ _ _ _ = St.mk _ _ _ _
  rw [e]
  rfl
theorem sameAt_congr {σ σ' : Loc → Option O} {d : Dl} {F : List Loc} (h : SameAt σ d F) (hσ : ∀ l ∈ d.rd, σ' l = σ l) : SameAt σ' d F := fun l hl => by
  obtain ⟨h1, h2⟩ := h l hl
  refine ⟨h1, ?_⟩
  rw [updL_congr (σ := σ') (σ' := σ) (hσ l h1), h2, hσ l h1]
/-- What the evaluator has seen of a region of open order. -/
structure Seen (P : Program) (call : Nat → FuncId → List T → Option (T × List T)) (mv : FuncId → Bool) (id : Nat) (ops : Array Oper) (D : Nat → Dl) (S0 : St) (i : Nat) (o : Oper) : Prop where
  run : ∃ b, guardT ops (stt ops D S0 (fun _ => true) i) o = some b ∧ (b = true → ∃ d F, evOp P (call (siteOf id i)) mv (siteOf id i) (stt ops D S0 (fun _ => true) i) o = some d ∧ SameAt (stt ops D S0 (fun _ => true) i).σ d F ∧ D i = dropD F d) ∧ (b = false → D i = ⟨.tup [], [], [], []⟩)
  log : ∀ j, j < i → ((bitsOf ops).getD i 0).testBit j = true ∨ indep (D j) (D i) = true
theorem stt_D {ops : Array Oper} {D D' : Nat → Dl} {S0 : St} {X : Nat → Bool} : ∀ m, (∀ j, j < m → D j = D' j) → stt ops D S0 X m = stt ops D' S0 X m
  | 0, _ => rfl
  | m + 1, h => by
    unfold stt
    rw [h m (by omega), stt_D m (fun j hj => h j (by omega))]
theorem indep_dead (d : Dl) : indep d ⟨.tup [], [], [], []⟩ = true := by
  simp [indep, apartL]
theorem evOpsD_seen {P : Program} {call : Nat → FuncId → List T → Option (T × List T)} {mv : FuncId → Bool} {id : Nat} {ops : Array Oper} {dr : Nat → List Loc} {S0 S' : St} :
    ∀ (rest : List Oper) (i : Nat) (log : List (Nat × Dl)) (D0 : Nat → Dl), ops.toList.drop i = rest → (∀ j, j < i → (j, D0 j) ∈ log) → evOpsD P call mv id (bitsOf ops) ops dr i log rest (stt ops D0 S0 (fun _ => true) i) = some S' →
      ∃ D : Nat → Dl, (∀ j, j < i → D j = D0 j) ∧ (∀ k o, i ≤ k → ops[k]? = some o → Seen P call mv id ops D S0 k o) ∧ S' = stt ops D S0 (fun _ => true) (i + rest.length)
  | [], i, log, D0, hd, hlog, he => by
    simp only [evOpsD, Option.some.injEq] at he
    refine ⟨D0, fun _ _ => rfl, fun k o hk ho => ?_, by simpa using he.symm⟩
    have : ops.toList[k]? = none := by
      have h1 : ops.toList.length ≤ i := by
        have := congrArg List.length hd
        simp at this
        simpa using by omega
      exact List.getElem?_eq_none (by omega)
    simp at this
    rw [Array.getElem?_eq_none this] at ho
    simp at ho
  | o :: rest, i, log, D0, hd, hlog, he => by
    have ho : ops[i]? = some o := by
      have := congrArg (·[0]?) hd
      simpa [List.getElem?_drop] using this
    have hd' : ops.toList.drop (i + 1) = rest := by
      have := congrArg (List.drop 1) hd
      simpa [List.drop_drop, Nat.add_comm] using this
    have step : ∀ (d : Dl), (∃ b, guardT ops (stt ops D0 S0 (fun _ => true) i) o = some b ∧ (b = true → ∃ d0 F, evOp P (call (siteOf id i)) mv (siteOf id i) (stt ops D0 S0 (fun _ => true) i) o = some d0 ∧ SameAt (stt ops D0 S0 (fun _ => true) i).σ d0 F ∧ d = dropD F d0) ∧ (b = false → d = ⟨.tup [], [], [], []⟩)) →
        (∀ j, j < i → ((bitsOf ops).getD i 0).testBit j = true ∨ indep (D0 j) d = true) →
        evOpsD P call mv id (bitsOf ops) ops dr (i + 1) ((i, d) :: log) rest ((stt ops D0 S0 (fun _ => true) i).ap o.dst d) = some S' →
        ∃ D : Nat → Dl, (∀ j, j < i → D j = D0 j) ∧ (∀ k o, i ≤ k → ops[k]? = some o → Seen P call mv id ops D S0 k o) ∧ S' = stt ops D S0 (fun _ => true) (i + (o :: rest).length) := by
      intro d hrun hlg hev
      let D1 : Nat → Dl := fun j => if j = i then d else D0 j
      have hD1 : ∀ j, j < i → D1 j = D0 j := fun j hj => by simp [D1, Nat.ne_of_lt hj]
      have hst : stt ops D1 S0 (fun _ => true) (i + 1) = (stt ops D0 S0 (fun _ => true) i).ap o.dst d := by
        show (if true = true then _ else _) = _
        rw [if_pos rfl, stt_D i hD1]
        have h1 : dstAt ops i = o.dst := by simp [dstAt, ho]
        have h2 : D1 i = d := by simp [D1]
        rw [h1, h2]
      obtain ⟨D, e1, e2, e3⟩ := evOpsD_seen rest (i + 1) ((i, d) :: log) D1 hd' (fun j hj => by
        by_cases hji : j = i
        · subst hji; simp [D1]
        · have hlt : j < i := by omega
          rw [hD1 j hlt]
          exact List.mem_cons_of_mem _ (hlog j hlt)) (by rw [hst]; exact hev)
      have hDi : D i = d := by rw [e1 i (by omega)]; simp [D1]
      have hDlt : ∀ j, j < i → D j = D0 j := fun j hj => by rw [e1 j (by omega), hD1 j hj]
      refine ⟨D, hDlt, fun k q hk hq => ?_, by rw [e3]; congr 1; simp only [List.length_cons]; omega⟩
      by_cases hki : k = i
      · subst hki
        rw [ho] at hq
        injection hq with hq; subst hq
        refine ⟨?_, fun j hj => ?_⟩
        · rw [stt_D k hDlt, hDi]; exact hrun
        · rw [hDi, hDlt j hj]; exact hlg j hj
      · exact e2 k q (by omega) hq
    unfold evOpsD at he
    split at he
    · rename_i hg
      split at he
      · rename_i d hev
        split at he
        · rename_i hlg
          obtain ⟨hsm, hlg⟩ := hlg
          rw [List.all_eq_true] at hlg
          refine step (dropD (dr i) d) ⟨true, hg, fun _ => ⟨d, dr i, hev, hsm, rfl⟩, fun h => by simp at h⟩ (fun j hj => ?_) he
          have := hlg _ (hlog j hj)
          simpa using this
        · simp at he
      · simp at he
    · rename_i hg
      exact step _ ⟨false, hg, fun h => by simp at h, fun _ => rfl⟩ (fun j hj => .inr (indep_dead _)) he
    · simp at he
section
variable {P : Program} {call : Nat → FuncId → List T → Option (T × List T)} {mv : FuncId → Bool} {id : Nat} {ops : Array Oper} {D : Nat → Dl} {S0 : St}
theorem okD_parts (h : okD (bitsOf ops) ops = true) {i : Nat} {o : Oper} (ho : ops[i]? = some o) :
    (∀ e ∈ o.after, Region.binds .any e = true → e.on < i) ∧ (∀ cs b, o.op ≠ .select cs b) ∧ ∀ t, o.dst = some t → ∀ j p, j ≠ i → ops[j]? = some p → t ∈ slotsOf ops p → inOrder (bitsOf ops) i j = true := by
  have hi : i < ops.size := (Array.getElem?_eq_some_iff.1 ho).1
  have h1 := List.all_eq_true.1 h i (List.mem_range.2 hi)
  rw [ho] at h1
  simp only [Bool.and_eq_true] at h1
  obtain ⟨⟨h1, h2⟩, h3⟩ := h1
  refine ⟨fun e he hb => ?_, fun cs b hs => ?_, fun t ht j p hji hp hsl => ?_⟩
  · have := List.all_eq_true.1 h1 e (by simpa using he)
    simpa [hb] using this
  · rw [hs] at h2; simp at h2
  · rw [ht] at h3
    have hj : j < ops.size := (Array.getElem?_eq_some_iff.1 hp).1
    have := List.all_eq_true.1 h3 j (List.mem_range.2 hj)
    simp only [hp, Bool.or_eq_true, decide_eq_true_eq, Bool.not_eq_true', List.contains_eq_mem, decide_eq_false_iff_not] at this
    rcases this with (h4 | h4) | h4
    · exact absurd h4 hji
    · exact h4
    · exact absurd hsl h4
/-- What is listed is closed. -/
def ClosedX (ops : Array Oper) (X : Nat → Bool) : Prop := ∀ i o, ops[i]? = some o → X i = true → ∀ e ∈ o.after, Region.binds .any e = true → X e.on = true
theorem bits_lt (h : okD (bitsOf ops) ops = true) : ∀ (i : Nat) (j : Nat), ((bitsOf ops).getD i 0).testBit j = true → i < ops.size → j < i := by
  intro i
  induction i using Nat.strongRecOn with
  | _ i ih =>
    intro j hb hi
    have ho : ops[i]? = some ops[i] := Array.getElem?_eq_getElem hi
    obtain ⟨e, he, hbn, hj⟩ := bits_edge ho hb
    have hlt := (okD_parts h ho).1 e he hbn
    rcases hj with rfl | hj
    · exact hlt
    · have := ih e.on hlt j hj (by omega)
      omega
theorem closed_bits (h : okD (bitsOf ops) ops = true) {X : Nat → Bool} (hX : ClosedX ops X) : ∀ (d : Nat) (i : Nat), ((bitsOf ops).getD d 0).testBit i = true → d < ops.size → X d = true → X i = true := by
  intro d
  induction d using Nat.strongRecOn with
  | _ d ih =>
    intro i hb hd hXd
    have ho : ops[d]? = some ops[d] := Array.getElem?_eq_getElem hd
    obtain ⟨e, he, hbn, hj⟩ := bits_edge ho hb
    have hlt := (okD_parts h ho).1 e he hbn
    have hXe := hX d _ ho hXd e he hbn
    rcases hj with rfl | hj
    · exact hXe
    · exact ih e.on hlt i hj (by omega) hXe
theorem apartL_spec {a b : List Loc} (h : apartL a b = true) {l : Loc} (ha : l ∈ a) : l ∉ b := by
  have := List.all_eq_true.1 h l ha
  simpa using this
theorem indep_spec {d e : Dl} (h : indep d e = true) : (∀ l ∈ keysOf d, l ∉ e.rd ∧ l ∉ keysOf e) ∧ (∀ l ∈ keysOf e, l ∉ d.rd) ∧ ∀ s ∈ d.bump, s ∉ e.bump := by
  simp only [indep, Bool.and_eq_true] at h
  obtain ⟨⟨h1, h2⟩, h3⟩ := h
  refine ⟨fun l hl => ?_, fun l hl => apartL_spec h2 hl, fun s hs => ?_⟩
  · have := apartL_spec h1 hl
    simp only [List.mem_append, not_or] at this
    exact this
  · have := List.all_eq_true.1 h3 s hs
    simpa using this
/-- One operation that may come up now. -/
theorem draw_step (hok : okD (bitsOf ops) ops = true) (hseen : ∀ k o, ops[k]? = some o → Seen P call mv id ops D S0 k o) {X : Nat → Bool} (hX : ClosedX ops X) (hXn : ∀ j, X j = true → j < ops.size) {i : Nat} {o : Oper} (ho : ops[i]? = some o) (hi : X i = false) (hedges : ∀ e ∈ o.after, Region.binds .any e = true → X e.on = true) :
    (∃ b, guardT ops (stt ops D S0 X ops.size) o = some b ∧ (b = true → ∃ d, evOp P (call (siteOf id i)) mv (siteOf id i) (stt ops D S0 X ops.size) o = some d ∧ (stt ops D S0 X ops.size).ap o.dst d = (stt ops D S0 X ops.size).ap o.dst (D i)) ∧ (b = false → D i = ⟨.tup [], [], [], []⟩)) ∧
      (stt ops D S0 X ops.size).ap o.dst (D i) = stt ops D S0 (fun j => if j = i then true else X j) ops.size := by
  have hin : i < ops.size := (Array.getElem?_eq_some_iff.1 ho).1
  have hB : ∀ j, ((bitsOf ops).getD i 0).testBit j = true → X j = true := by
    intro j hb
    obtain ⟨e, he, hbn, hj⟩ := bits_edge ho hb
    have hXe := hedges e he hbn
    rcases hj with rfl | hj
    · exact hXe
    · exact closed_bits hok hX e.on j hj (hXn _ hXe) hXe
  -- in order: what is listed is what is earlier
  have hord : ∀ j, j < ops.size → inOrder (bitsOf ops) i j = true → X j = decide (j < i) := by
    intro j hj hio
    simp only [inOrder, Bool.or_eq_true] at hio
    rcases hio with hb | hb
    · rw [hB j hb]; simp [bits_lt hok i j hb hin]
    · have hlt := bits_lt hok j i hb hj
      cases hXj : X j with
      | false => simp; omega
      | true => rw [closed_bits hok hX j i hb hj hXj] at hi; simp at hi
  have hself : X i = decide (i < i) := by rw [hi]; simp
  have hunord : ∀ j, j < ops.size → j ≠ i → inOrder (bitsOf ops) i j = false → (j < i ∧ indep (D j) (D i) = true) ∨ (i < j ∧ indep (D i) (D j) = true) := by
    intro j hj hji hio
    simp only [inOrder, Bool.or_eq_false_iff] at hio
    by_cases hlt : j < i
    · have := (hseen i o ho).log j hlt
      rw [hio.1] at this
      exact .inl ⟨hlt, this.resolve_left (by simp)⟩
    · have hlt' : i < j := by omega
      have := (hseen j ops[j] (Array.getElem?_eq_getElem hj)).log i hlt'
      rw [hio.2] at this
      exact .inr ⟨hlt', this.resolve_left (by simp)⟩
  have hbelow := stt_below (ops := ops) (D := D) (S0 := S0) (i := i) ops.size (by omega)
  have aσ : ∀ l, l ∈ (D i).rd → (stt ops D S0 X ops.size).σ l = (stt ops D S0 (fun _ => true) i).σ l := by
    intro l hl
    rw [← hbelow]
    refine stt_σ ops.size (fun j hj hk => ?_)
    by_cases hji : j = i
    · subst hji; exact hself
    · cases hio : inOrder (bitsOf ops) i j with
      | true => exact hord j hj hio
      | false =>
        rcases hunord j hj hji hio with ⟨_, h1⟩ | ⟨_, h1⟩
        · exact absurd hl ((indep_spec h1).1 l hk).1
        · exact absurd hl ((indep_spec h1).2.1 l hk)
  have ac : ∀ s, s ∈ (D i).bump → (stt ops D S0 X ops.size).cnt s = (stt ops D S0 (fun _ => true) i).cnt s := by
    intro s hs
    rw [← hbelow]
    refine stt_cnt ops.size (fun j hj hk => ?_)
    by_cases hji : j = i
    · subst hji; exact hself
    · cases hio : inOrder (bitsOf ops) i j with
      | true => exact hord j hj hio
      | false =>
        rcases hunord j hj hji hio with ⟨_, h1⟩ | ⟨_, h1⟩
        · exact absurd hs ((indep_spec h1).2.2 s hk)
        · exact absurd hk ((indep_spec h1).2.2 s hs)
  have aτ : ∀ t, t ∈ slotsOf ops o → (stt ops D S0 X ops.size).τ t = (stt ops D S0 (fun _ => true) i).τ t := by
    intro t ht
    rw [← hbelow]
    refine stt_τ ops.size (fun j hj hk => ?_)
    by_cases hji : j = i
    · subst hji; exact hself
    · have hoj : ops[j]? = some ops[j] := Array.getElem?_eq_getElem hj
      have hdj : ops[j].dst = some t := by simpa [dstAt, hoj] using hk
      have := (okD_parts hok hoj).2.2 t hdj i o (fun e => hji e.symm) ho ht
      refine hord j hj ?_
      simp only [inOrder, Bool.or_eq_true] at this ⊢
      exact this.symm
  have hdst : dstAt ops i = o.dst := by simp [dstAt, ho]
  refine ⟨?_, ?_⟩
  · obtain ⟨b, hg, h1, h2⟩ := (hseen i o ho).run
    refine ⟨b, ?_, fun hb => ?_, h2⟩
    · rw [← hg]
      exact guardT_congr (fun t ht => aτ t (List.mem_append_left _ (List.mem_append_right _ ht)))
    · obtain ⟨d, F, hd0, hsm, hDi⟩ := h1 hb
      have hrd : (D i).rd = d.rd := by rw [hDi]; rfl
      have hbp : (D i).bump = d.bump := by rw [hDi]; rfl
      rw [hrd] at aσ
      rw [hbp] at ac
      have hev := evOp_mem (σ' := (stt ops D S0 X ops.size).σ) (cnt' := (stt ops D S0 X ops.size).cnt) hd0 aσ ac
      refine ⟨d, ?_, by rw [hDi]; exact drop_ap (sameAt_congr hsm aσ) o.dst⟩
      rw [← hev]
      have hnt : (stt ops D S0 X ops.size).nt = (stt ops D S0 (fun _ => true) i).nt := by rw [stt_nt, stt_nt]
      have hS : stt ops D S0 X ops.size = { ({ (stt ops D S0 (fun _ => true) i) with σ := (stt ops D S0 X ops.size).σ, cnt := (stt ops D S0 X ops.size).cnt } : St) with τ := (stt ops D S0 X ops.size).τ } := by
        show _ = St.mk _ _ _ _
        rw [← hnt]
      have hsl := evOp_slots (P := P) (call := call (siteOf id i)) (mv := mv) (site := siteOf id i) (S := { (stt ops D S0 (fun _ => true) i) with σ := (stt ops D S0 X ops.size).σ, cnt := (stt ops D S0 X ops.size).cnt }) (τ' := (stt ops D S0 X ops.size).τ) (okD_parts hok ho).2.1 (fun x hx => by
        refine opd_congr (xs := o.op.operands.toList) (fun t ht => aτ t (List.mem_append_left _ (List.mem_append_left _ ht))) x (by simpa using hx))
      rw [← hsl, ← hS]
  · rw [← hdst]
    refine stt_up hin hi (fun j hij hj hXj t hdi hdj => ?_) (fun j hij hj hXj l hli hlj => ?_)
    · have hoj : ops[j]? = some ops[j] := Array.getElem?_eq_getElem hj
      have hdo : o.dst = some t := by rw [← hdst]; exact hdi
      have hsl : t ∈ slotsOf ops ops[j] := List.mem_append_right _ (by
        have : ops[j].dst = some t := by simpa [dstAt, hoj] using hdj
        simp [this])
      have := (okD_parts hok ho).2.2 t hdo j _ (by omega) hoj hsl
      have h1 := hord j hj this
      rw [hXj] at h1
      simp at h1
      omega
    · cases hio : inOrder (bitsOf ops) i j with
      | true =>
        have h1 := hord j hj hio
        rw [hXj] at h1
        simp at h1
        omega
      | false =>
        rcases hunord j hj (by omega) hio with ⟨h0, _⟩ | ⟨_, h1⟩
        · omega
        · exact ((indep_spec h1).1 l hli).2 hlj
/-- How many are not listed. -/
def openX (X : Nat → Bool) (n : Nat) : Nat := (List.range n).countP (fun j => !X j)
theorem countP_up {X : Nat → Bool} {i : Nat} (hi : X i = false) : ∀ (l : List Nat), i ∈ l → l.countP (fun j => !(if j = i then true else X j)) < l.countP (fun j => !X j) := by
  have hle : ∀ l : List Nat, l.countP (fun j => !(if j = i then true else X j)) ≤ l.countP (fun j => !X j) := fun l => List.countP_mono_left (fun j _ h => by
    by_cases hj : j = i
    · subst hj; simp at h
    · simpa [hj] using h)
  intro l
  induction l with
  | nil => intro h; simp at h
  | cons x r ih =>
    intro h
    simp only [List.countP_cons]
    by_cases hx : x = i
    · subst hx
      have := hle r
      simp [hi]
      simp at this
      omega
    · have := ih (by simpa [Ne.symm hx] using h)
      simp only [hx, if_false] at this ⊢
      omega
theorem any_ok {C0 : Ctx} {B : Base} {Q : Exit → Act → World → Prop} {S' : St} (hC : ∀ s, Known P (call s)) (hok : okD (bitsOf ops) ops = true) (hseen : ∀ k o, ops[k]? = some o → Seen P call mv id ops D S0 k o) (hS' : S' = stt ops D S0 (fun _ => true) ops.size) (hQ : ∀ a' w', Hold C0 B S' a' w' → Q .normal a' w') :
    ∀ (fuel : Nat) (listed : Array Bool) (a : Act) (w : World), listed.size = ops.size → ClosedX ops (fun j => listed.getD j false) → openX (fun j => listed.getD j false) ops.size ≤ fuel → Hold C0 B (stt ops D S0 (fun j => listed.getD j false) ops.size) a w → wpAny P .any ops Q fuel listed a w := by
  have done : ∀ (listed : Array Bool) (a : Act) (w : World), (∀ j, j < ops.size → listed.getD j false = true) → Hold C0 B (stt ops D S0 (fun j => listed.getD j false) ops.size) a w → Q .normal a w := by
    intro listed a w hall hh
    refine hQ a w ?_
    rw [hS', ← stt_eq (X := fun j => listed.getD j false) (fun j hj => hall j hj)]
    exact hh
  have full : ∀ (listed : Array Bool), listed.size = ops.size → Region.ready .any ops listed = [] → ∀ j, j < ops.size → listed.getD j false = true := by
    intro listed hsz hr j
    induction j using Nat.strongRecOn with
    | _ j ih =>
      intro hj
      cases hX : listed.getD j false with
      | true => rfl
      | false =>
        exfalso
        have : j ∈ Region.ready .any ops listed := mem_ready.2 ⟨by
          rw [Array.getD_eq_getD_getElem?] at hX ⊢
          have hl : listed[j]? = some listed[j] := Array.getElem?_eq_getElem (by omega)
          rw [hl] at hX ⊢
          exact hX, ops[j], Array.getElem?_eq_getElem hj, fun e he hb => by
          have hlt := (okD_parts hok (Array.getElem?_eq_getElem hj)).1 e he hb
          exact ih e.on hlt (by omega)⟩
        rw [hr] at this
        simp at this
  intro fuel
  induction fuel with
  | zero =>
    intro listed a w hsz hcl hop hh
    have hall : ∀ j, j < ops.size → listed.getD j false = true := by
      intro j hj
      have h0 : openX (fun j => listed.getD j false) ops.size = 0 := by omega
      have := List.countP_eq_zero.1 h0 j (List.mem_range.2 hj)
      simpa using this
    refine ⟨?_, done listed a w hall hh⟩
    apply List.eq_nil_iff_forall_not_mem.2
    intro j hj
    obtain ⟨h1, o, ho, _⟩ := mem_ready.1 hj
    have hlt := (Array.getElem?_eq_some_iff.1 ho).1
    have h2 := hall j hlt
    rw [Array.getD_eq_getD_getElem?] at h1 h2
    have hl : listed[j]? = some listed[j] := Array.getElem?_eq_getElem (by omega)
    rw [hl] at h1 h2
    simp at h1 h2
    rw [h1] at h2
    simp at h2
  | succ fuel ih =>
    intro listed a w hsz hcl hop hh
    refine ⟨fun hr => done listed a w (full listed hsz hr) hh, fun i hi => ?_⟩
    obtain ⟨h1, o, ho, hedges⟩ := mem_ready.1 hi
    have hin : i < ops.size := (Array.getElem?_eq_some_iff.1 ho).1
    have hXi : listed.getD i false = false := by
      rw [Array.getD_eq_getD_getElem?] at h1 ⊢
      have hl : listed[i]? = some listed[i] := Array.getElem?_eq_getElem (by omega)
      rw [hl] at h1 ⊢
      exact h1
    have hXn : ∀ j, listed.getD j false = true → j < ops.size := by
      intro j hj
      rcases Nat.lt_or_ge j listed.size with h | h
      · omega
      · rw [Array.getD_eq_getD_getElem?, Array.getElem?_eq_none h] at hj; simp at hj
    obtain ⟨⟨b, hg, hev, hdead⟩, hap⟩ := draw_step hok hseen hcl hXn ho hXi hedges
    have hX' : (fun j => (listed.setIfInBounds i true).getD j false) = fun j => if j = i then true else listed.getD j false := by
      funext j
      by_cases hj : j = i
      · subst hj
        rw [if_pos rfl, Array.getD_eq_getD_getElem?, Array.getElem?_setIfInBounds_self_of_lt (by omega)]
        rfl
      · rw [if_neg hj]; exact getD_set_ne false (fun e => hj e.symm)
    have next : ∀ a' w', Hold C0 B ((stt ops D S0 (fun j => listed.getD j false) ops.size).ap o.dst (D i)) a' w' → wpAny P .any ops Q fuel (listed.setIfInBounds i true) a' w' := by
      intro a' w' hh'
      refine ih _ a' w' (by simpa using hsz) ?_ ?_ ?_
      · rw [hX']
        intro k p hp hk e he hb
        by_cases hke : e.on = i
        · simp [hke]
        · simp only [hke, if_false]
          by_cases hki : k = i
          · subst hki
            rw [ho] at hp
            injection hp with hp; subst hp
            exact hedges e he hb
          · simp only [hki, if_false] at hk
            exact hcl k p hp hk e he hb
      · rw [hX']
        have := countP_up (X := fun j => listed.getD j false) hXi (List.range ops.size) (List.mem_range.2 hin)
        exact Nat.le_of_lt_succ (Nat.lt_of_lt_of_le this hop)
      · rw [hX', ← hap]; exact hh'
    have hh2 := hh
    obtain ⟨inj, k1, k2, k3⟩ := hh2
    have hw := guard_ok k2 hg
    unfold wpOp
    rw [ho]
    simp only [hw]
    cases b with
    | true =>
      rw [if_pos rfl]
      obtain ⟨d, hd0, hdap⟩ := hev rfl
      exact .inl (op_ok (hC _) k1 k2 hd0 (fun v w' hst => next _ _ (by rw [← hdap]; exact hold_ap hh k1 k2 k3 hst)))
    | false =>
      rw [if_neg (by simp)]
      refine next _ _ ?_
      rw [hdead rfl]
      exact hold_skip hh o.dst
end
theorem hold_drew {C0 : Ctx} {B : Base} {S : St} {a : Act} {w : World} (h : Hold C0 B S a w) : Hold C0 B S a { w with drawn := w.drawn + 1 } := by
  obtain ⟨inj, h1, h2, h3⟩ := h
  have le := next_le (B := B) (w := w) (w' := { w with drawn := w.drawn + 1 }) (inj := inj) (inj' := inj) (σ := S.σ) (σ' := S.σ) (cnt := S.cnt) (cnt' := S.cnt) (Fr.drew _ w) (fun _ => Nat.le_refl _) (fun l o' hl => .inl ⟨l, o', hl, rfl⟩) (fun l o' _ hl => ⟨o', hl, rfl, O.like_refl _, fun _ _ _ _ cells e hc => ⟨cells, hc, rfl⟩⟩)
  exact ⟨inj, h1.next (Fr.drew _ w) (fun _ => Nat.le_refl _) (fun l o' hl => .inl ⟨l, o', hl, rfl⟩) (fun l o' hl => h1.lt l o' hl) h1.uniq (fun l o' hl => h1.fresh l o' hl) (fun l o' hl => (h1.obj l o' hl).mono le rfl), ⟨h2.size, h2.defers, fun i => (h2.rep i).mono le, h2.glob.le le⟩, h3.trans le⟩
/-- Regions of open order are sound. -/
theorem draw_ok {P : Program} (hm : P.follows .mixedOrders = true) {call : Nat → FuncId → List T → Option (T × List T)} (hC : ∀ s, Known P (call s)) (mv : FuncId → Bool) : DrawOk P call mv bitsOf := by
  intro id ops dr C0 B S S' a w Q hok he hh hQ
  obtain ⟨D, _, hseen, hS'⟩ := evOpsD_seen (S0 := S) ops.toList 0 [] (fun _ => default) rfl (fun j hj => by omega) he
  simp only [Nat.zero_add, Array.length_toList] at hS'
  refine wp_region_any hm (any_ok hC hok (fun k o ho => hseen k o (Nat.zero_le _) ho) hS' hQ ops.size _ a _ (by simp) ?_ ?_ ?_)
  · intro i o ho hi
    have hlt := (Array.getElem?_eq_some_iff.1 ho).1
    simp [hlt] at hi
  · unfold openX
    exact Nat.le_trans List.countP_le_length (by simp)
  · have e : stt ops D S (fun j => (Array.replicate ops.size false).getD j false) ops.size = S := by
      have : ∀ m, m ≤ ops.size → stt ops D S (fun j => (Array.replicate ops.size false).getD j false) m = S := by
        intro m
        induction m with
        | zero => intro _; rfl
        | succ m ih =>
          intro hm
          show (if (Array.replicate ops.size false).getD m false = true then _ else _) = _
          have hf : (Array.replicate ops.size false).getD m false = false := by
            rw [Array.getD_eq_getD_getElem?, Array.getElem?_replicate]
            split <;> rfl
          rw [hf, if_neg (by simp)]
          exact ih (by omega)
      exact this _ (Nat.le_refl _)
    rw [e]
    exact hold_drew hh
end Go.Proofs.YtfknpnkdedckhaaGreatDoorT

/- The interpreter over trees: what a law is handed, opened as trees by its types. -/
namespace Go.Proofs.YtfknpnkdedckhaaGreatDoorT
open Go Go.RowKit
set_option linter.unusedVariables false

section
variable (P : Program)
/-- A value of a type out of its cells' trees. -/
def valT (e : TypeId) (ts : List T) : T := if aggOf P e = some true then .agg ts else ts.headD .dead
/-- Trees of a type's cells: whole numbers, bools, strings, structs and slices of these. -/
def Ty : Nat → TypeId → List T → Prop
  | 0, _, _ => False
  | n + 1, t, ts => match P.underlying t with
    | some .bool => ∃ b, ts = [.s (.bool b)]
    | some (.int k) => ∃ i, ts = [.s (.int k i)] ∧ (Lit.int k i).wf = true
    | some .string => ∃ b : ByteArray, ts = [.s (.string b)] ∧ b.size ≤ reachBytes
    | some (.slice e) => ∃ ys : List (List T), ts = [.sl (P.cellsOf e) (ys.map (valT P e))] ∧ (ys.length ≤ maxLen ∧ ys.length * P.bytesOf e ≤ reachBytes) ∧ ∀ y ∈ ys, y.length = P.cellsOf e ∧ Ty n e y
    | some (.struct fs) => ∃ yss : List (List T), ts = yss.flatten ∧ yss.length = fs.size ∧ ∀ (i : Nat) (f : Field) (y : List T), fs[i]? = some f → yss[i]? = some y → y.length = P.cellsOf f.type ∧ Ty n f.type y
    | some (.array m e) => ∃ yss : List (List T), ts = yss.flatten ∧ yss.length = m ∧ ∀ y ∈ yss, y.length = P.cellsOf e ∧ Ty n e y
    | _ => False
def tiles : Nat → List Field → Option Nat
  | o, [] => some o
  | o, f :: r => if f.offset = o then tiles (o + P.cellsOf f.type) r else none
/-- Types that are closed under their parts. -/
def tyOk (L : List TypeId) : Bool := L.all fun t => match P.underlying t with
  | some .bool | some (.int _) | some .string => true
  | some (.slice e) => L.contains e && decide (0 < P.cellsOf e) && (decide (aggOf P e = some true) || (decide (aggOf P e = some false) && decide (P.cellsOf e = 1)))
  | some (.struct fs) => fs.toList.all (fun f => L.contains f.type) && decide (tiles P 0 fs.toList = some (P.cellsOf t))
  | some (.array m e) => L.contains e && decide (P.cellsOf t = m * P.cellsOf e)
  | _ => false
end
theorem choose_list {α : Type} {R : Nat → α → Prop} : ∀ m, (∀ i, i < m → ∃ p, R i p) → ∃ l : List α, l.length = m ∧ ∀ i p, l[i]? = some p → R i p
  | 0, _ => ⟨[], rfl, fun i p h => by simp at h⟩
  | m + 1, h => by
    obtain ⟨l, hl, hr⟩ := choose_list m (fun i hi => h i (by omega))
    obtain ⟨p, hp⟩ := h m (by omega)
    refine ⟨l ++ [p], by simp [hl], fun i q hq => ?_⟩
    rw [List.getElem?_append] at hq
    split at hq
    · exact hr i q hq
    · rename_i hi
      rw [hl] at hq hi
      by_cases he : i = m
      · subst he
        simp at hq
        rw [← hq]; exact hp
      · rw [List.getElem?_eq_none (by simp; omega)] at hq
        simp at hq
section
variable {P : Program} {L : List TypeId}
theorem one_cells {c : Value} (h : one c) : c.cells = #[c] := by
  unfold one at h
  cases c <;> first | rfl | simp [Value.oneCell'] at h
theorem cells_get {w : World} {base : Nat} {a : Addr} {n : Nat} {es : List Value} (h : w.cells? base a n = some es) : es.length = n ∧ ∀ i c, es[i]? = some c → w.cell? (a.add i) = some c := by
  unfold World.cells? at h
  split at h
  · refine ⟨by simpa using mapM_some_length h, fun i c hc => ?_⟩
    have hl : es.length = n := by simpa using mapM_some_length h
    have hi : i < n := by rw [← hl]; exact (List.getElem?_eq_some_iff.1 hc).1
    have := mapM_some_get h i i (by simp [hi])
    rw [this, hc]
  · simp at h
theorem cell_spot {w : World} {a : Addr} {v : Value} (h : w.cell? a = some v) : a.spot = none ∧ a.block < w.heap.size := by
  unfold World.cell? at h
  split at h
  · rename_i c _ _ hb
    split at h
    · simp at h
    · rename_i hs
      exact ⟨by cases hsp : a.spot with | none => rfl | some s => rw [hsp] at hs; simp at hs, (Array.getElem?_eq_some_iff.1 hb).1⟩
  · simp at h
theorem flat_rep {C : Ctx} {cs : List Value} : ∀ (fl : List Field) (o tot : Nat) (yss : List (List T)), tiles P o fl = some tot → tot = cs.length → yss.length = fl.length →
    (∀ (i : Nat) (f : Field) (y : List T), fl[i]? = some f → yss[i]? = some y → RepA C y ((cs.drop f.offset).take (P.cellsOf f.type))) → RepA C yss.flatten (cs.drop o)
  | [], o, tot, yss, ht, htot, hl, h => by
    simp [tiles] at ht
    have : yss = [] := List.eq_nil_of_length_eq_zero (by simpa using hl)
    subst this
    rw [List.drop_eq_nil_of_le (by omega)]
    exact RepA.nil C
  | f :: fl, o, tot, yss, ht, htot, hl, h => by
    match yss, hl with
    | y :: yss, hl =>
      simp only [tiles] at ht
      split at ht
      · rename_i ho
        have h1 := h 0 f y rfl rfl
        have h2 := flat_rep fl (o + P.cellsOf f.type) tot yss ht htot (by simpa using hl) (fun i g z hg hz => h (i + 1) g z (by simpa using hg) (by simpa using hz))
        rw [ho] at h1
        have := h1.append h2
        rw [List.flatten_cons]
        have e : cs.drop o = (cs.drop o).take (P.cellsOf f.type) ++ cs.drop (o + P.cellsOf f.type) := by
          rw [← List.drop_drop, List.take_append_drop]
        rw [e]
        exact this
      · simp at ht
    | [], hl => simp at hl
theorem tiles_le : ∀ (fl : List Field) (o tot : Nat), tiles P o fl = some tot → o ≤ tot ∧ ∀ f ∈ fl, f.offset + P.cellsOf f.type ≤ tot
  | [], o, tot, h => by simp [tiles] at h; subst h; exact ⟨Nat.le_refl _, by simp⟩
  | f :: fl, o, tot, h => by
    simp only [tiles] at h
    split at h
    · rename_i ho
      obtain ⟨h1, h2⟩ := tiles_le fl _ tot h
      refine ⟨by omega, fun g hg => ?_⟩
      rcases List.mem_cons.1 hg with rfl | hg
      · omega
      · exact h2 g hg
    · simp at h
theorem flat_arr {C : Ctx} {cs : List Value} {sz : Nat} : ∀ (m o : Nat) (yss : List (List T)), cs.length = (o + m) * sz → yss.length = m →
    (∀ (i : Nat) (y : List T), yss[i]? = some y → RepA C y ((cs.drop ((o + i) * sz)).take sz)) → RepA C yss.flatten (cs.drop (o * sz))
  | 0, o, yss, hc, hl, h => by
    have : yss = [] := List.eq_nil_of_length_eq_zero hl
    subst this
    rw [List.drop_eq_nil_of_le (by rw [hc]; simp)]
    exact RepA.nil C
  | m + 1, o, yss, hc, hl, h => by
    match yss, hl with
    | y :: yss, hl =>
      have h1 := h 0 y rfl
      have h2 := flat_arr m (o + 1) yss (by rw [hc]; congr 1; omega) (by simpa using hl) (fun i z hz => by
        have := h (i + 1) z (by simpa using hz)
        rwa [show o + (i + 1) = o + 1 + i by omega] at this)
      rw [Nat.add_zero] at h1
      rw [List.flatten_cons]
      have e : cs.drop (o * sz) = (cs.drop (o * sz)).take sz ++ cs.drop ((o + 1) * sz) := by
        rw [Nat.add_mul, Nat.one_mul, ← List.drop_drop, List.take_append_drop]
      rw [e]
      exact h1.append h2
    | [], hl => simp at hl
theorem weights_all {H : Type} {e : TypeId} {d : DataW H} {n : Nat} : ∀ {ds : List (DataW H)}, d ∈ ds → n ∈ d.weights P e → n ∈ DataW.weightsAll P e ds
  | [], h, _ => absurd h List.not_mem_nil
  | x :: r, h, hn => by
    rw [DataW.weightsAll]
    rcases List.mem_cons.1 h with rfl | h
    · exact List.mem_append_left _ hn
    · exact List.mem_append_right _ (weights_all h hn)
/-- What is trod on is a tree of its type. -/
theorem open_trod (hL : tyOk P L = true) {H : Type} {enc : TypeId × Value → H} {w : World} {base : Nat} {spare : Nat → Bool} {held : Bool} :
    ∀ (n : Nat) (t : TypeId) (cs : List Value) (x : DataW H × List MemPlace), L.contains t = true → (∀ k ∈ x.1.weights P t, k ≤ reachBytes) → DataW.trod enc P w base spare held n t cs = some x → ∃ ts, Ty P n t ts ∧ RepA (cctx w (fun k => k < w.heap.size)) ts cs ∧ (∀ c ∈ cs, one c)
  | 0, t, cs, x, ht, hwt, h => by simp [DataW.trod] at h
  | n + 1, t, cs, x, ht, hwt, h => by
    have hl := List.all_eq_true.1 hL t (by simpa using ht)
    have single : ∀ {v : Value} {y : T}, Rep (cctx w (fun k => k < w.heap.size)) y v → one v → RepA (cctx w (fun k => k < w.heap.size)) [y] [v] ∧ ∀ c ∈ [v], one c := fun h1 h2 => ⟨RepA.one h1, fun c hc => by rw [List.mem_singleton.1 hc]; exact h2⟩
    cases hu : P.underlying t with
    | none => rw [hu] at hl; simp at hl
    | some d =>
      rw [hu] at hl
      cases d with
      | bool =>
        obtain ⟨b, rfl, _⟩ := DataW.trod_bool hu h
        exact ⟨[.s (.bool b)], by simp only [Ty, hu]; exact ⟨b, rfl⟩, single (.s rfl) rfl⟩
      | int k =>
        obtain ⟨i, rfl, _, hw⟩ := DataW.trod_int hu h
        exact ⟨[.s (.int k i)], by simp only [Ty, hu]; exact ⟨i, rfl, hw⟩, single (.s rfl) rfl⟩
      | string =>
        obtain ⟨b, rfl, rfl, hw⟩ := DataW.trod_string hu h
        have hwb : b.size ≤ reachBytes := by
          have := hwt b.data.toList.length (by simp [DataW.weights])
          simpa using this
        exact ⟨[.s (.string b)], by simp only [Ty, hu]; exact ⟨b, rfl, hwb⟩, single (.s rfl) rfl⟩
      | slice e =>
        simp only [Bool.and_eq_true, Bool.or_eq_true, decide_eq_true_eq] at hl
        obtain ⟨⟨hel, h0⟩, hag⟩ := hl
        rcases DataW.trod_slice hu h with ⟨rfl, _⟩ | ⟨a, len, cap, elems, rest, m, hm, rfl, rfl, hb, hlc, hcm, hel', hget, _, _⟩
        · exact ⟨[.sl (P.cellsOf e) []], by simp only [Ty, hu]; exact ⟨[], rfl, ⟨Nat.zero_le _, by simp⟩, by simp⟩, single (Rep.sl_mk (Nat.le_refl _) (.inl rfl)) rfl⟩
        · have hm : m = n := by omega
          subst hm
          have hwl : len * P.bytesOf e ≤ reachBytes := by
            have := hwt ((elems.length + rest.length) * P.bytesOf e) (by simp [DataW.weights, hu])
            rw [hel'] at this
            exact Nat.le_trans (Nat.mul_le_mul_right _ (Nat.le_add_right _ _)) this
          have hch : ∀ i, i < len → ∃ p : List T × List Value, Ty P m e p.1 ∧ RepA (cctx w (fun k => k < w.heap.size)) p.1 p.2 ∧ (∀ c ∈ p.2, one c) ∧ p.2.length = P.cellsOf e ∧ ∀ k c, p.2[k]? = some c → w.cell? ((a.add (i * P.cellsOf e)).add k) = some c := by
            intro i hi
            have hg := hget i hi
            have hi' : i < elems.length := by omega
            rw [List.getElem?_eq_getElem hi'] at hg
            obtain ⟨es, h1, h2⟩ := Option.bind_eq_some_iff.1 hg
            obtain ⟨h3, h4⟩ := cells_get h1
            obtain ⟨ts, g1, g2, g3⟩ := open_trod hL m e es _ hel (fun k hk => hwt k (by
              simp only [DataW.weights, hu]
              refine List.mem_cons_of_mem _ (List.mem_append_left _ (weights_all (List.mem_map.2 ⟨_, List.getElem_mem hi', rfl⟩) hk)))) h2
            exact ⟨(ts, es), g1, g2, g3, h3, h4⟩
          obtain ⟨ps, hps, hpr⟩ := choose_list len hch
          have hval : ∀ p : List T × List Value, RepA (cctx w (fun k => k < w.heap.size)) p.1 p.2 → (∀ c ∈ p.2, one c) → p.2.length = P.cellsOf e → ∃ u, Rep (cctx w (fun k => k < w.heap.size)) (valT P e p.1) u ∧ u.cells = p.2.toArray := by
            intro p g2 g3 g4
            unfold valT
            rcases hag with hag | ⟨hag, hsz⟩
            · rw [if_pos hag]
              exact ⟨.agg p.2.toArray, .agg g2.1 g2.2 g3, rfl⟩
            · rw [if_neg (by rw [hag]; simp)]
              obtain ⟨ts, es⟩ := p
              simp only at g2 g3 g4 ⊢
              match ts, es, g2, g4 with
              | [y], [c], g2, _ => exact ⟨c, g2.head, one_cells (g3 c (by simp))⟩
              | _, [], _, g4 => simp [hsz] at g4
              | [], [c], g2, _ => exact absurd g2.1 (by simp)
              | _ :: _ :: _, [c], g2, _ => exact absurd g2.1 (by simp)
              | _, _ :: _ :: _, _, g4 => simp [hsz] at g4
          have hus : ∀ i, i < len → ∃ u : Value, ∀ p, ps[i]? = some p → Rep (cctx w (fun k => k < w.heap.size)) (valT P e p.1) u ∧ u.cells = p.2.toArray := by
            intro i hi
            have hpi : ps[i]? = some ps[i] := List.getElem?_eq_getElem (by omega)
            obtain ⟨g1, g2, g3, g4, g5⟩ := hpr i _ hpi
            obtain ⟨u, k1, k2⟩ := hval _ g2 g3 g4
            exact ⟨u, fun p hp => by rw [hpi] at hp; injection hp with hp; subst hp; exact ⟨k1, k2⟩⟩
          obtain ⟨us, hul, hur⟩ := choose_list len hus
          refine ⟨[.sl (P.cellsOf e) ((ps.map (·.1)).map (valT P e))], ?_, ?_⟩
          · simp only [Ty, hu]
            refine ⟨ps.map (·.1), rfl, ⟨by simp; omega, by rw [List.length_map, hps]; exact hwl⟩, fun y hy => ?_⟩
            obtain ⟨p, hp, rfl⟩ := List.mem_map.1 hy
            obtain ⟨i, hi⟩ := List.getElem?_of_mem hp
            obtain ⟨g1, g2, g3, g4, g5⟩ := hpr i p hi
            exact ⟨by rw [g2.1, g4], g1⟩
          · refine single ?_ rfl
            have hxl : ((ps.map (·.1)).map (valT P e)).length = len := by simp [hps]
            have hmain := Rep.sl (C := cctx w (fun k => k < w.heap.size)) (sz := P.cellsOf e) (xs := (ps.map (·.1)).map (valT P e)) (us := us) (A := some a) (c := cap) (by rw [hxl, hul]) (by rw [hxl]; exact hlc) (fun j y u hy hu' => by
                rw [List.getElem?_map, List.getElem?_map] at hy
                cases hp : ps[j]? with
                | none => rw [hp] at hy; simp at hy
                | some p =>
                  rw [hp] at hy
                  simp only [Option.map_some, Option.some.injEq] at hy
                  subst hy
                  exact (hur j u hu' p hp).1) (fun u hu' => by
                obtain ⟨j, hj⟩ := List.getElem?_of_mem hu'
                have hjl : j < len := by rw [← hul]; exact (List.getElem?_eq_some_iff.1 hj).1
                have hpj : ps[j]? = some ps[j] := List.getElem?_eq_getElem (by omega)
                rw [(hur j u hj _ hpj).2, List.size_toArray]
                exact (hpr j _ hpj).2.2.2.1) ?_
            · rw [hxl] at hmain; exact hmain
            · by_cases hlen : len = 0
              · left
                have : ps = [] := List.eq_nil_of_length_eq_zero (by omega)
                rw [this]; rfl
              · right
                have hp0 : ps[0]? = some ps[0] := List.getElem?_eq_getElem (by omega)
                obtain ⟨g1, g2, g3, g4, g5⟩ := hpr 0 _ hp0
                have hc0 := g5 0 _ (List.getElem?_eq_getElem (by omega))
                have hadd0 : (a.add (0 * P.cellsOf e)).add 0 = a := by simp [Addr.add]
                rw [hadd0] at hc0
                obtain ⟨hsp, hblk⟩ := cell_spot hc0
                refine ⟨a, rfl, hsp, hblk, fun j i u cv hu' hc => ?_⟩
                have hjl : j < len := by rw [← hul]; exact (List.getElem?_eq_some_iff.1 hu').1
                have hpj : ps[j]? = some ps[j] := List.getElem?_eq_getElem (by omega)
                rw [(hur j u hu' _ hpj).2, List.getElem?_toArray] at hc
                have := (hpr j _ hpj).2.2.2.2 i cv hc
                rw [add_at hsp, add_at rfl] at this
                rw [← Nat.add_assoc]
                exact this
      | struct fs =>
        simp only [Bool.and_eq_true, decide_eq_true_eq] at hl
        obtain ⟨hfl, htl⟩ := hl
        obtain ⟨xs, m, hm, rfl, hcl, hxl, hget⟩ := DataW.trod_struct hu h
        have hm : m = n := by omega
        subst hm
        obtain ⟨_, htle⟩ := tiles_le fs.toList 0 _ htl
        have hch : ∀ i, i < fs.size → ∃ y : List T, ∀ f, fs[i]? = some f → Ty P m f.type y ∧ RepA (cctx w (fun k => k < w.heap.size)) y ((cs.drop f.offset).take (P.cellsOf f.type)) ∧ ∀ c ∈ (cs.drop f.offset).take (P.cellsOf f.type), one c := by
          intro i hi
          have hfi : fs[i]? = some fs[i] := Array.getElem?_eq_getElem hi
          have hg := hget i _ hfi
          rw [List.getElem?_eq_getElem (by omega)] at hg
          have hmem : L.contains fs[i].type = true := List.all_eq_true.1 hfl _ (by simp)
          obtain ⟨ts, g1, g2, g3⟩ := open_trod hL m _ _ _ hmem (fun k hk => hwt k (by
            simp only [DataW.weights, hu]
            exact DataW.weights_mem_each (j := i) (by rw [List.getElem?_map, Array.getElem?_toList, hfi]; rfl) (by rw [List.getElem?_map, List.getElem?_eq_getElem (by omega)]; rfl) k hk)) hg
          exact ⟨ts, fun f hf => by rw [hfi] at hf; injection hf with hf; subst hf; exact ⟨g1, g2, g3⟩⟩
        obtain ⟨yss, hyl, hyr⟩ := choose_list fs.size hch
        have hrep := flat_rep (P := P) (C := cctx w (fun k => k < w.heap.size)) (cs := cs) fs.toList 0 _ yss htl hcl.symm (by simpa using hyl) (fun i f y hf hy => (hyr i y hy f (by simpa using hf)).2.1)
        refine ⟨yss.flatten, ?_, by simpa using hrep, ?_⟩
        · simp only [Ty, hu]
          refine ⟨yss, rfl, hyl, fun i f y hf hy => ?_⟩
          obtain ⟨g1, g2, g3⟩ := hyr i y hy f hf
          have := htle f (by simpa using List.mem_of_getElem? (show fs.toList[i]? = some f by simpa using hf))
          refine ⟨?_, g1⟩
          rw [g2.1, List.length_take, List.length_drop]
          omega
        · -- every cell lies in some field
          have : ∀ (fl : List Field) (o : Nat), tiles P o fl = some (P.cellsOf t) → (∀ f ∈ fl, ∀ c ∈ (cs.drop f.offset).take (P.cellsOf f.type), one c) → ∀ c ∈ cs.drop o, one c := by
            intro fl
            induction fl with
            | nil =>
              intro o ho _ c hc
              simp [tiles] at ho
              rw [List.drop_eq_nil_of_le (by omega)] at hc
              simp at hc
            | cons f fl ih =>
              intro o ho hf c hc
              simp only [tiles] at ho
              split at ho
              · rename_i hof
                have e : cs.drop o = (cs.drop o).take (P.cellsOf f.type) ++ cs.drop (o + P.cellsOf f.type) := by
                  rw [← List.drop_drop, List.take_append_drop]
                rw [e] at hc
                rcases List.mem_append.1 hc with hc | hc
                · exact hf f (List.mem_cons_self ..) c (by rw [hof]; exact hc)
                · exact ih _ ho (fun g hg => hf g (List.mem_cons_of_mem _ hg)) c hc
              · simp at ho
          have hall := this fs.toList 0 htl (fun f hf c hc => by
            obtain ⟨i, hi⟩ := List.getElem?_of_mem hf
            have hi' : fs[i]? = some f := by simpa using hi
            have hil : i < fs.size := (Array.getElem?_eq_some_iff.1 hi').1
            have hyi : yss[i]? = some yss[i] := List.getElem?_eq_getElem (by omega)
            exact (hyr i _ hyi f hi').2.2 c hc)
          simpa using hall
      | array m e =>
        simp only [Bool.and_eq_true, decide_eq_true_eq] at hl
        obtain ⟨hel, hsz⟩ := hl
        obtain ⟨xs, q, hq, rfl, hcl, hxl, hget⟩ := DataW.trod_array hu h
        have hq : q = n := by omega
        subst hq
        have hch : ∀ i, i < m → ∃ y : List T, Ty P q e y ∧ RepA (cctx w (fun k => k < w.heap.size)) y ((cs.drop (i * P.cellsOf e)).take (P.cellsOf e)) ∧ ∀ c ∈ (cs.drop (i * P.cellsOf e)).take (P.cellsOf e), one c := by
          intro i hi
          have hg := hget i hi
          rw [List.getElem?_eq_getElem (by omega)] at hg
          exact open_trod hL q _ _ _ hel (fun k hk => hwt k (by
            simp only [DataW.weights, hu]
            exact weights_all (List.mem_map.2 ⟨_, List.getElem_mem (by omega), rfl⟩) hk)) hg
        obtain ⟨yss, hyl, hyr⟩ := choose_list m hch
        have hrep := flat_arr (C := cctx w (fun k => k < w.heap.size)) (cs := cs) (sz := P.cellsOf e) m 0 yss (by rw [hcl, hsz, Nat.zero_add]) hyl (fun i y hy => by rw [Nat.zero_add]; exact (hyr i y hy).2.1)
        refine ⟨yss.flatten, ?_, by simpa using hrep, ?_⟩
        · simp only [Ty, hu]
          refine ⟨yss, rfl, hyl, fun y hy => ?_⟩
          obtain ⟨i, hi⟩ := List.getElem?_of_mem hy
          obtain ⟨g1, g2, g3⟩ := hyr i y hi
          have him : i < m := by rw [← hyl]; exact (List.getElem?_eq_some_iff.1 hi).1
          refine ⟨?_, g1⟩
          rw [g2.1, List.length_take, List.length_drop, hcl, hsz]
          have := Nat.mul_le_mul_right (P.cellsOf e) (show i + 1 ≤ m by omega)
          rw [Nat.add_mul] at this
          omega
        · intro c hc
          obtain ⟨k, hk⟩ := List.getElem?_of_mem hc
          have hkl : k < m * P.cellsOf e := by rw [← hsz, ← hcl]; exact (List.getElem?_eq_some_iff.1 hk).1
          have hpos : 0 < P.cellsOf e := by
            rcases Nat.eq_zero_or_pos (P.cellsOf e) with h0 | h0
            · rw [h0] at hkl; simp at hkl
            · exact h0
          have hdm : k / P.cellsOf e < m := (Nat.div_lt_iff_lt_mul hpos).2 hkl
          have hyi : yss[k / P.cellsOf e]? = some yss[k / P.cellsOf e] := List.getElem?_eq_getElem (by omega)
          refine (hyr _ _ hyi).2.2 c (List.mem_of_getElem? (i := k % P.cellsOf e) ?_)
          rw [List.getElem?_take, if_pos (Nat.mod_lt _ hpos), List.getElem?_drop, Nat.mul_comm, Nat.div_add_mod]
          exact hk
      | _ => simp at hl
end
end Go.Proofs.YtfknpnkdedckhaaGreatDoorT
