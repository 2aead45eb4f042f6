/- The interpreter over trees: stores, iterators, structs and slices that are built, append. -/
import Derived.Test.YthcaodlfnlhfbaaDoorT7
import Derived.Laws.Append
namespace Go.Proofs.YthcaodlfnlhfbaaDoorT
open Go Go.RowKit
set_option linter.unusedVariables false

section
variable {P : Program} {B : Base} {w : World} {inj : Loc → Nat} {σ : Loc → Option O} {cnt : Nat → Nat}
theorem Fr.setRow (w : World) (g : Nat) (cs : Array Value) : Fr (fun k => k = g) w (w.setRow g cs) :=
  ⟨rfl, rfl, rfl, by simp, fun k _ hk => setRow_other w g k cs hk⟩
theorem repA_splice {C : Ctx} {cs ns : List T} {us ms : List Value} (h : RepA C cs us) (k : RepA C ns ms) (off : Nat) : RepA C (splice cs off ns) (us.take off ++ ms ++ us.drop (off + ms.length)) := by
  unfold splice
  rw [← k.1]
  exact ((h.take off).append k).append (h.drop _)
theorem run_storeV {t : TypeId} {n : Nat} (hs : szOf P t = some n) {g off : Nat} {ty : TypeId} {cur : Array Value} (hg : w.heap[g]? = some (.cells cur ty (0, 0))) {v : Value} (hv : v.cells.size = n) (hl : off + n ≤ cur.size) (h1 : ∀ u ∈ v.cells.toList, one u) :
    (storeVar t ⟨g, off, none⟩ v).run P w = .ok () (w.setRow g (cur.toList.take off ++ v.cells.toList ++ cur.toList.drop (off + v.cells.toList.length)).toArray) := by
  have h := run_storeCells_at (P := P) g off ty v.cells.toList 0 cur w hg (by simp only [Nat.add_zero, Array.length_toList]; omega) h1
  simp only [Nat.add_zero] at h
  simp only [storeVar, Sem.run_bind, run_sz hs, Result.andThen_ok, hv, ne_eq, not_true_eq_false, if_false, Sem.run_pure]
  exact h
theorem row_splice {C : Ctx} {sz : Nat} {xs : List T} {cells cells' : Array Value} {i : Nat} {x' : T} {u' : Value} (hrow : RowOf C sz xs (fun k => cells[k]?)) (hx' : Rep C x' u') (hs : u'.cells.size = sz)
    (hsame : ∀ k, (k < i * sz ∨ (i + 1) * sz ≤ k) → cells'[k]? = cells[k]?) (hnew : ∀ (k : Nat) (cv : Value), u'.cells[k]? = some cv → cells'[i * sz + k]? = some cv) : RowOf C sz (xs.set i x') (fun k => cells'[k]?) := by
  obtain ⟨us, h1, h2, h3⟩ := hrow
  refine ⟨us.set i u', h1.set i hx', fun u hu => ?_, fun j k u cv hu hc => ?_⟩
  · rcases List.mem_or_eq_of_mem_set hu with hu | rfl
    · exact h2 u hu
    · exact hs
  · rw [List.getElem?_set] at hu
    split at hu
    · rename_i e
      subst e
      split at hu
      · injection hu with hu; subst hu; exact hnew k cv hc
      · simp at hu
    · rename_i hne
      have hk : k < sz := by
        have := h2 u (List.mem_of_getElem? hu)
        have := (Array.getElem?_eq_some_iff.1 hc).1
        omega
      show cells'[j * sz + k]? = some cv
      rw [show cells'[j * sz + k]? = cells[j * sz + k]? from hsame _ (by
        rcases Nat.lt_or_gt_of_ne hne with hlt | hgt
        · right
          have := Nat.mul_le_mul_right sz (show i + 1 ≤ j from hlt)
          omega
        · left
          have := Nat.mul_le_mul_right sz (show j + 1 ≤ i from hgt)
          rw [Nat.add_mul] at this
          omega)]
      exact h3 j k u cv hu hc
theorem splice_get (l ns : List Value) (off k : Nat) (ho : off + ns.length ≤ l.length) : (l.take off ++ ns ++ l.drop (off + ns.length))[k]? = if k < off then l[k]? else if k < off + ns.length then ns[k - off]? else l[k]? := by
  rw [List.append_assoc, List.getElem?_append, List.length_take, Nat.min_eq_left (by omega)]
  split
  · rw [List.getElem?_take, if_pos (by assumption)]
  · rw [List.getElem?_append]
    split
    · rw [if_pos (by omega)]
    · rw [if_neg (by omega), List.getElem?_drop]
      congr 1
      omega
/-- store -/
theorem store_ok {S : St} (h : SR B w inj S.σ S.cnt) {t : TypeId} {a x : T} {ua u : Value} {d : Dl} (ha : Rep (sctx B w inj S.σ S.cnt) a ua) (hx : Rep (sctx B w inj S.σ S.cnt) x u) (hd : evStore P S t x a = some d) :
    ∃ w', (Instr.storeAt t ua u).run P w = .ok () w' ∧ Stp B w inj S.σ S.cnt d undef w' := by
  unfold evStore at hd
  split at hd
  · rename_i l off
    split at hd
    · rename_i ty cs n hl hs
      split at hd
      · rename_i hc
        simp only [Bool.and_eq_true, decide_eq_true_eq] at hc
        obtain ⟨⟨hk, hn⟩, ho⟩ := hc
        injection hd with hd; subst hd
        cases ha
        rename_i hp
        obtain ⟨_, b, rfl, hb⟩ := hp
        obtain rfl := hb ty cs hl
        obtain ⟨us, hg, hr, h1⟩ := box_parts h hl
        obtain ⟨hra, h1a⟩ := hx.cells (sctx_good _ _ _ _ _) hk
        have hsz : u.cells.size = n := by rw [← hn, hra.1]; simp
        have hst := run_storeV (P := P) hs hg hsz (by rw [List.size_toArray, ← hr.1]; exact ho) h1a (off := off)
        refine ⟨_, hst, ?_⟩
        have hnew := setRow_heap w (inj l) us.toArray (us.take off ++ u.cells.toList ++ us.drop (off + u.cells.toList.length)).toArray ty (0, 0) hg
        refine Stp.set h hl (by trivial) (Fr.setRow w (inj l) _) ?_ ?_ (fun C le => .dead) [l]
        · intro cells e hcell
          rw [hg] at hcell
          injection hcell with hcell; injection hcell with e1 e2 _
          subst e1; subst e2
          refine ⟨_, hnew, ?_⟩
          simp
          have := hr.1
          omega
        · intro C le hw
          refine ⟨_, by rw [hw]; exact hnew, repA_splice (hr.mono le) (hra.mono le) off, fun v hv => ?_⟩
          rcases List.mem_append.1 hv with hv | hv
          · rcases List.mem_append.1 hv with hv | hv
            · exact h1 v (List.mem_of_mem_take hv)
            · exact h1a v hv
          · exact h1 v (List.mem_of_mem_drop hv)
      · simp at hd
    · simp at hd
  · rename_i l sz' i off
    split at hd
    · rename_i e sz xs n y r hl hs hf
      split at hd
      · rename_i x0 hx0
        split at hd
        · rename_i hc
          simp only [Bool.and_eq_true, decide_eq_true_eq, Bool.not_eq_true', List.contains_eq_mem, decide_eq_false_iff_not] at hc
          obtain ⟨⟨⟨⟨⟨hk, hk0⟩, rfl⟩, hn⟩, ho⟩, hlr⟩ := hc
          have hkeys := frzC_keys hf
          have hy : Rep (sctx B w inj (updL S.σ (killL r)) S.cnt).ro y u := (frzC_ok h hf hx).mono (fctx_kill h hkeys)
          have hK := h.kill r
          have hlK : updL S.σ (killL r) l = some (.arr e sz' xs) := by rw [updL_kill, if_neg hlr]; exact hl
          have haK := ha.mono (kill_le h r)
          cases haK
          rename_i hp
          obtain ⟨_, b, rfl, hb⟩ := hp
          obtain rfl := hb _ _ _ hlK
          obtain ⟨h0, cells, c, hg, hcs, hlc, hcm, hrow⟩ := arr_parts hK hlK
          obtain ⟨u0, hru0, hus0, huc0⟩ := hrow.get hx0
          obtain ⟨hra0, h10⟩ := hru0.cells (Ctx.ro_good _) hk0
          obtain ⟨hra, h1a⟩ := hy.cells (Ctx.ro_good _) hk
          have hsz : u.cells.size = n := by rw [← hn, hra.1]; simp
          have hx0l : x0.cells.length = sz' := by rw [hra0.1, Array.length_toList]; exact hus0
          have hilt : i < xs.length := (List.getElem?_eq_some_iff.1 hx0).1
          have hbound : i * sz' + sz' ≤ cells.size := by
            rw [hcs]
            have := Nat.mul_le_mul_right sz' (show i + 1 ≤ c by omega)
            rw [Nat.add_mul] at this
            omega
          have hst := run_storeV (P := P) (v := u) hs hg hsz (off := i * sz' + off) (by omega) h1a
          have hnew := setRow_heap w (inj l) cells (cells.toList.take (i * sz' + off) ++ u.cells.toList ++ cells.toList.drop (i * sz' + off + u.cells.toList.length)).toArray e (0, 0) hg
          have hget : ∀ k, (cells.toList.take (i * sz' + off) ++ u.cells.toList ++ cells.toList.drop (i * sz' + off + u.cells.toList.length)).toArray[k]? = if k < i * sz' + off then cells[k]? else if k < i * sz' + off + n then u.cells[k - (i * sz' + off)]? else cells[k]? := by
            intro k
            rw [List.getElem?_toArray, splice_get _ _ _ _ (by simp only [Array.length_toList]; omega)]
            simp only [Array.getElem?_toList, Array.length_toList, hsz]
          have hsize : (cells.toList.take (i * sz' + off) ++ u.cells.toList ++ cells.toList.drop (i * sz' + off + u.cells.toList.length)).toArray.size = cells.size := by
            simp
            omega
          generalize hcells' : (cells.toList.take (i * sz' + off) ++ u.cells.toList ++ cells.toList.drop (i * sz' + off + u.cells.toList.length)).toArray = cells' at hst hnew hget hsize
          have fin : ∀ (x' : T) (u' : Value), Rep (sctx B w inj (updL S.σ (killL r)) S.cnt).ro x' u' → u'.cells.size = sz' → (∀ (k : Nat) (cv : Value), u'.cells[k]? = some cv → cells'[i * sz' + k]? = some cv) →
              Stp B w inj S.σ S.cnt ⟨.dead, killL r ++ [(l, some (.arr e sz' (xs.set i x')))], [], l :: r⟩ undef (w.setRow (inj l) cells') := by
            intro x' u' hx' hs' hcv'
            refine Stp.killed (rd := []) h (Stp.set hK hlK (show (O.arr e sz' xs).like (.arr e sz' (xs.set i x')) from ⟨rfl, rfl, by simp⟩) (Fr.setRow w (inj l) _) ?_ ?_ (fun C le => .dead) [])
            · intro cells1 e1 hcell
              rw [hg] at hcell
              injection hcell with hcell; injection hcell with e1 e2 _
              subst e1; subst e2
              exact ⟨_, hnew, hsize⟩
            · intro C le hw
              refine ⟨h0, cells', c, by rw [hw]; exact hnew, by rw [hsize]; exact hcs, by simpa using hlc, hcm, ?_⟩
              refine (row_splice hrow hx' hs' (fun k hk' => ?_) hcv').mono le.roro (fun _ _ h => h)
              rw [hget]
              rw [Nat.add_mul] at hk'
              split
              · rfl
              · rw [if_neg (by omega)]
          refine ⟨_, hst, ?_⟩
          split at hd
          · rename_i cs
            injection hd with hd; subst hd
            obtain ⟨vs, rfl, hvl, hvr, hv1⟩ := hru0.agg_parts
            have hvl2 : vs.length = sz' := by simpa [Value.cells] using hus0
            refine fin (.agg (splice cs off y.cells)) (.agg (vs.take off ++ u.cells.toList ++ vs.drop (off + u.cells.toList.length)).toArray) ?_ ?_ ?_
            · have hr := repA_splice (C := (sctx B w inj (updL S.σ (killL r)) S.cnt).ro) ⟨hvl, hvr⟩ hra off
              refine .agg hr.1 hr.2 (fun v hv => ?_)
              rcases List.mem_append.1 hv with hv | hv
              · rcases List.mem_append.1 hv with hv | hv
                · exact hv1 v (List.mem_of_mem_take hv)
                · exact h1a v hv
              · exact hv1 v (List.mem_of_mem_drop hv)
            · have hcl : cs.length = sz' := hx0l
              have ho' : off + n ≤ cs.length := ho
              show (vs.take off ++ u.cells.toList ++ vs.drop (off + u.cells.toList.length)).toArray.size = sz'
              simp only [List.size_toArray, List.length_append, List.length_take, List.length_drop, Array.length_toList, hsz]
              omega
            · intro k cv hk'
              have hcl : cs.length = sz' := hx0l
              have ho' : off + n ≤ cs.length := ho
              have hk' : (vs.take off ++ u.cells.toList ++ vs.drop (off + u.cells.toList.length)).toArray[k]? = some cv := hk'
              rw [List.getElem?_toArray] at hk'
              rw [splice_get _ _ _ _ (by simp only [Array.length_toList]; omega)] at hk'
              simp only [Array.length_toList, hsz, Array.getElem?_toList] at hk'
              rw [hget]
              split at hk'
              · rw [if_pos (by omega)]; exact huc0 k cv (show vs.toArray[k]? = some cv by rw [List.getElem?_toArray]; exact hk')
              · split at hk'
                · rw [if_neg (by omega), if_pos (by omega), show i * sz' + k - (i * sz' + off) = k - off by omega]; exact hk'
                · rw [if_neg (by omega), if_neg (by omega)]; exact huc0 k cv (show vs.toArray[k]? = some cv by rw [List.getElem?_toArray]; exact hk')
          · rename_i hna
            split at hd
            · simp at hd
            · rename_i hnb
              injection hd with hd; subst hd
              have hx1 : x0.cells = [x0] := by cases x0 <;> first | rfl | exact absurd rfl (hna _)
              have hsz1 : sz' = 1 := by rw [← hx0l, hx1]; rfl
              have hy1 : y.cells = [y] := by cases y <;> first | rfl | exact absurd rfl (hnb _)
              have hn1 : n = 1 := by rw [← hn, hy1]; rfl
              have ho1 : off + n ≤ 1 := by rw [hx1] at ho; exact ho
              refine fin y u hy (by rw [hsz, hn1, hsz1]) (fun k cv hk' => ?_)
              have hk1 : k < 1 := by
                have := (Array.getElem?_eq_some_iff.1 hk').1
                omega
              rw [hget, if_neg (by omega), if_pos (by omega), show i * sz' + k - (i * sz' + off) = k by omega]
              exact hk'
        · simp at hd
      · simp at hd
    · simp at hd
  · simp at hd
/-- range over a string -/
theorem range_ok (h : SR B w inj σ cnt) (site : Nat) {t : TypeId} {b : ByteArray} (hu : P.underlying t = some .string) :
    ∃ v w', (Instr.range t (.string b)).run P w = .ok v w' ∧ Stp B w inj σ cnt ⟨.it (site, cnt site), [((site, cnt site), some (.iter b 0))], [site], []⟩ v w' := by
  refine ⟨.pointer (some ⟨w.heap.size, 0, none⟩), w.alloc (.stringIter b 0), ?_, Stp.new h site (.iter b 0) (.stringIter b 0) _ _ [] (fun C le hb => hb) ?_⟩
  · simp only [Instr.range, Sem.run_bind, run_und hu, Result.andThen_ok, Sem.run_pure, run_newObj]
    rfl
  · intro inj' σ' cnt' hi hs hc hb
    exact .it ⟨hc, fun b' pos' _ => by rw [hi]⟩
theorem Fr.setObj (w : World) (g : Nat) (o : Obj) : Fr (fun k => k = g) w { w with heap := w.heap.setIfInBounds g o } :=
  ⟨rfl, rfl, rfl, by simp, fun k _ hk => by simp [Array.getElem?_setIfInBounds_ne (Ne.symm hk)]⟩
/-- the next rune -/
theorem next_ok (h : SR B w inj σ cnt) {l : Loc} {v : Value} {b : ByteArray} {pos : Nat} (hl : σ l = some (.iter b pos)) (hv : Rep (sctx B w inj σ cnt) (.it l) v) (ty : TypeId) :
    ∃ r w', (Instr.next v true ty).run P w = .ok r w' ∧ Stp B w inj σ cnt (if pos < b.size then
          ⟨.tup [tb true, ti pos, .s (.int .i32 (Utf8.decode b pos).1)], [(l, some (.iter b (pos + (Utf8.decode b pos).2)))], [], [l]⟩
        else ⟨.tup [tb false], [], [], [l]⟩) r w' := by
  cases hv
  rename_i hp
  obtain rfl := hp.2 b pos hl
  have hob : w.heap[inj l]? = some (.stringIter b pos) := h.obj l _ hl
  have hget : (getObj (inj l)).run P w = .ok (.stringIter b pos) w := by simp [getObj, Sem.run, hob]
  by_cases hlt : pos < b.size
  · rw [if_pos hlt]
    have hset : (setObj (inj l) (.stringIter b (pos + (Utf8.decode b pos).2))).run P w = .ok () { w with heap := w.heap.setIfInBounds (inj l) (.stringIter b (pos + (Utf8.decode b pos).2)) } := by simp [setObj, Sem.run, hob]
    refine ⟨.tuple #[.bool true, goInt pos, .int .i32 (Utf8.decode b pos).1], { w with heap := w.heap.setIfInBounds (inj l) (.stringIter b (pos + (Utf8.decode b pos).2)) }, ?_, ?_⟩
    · simp only [Instr.next, Sem.run_bind, hget, Result.andThen_ok, hlt, if_true, hset, Sem.run_pure]
    · have hlen := (Array.getElem?_eq_some_iff.1 hob).1
      refine Stp.set h hl (by trivial) (Fr.setObj w (inj l) _) ?_ ?_ ?_ [l]
      · intro cells e hc; rw [hob] at hc; simp at hc
      · intro C le hw; show C.w.heap[inj l]? = _; rw [hw]; simp [hlen]
      · intro C le
        exact .tup (vs := [_, _, _]) rfl (((RepA.one (rep_i .i32 _)).cons (rep_i .i64 _)).cons (rep_b true)).2
  · rw [if_neg hlt]
    refine ⟨.tuple #[.bool false], w, ?_, ?_⟩
    · simp only [Instr.next, Sem.run_bind, hget, Result.andThen_ok, hlt, if_false, Sem.run_pure]
    · exact Stp.pure h (.tup (vs := [_]) rfl (RepA.one (rep_b false)).2) _
end
end Go.Proofs.YthcaodlfnlhfbaaDoorT
