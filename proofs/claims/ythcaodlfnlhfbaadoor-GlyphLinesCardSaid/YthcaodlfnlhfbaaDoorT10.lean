/- The interpreter over trees: append; interface values; the length; the least and the greatest. -/
import Derived.Test.YthcaodlfnlhfbaaDoorT9
import Derived.Laws.OwnMore
namespace Go.Proofs.YthcaodlfnlhfbaaDoorT
open Go Go.RowKit
set_option linter.unusedVariables false

section
variable {P : Program} {B : Base} {w : World} {inj : Loc → Nat} {σ : Loc → Option O} {cnt : Nat → Nat}
/-- Two rows, one behind the other. -/
theorem row_append {C : Ctx} {sz n : Nat} {xs ys : List T} {f g h : Nat → Option Value} (hx : RowOf C sz xs f) (hn : xs.length = n) (hy : RowOf C sz ys g)
    (h1 : ∀ k, k < n * sz → h k = f k) (h2 : ∀ k, h (n * sz + k) = g k ∨ ys.length * sz ≤ k) : RowOf C sz (xs ++ ys) h := by
  obtain ⟨us, a1, a2, a3⟩ := hx
  obtain ⟨vs, b1, b2, b3⟩ := hy
  refine ⟨us ++ vs, a1.append b1, fun u hu => (List.mem_append.1 hu).elim (a2 u) (b2 u), fun j i u cv hu hc => ?_⟩
  have hul : us.length = n := by rw [← a1.1, hn]
  rw [List.getElem?_append] at hu
  split at hu
  · rename_i hj
    have hs := a2 u (List.mem_of_getElem? hu)
    have hi : i < sz := by rw [← hs]; exact (Array.getElem?_eq_some_iff.1 hc).1
    have hlt : j * sz + i < n * sz := by
      have := Nat.mul_le_mul_right sz (show j + 1 ≤ n by omega)
      rw [Nat.add_mul] at this
      omega
    rw [h1 _ hlt]
    exact a3 j i u cv hu hc
  · rename_i hj
    have hs := b2 u (List.mem_of_getElem? hu)
    have hi : i < sz := by rw [← hs]; exact (Array.getElem?_eq_some_iff.1 hc).1
    have hjl : j - us.length < vs.length := (List.getElem?_eq_some_iff.1 hu).1
    have hlt : (j - us.length) * sz + i < ys.length * sz := by
      have := Nat.mul_le_mul_right sz (show (j - us.length) + 1 ≤ ys.length by rw [b1.1]; omega)
      rw [Nat.add_mul] at this
      omega
    have he : j * sz + i = n * sz + ((j - us.length) * sz + i) := by
      rw [← Nat.add_assoc, ← Nat.add_mul]
      congr 2
      omega
    rw [he]
    rcases h2 ((j - us.length) * sz + i) with h2 | h2
    · rw [h2]; exact b3 _ i u cv hu hc
    · omega
/-- All cells of a row are there. -/
theorem row_all {C : Ctx} {sz : Nat} {ys : List T} {g : Nat → Option Value} (hg : C.Good) (h0 : 0 < sz) (h : RowOf C sz ys g) (hk : ys.all T.ok1 = true) (k : Nat) (hlt : k < ys.length * sz) : ∃ v, g k = some v ∧ one v := by
  have hj : k / sz < ys.length := (Nat.div_lt_iff_lt_mul h0).2 hlt
  obtain ⟨u, hr, hs, hc⟩ := h.get (List.getElem?_eq_getElem hj)
  have hi : k % sz < u.cells.size := by rw [hs]; exact Nat.mod_lt _ h0
  have hcell := hc (k % sz) _ (Array.getElem?_eq_getElem hi)
  rw [Nat.mul_comm, Nat.div_add_mod] at hcell
  refine ⟨_, hcell, (hr.cells hg ?_).2 _ ?_⟩
  · exact List.all_eq_true.1 hk _ (List.getElem_mem hj)
  · simp
/-- The elements appended, where they lie. -/
theorem src_ok (h : SR B w inj σ cnt) {sz : Nat} {x : T} {u : Value} {ys : List T} {r : List Loc} (hx : Rep (sctx B w inj σ cnt) x u) (hs : srcOf σ sz x = some (ys, r)) :
    ∃ A c, u = .slice A ys.length c ∧ (ys = [] ∨ ∃ ad : Addr, A = some ad ∧ ad.spot = none ∧ RowOf (sctx B w inj σ cnt).ro sz ys (fun i => w.cell? ⟨ad.block, ad.off + i, none⟩)) := by
  unfold srcOf at hs
  split at hs
  · rename_i sz' xs
    split at hs
    · rename_i hz
      injection hs with hs; injection hs with e1 e2; subst e1; subst e2
      obtain ⟨A, c, rfl, hc, hm⟩ := hx.sl_row
      refine ⟨A, c, rfl, ?_⟩
      rcases hm with hm | ⟨ad, e, hsp, hok, hrow⟩
      · exact .inl hm
      · simp only [szok, Bool.or_eq_true, decide_eq_true_eq, List.isEmpty_iff] at hz
        rcases hz with rfl | hz
        · exact .inr ⟨ad, e, hsp, hrow⟩
        · exact .inl hz
    · simp at hs
  · rename_i l
    split at hs
    · rename_i e sz' ys' hl
      split at hs
      · rename_i hc
        obtain rfl := hc
        injection hs with hs; injection hs with e1 e2; subst e1; subst e2
        cases hx
        rename_i hp
        obtain ⟨h1, b, n, c, rfl, hnc, hb⟩ := hp
        obtain ⟨rfl, rfl, cells, hc1, hc2⟩ := hb _ _ _ hl
        obtain ⟨h0, cells', c', g1, g2, g3, g4, g5⟩ := arr_parts h hl
        rw [hc1] at g1
        injection g1 with g1; injection g1 with g1 _ _
        subst g1
        refine ⟨_, c, rfl, .inr ⟨_, rfl, rfl, g5.mono (Ctx.le.refl _) (fun i u hu => ?_)⟩⟩
        simp [World.cell?, hc1, hu]
      · simp at hs
    · simp at hs
  · injection hs with hs; injection hs with e1 e2; subst e1; subst e2
    obtain rfl := rep_s hx
    exact ⟨none, 0, rfl, .inl rfl⟩
  · simp at hs
/-- append looks at the second type for its kind alone. -/
theorem append_types {t t1 ty e e1 : TypeId} (ht : P.underlying t = some (.slice e)) (h1 : P.underlying t1 = some (.slice e1)) (A A' : Option Addr) (n c n' c' : Nat) (w : World) :
    (Builtin.append_ #[t, t1] ty #[.slice A n c, .slice A' n' c']).run P w = (Builtin.append_ #[t, t] ty #[.slice A n c, .slice A' n' c']).run P w := by
  simp [Builtin.append_, run_underlying ht, run_underlying h1]
theorem append_none {t ty e : TypeId} {sz : Nat} (ht : P.underlying t = some (.slice e)) (hs : szOf P e = some sz) (A A' : Option Addr) (n c c' : Nat) (hn : n ≤ c) (w : World) :
    (Builtin.append_ #[t, t] ty #[.slice A n c, .slice A' 0 c']).run P w = .ok (.slice A n c) w := by
  unfold szOf at hs
  cases hi : P.info? e with
  | none => rw [hi] at hs; simp at hs
  | some i =>
    cases A <;> cases A' <;> simp [Builtin.append_, run_underlying ht, sizeOf, typeInfo, hi, Builtin.lenOf, Builtin.firstCells, hn, storeCells, loadCells, loadCellsFrom]
theorem elemOf_parts {t e : TypeId} (h : elemOf P t = some e) : P.underlying t = some (.slice e) := by
  unfold elemOf at h
  split at h
  · rename_i e' hu; injection h with h; subst h; exact hu
  · simp at h
/-- One's own row gone over to a new key: in its block, or in a new one. -/
theorem Stp.regrow (h : SR B w inj σ cnt) {l : Loc} {e : TypeId} {sz : Nat} {xs zs : List T} (hl : σ l = some (.arr e sz xs)) {w' : World} {blk c' : Nat} {cells : Array Value}
    (hw : Fr (fun k => k = inj l) w w') (hb : blk = inj l ∨ blk = w.heap.size) (h0 : 0 < sz) (hcell : w'.heap[blk]? = some (.cells cells e (0, 0))) (hcs : cells.size = c' * sz) (hm : zs.length ≤ c') (hmx : c' ≤ maxLen)
    (hrow : RowOf (sctx B w inj σ cnt).ro sz zs (fun i => cells[i]?)) (rd : List Loc) :
    Stp B w inj σ cnt ⟨.own (l.1, cnt l.1), [(l, none), ((l.1, cnt l.1), some (.arr e sz zs))], [l.1], rd⟩ (.slice (some ⟨blk, 0, none⟩) zs.length c') w' := by
  have hlt : l.2 < cnt l.1 := h.fresh l _ hl
  have hσ : ∀ k, updL σ [(l, none), ((l.1, cnt l.1), some (.arr e sz zs))] k = if k = (l.1, cnt l.1) then some (.arr e sz zs) else if k = l then none else σ k := fun _ => rfl
  have hlook : ∀ k q, updL σ [(l, none), ((l.1, cnt l.1), some (.arr e sz zs))] k = some q → (k = (l.1, cnt l.1) ∧ q = .arr e sz zs) ∨ (k ≠ (l.1, cnt l.1) ∧ k ≠ l ∧ σ k = some q) := by
    intro k q hq
    rw [hσ] at hq
    split at hq
    · rename_i ek; injection hq with hq; exact .inl ⟨ek, hq.symm⟩
    · rename_i ek
      split at hq
      · simp at hq
      · rename_i ek'; exact .inr ⟨ek, ek', hq⟩
  have hblk : blk < w'.heap.size := (Array.getElem?_eq_some_iff.1 hcell).1
  have hne : ∀ k q, k ≠ l → σ k = some q → inj k ≠ blk := by
    intro k q hkl hk he
    rcases hb with hb | hb
    · exact hkl (h.uniq k l q _ hk hl (by rw [he, hb]))
    · have := h.lt k q hk; omega
  have hfr : Fr (owned σ inj) w w' := hw.mono (by rintro i rfl; exact ⟨l, _, hl, rfl⟩)
  have hc : ∀ s, cnt s ≤ (if [l.1].contains s then cnt s + 1 else cnt s) := by intro s; split <;> omega
  have hnew : ∀ k q, updL σ [(l, none), ((l.1, cnt l.1), some (.arr e sz zs))] k = some q → owned σ inj ((fun k => if k = (l.1, cnt l.1) then blk else inj k) k) ∨ w.heap.size ≤ (fun k => if k = (l.1, cnt l.1) then blk else inj k) k := by
    intro k q hq
    rcases hlook k q hq with ⟨rfl, rfl⟩ | ⟨hk1, hk2, hs⟩
    · simp only [if_true]
      rcases hb with hb | hb
      · exact .inl ⟨l, _, hl, hb.symm⟩
      · exact .inr (by omega)
    · simp only [hk1, if_false]; exact .inl ⟨k, q, hs, rfl⟩
  have hblock : ∀ k q, k ≠ l → σ k = some q → w'.heap[inj k]? = w.heap[inj k]? := fun k q hkl hk => hw.block _ (h.lt k q hk) (fun he => hkl (h.uniq k l q _ hk hl he))
  have le := next_le (B := B) (inj' := fun k => if k = (l.1, cnt l.1) then blk else inj k) (σ' := updL σ [(l, none), ((l.1, cnt l.1), some (.arr e sz zs))]) hfr hc hnew (by
    intro k q hklt hq
    rcases hlook k q hq with ⟨rfl, rfl⟩ | ⟨hk1, hk2, hs⟩
    · simp at hklt
    · refine ⟨q, hs, by simp [hk1], O.like_refl _, fun _ _ _ _ cells1 e1 hcell1 => ⟨cells1, ?_, rfl⟩⟩
      rw [hblock k q hk2 hs]; exact hcell1)
  refine ⟨_, h.next hfr hc hnew ?_ ?_ ?_ ?_, le, ?_⟩
  · intro k q hq
    rcases hlook k q hq with ⟨rfl, rfl⟩ | ⟨hk1, hk2, hs⟩
    · simpa using hblk
    · simp only [hk1, if_false]; exact Nat.lt_of_lt_of_le (h.lt k q hs) hw.size
  · intro a b o1 o2 h1 h2 he
    rcases hlook a o1 h1 with ⟨rfl, rfl⟩ | ⟨ha1, ha2, hs⟩ <;> rcases hlook b o2 h2 with ⟨rfl, rfl⟩ | ⟨hb1, hb2, hs'⟩
    · rfl
    · simp only [if_true, hb1, if_false] at he; exact absurd he.symm (hne b o2 hb2 hs')
    · simp only [if_true, ha1, if_false] at he; exact absurd he (hne a o1 ha2 hs)
    · simp only [ha1, hb1, if_false] at he; exact h.uniq a b o1 o2 hs hs' he
  · intro k q hq
    rcases hlook k q hq with ⟨rfl, rfl⟩ | ⟨hk1, hk2, hs⟩
    · simp
    · exact Nat.lt_of_lt_of_le (h.fresh k q hs) (hc _)
  · intro k q hq
    rcases hlook k q hq with ⟨rfl, rfl⟩ | ⟨hk1, hk2, hs⟩
    · simp only [if_true]
      exact ⟨h0, cells, c', hcell, hcs, hm, hmx, hrow.mono le.roro (fun _ _ hh => hh)⟩
    · simp only [hk1, if_false]; exact (h.obj k q hs).mono le (hblock k q hk2 hs)
  · refine .own ⟨by simp, blk, _, c', rfl, hm, fun e1 sz1 xs1 hx1 => ?_⟩
    have := hσ (l.1, cnt l.1)
    rw [if_pos rfl] at this
    rw [this] at hx1
    injection hx1 with hx1; injection hx1 with g1 g2 g3
    subst g1; subst g2; subst g3
    exact ⟨rfl, by simp, cells, by simpa using hcell, hcs⟩
theorem rekey (h : SR B w inj σ cnt) : Rekeyed B w inj σ cnt := by
  intro l e sz xs k b n c hl hk hn hb hnc hcells
  subst hn; subst hb
  obtain ⟨cells, hc1, hc2⟩ := hcells
  obtain ⟨h0, cells', c', g1, g2, g3, g4, g5⟩ := arr_parts h hl
  rw [hc1] at g1
  injection g1 with g1; injection g1 with g1 _ _
  subst g1
  have hcc : c = c' := Nat.eq_of_mul_eq_mul_right h0 (by rw [← hc2, ← g2])
  subst hcc
  have hlen : (xs.take k).length = k := by rw [List.length_take]; omega
  have := Stp.regrow (zs := xs.take k) h hl (Fr.refl _ w) (.inl rfl) h0 hc1 hc2 (by rw [hlen]; omega) g4 (g5.take k) [l]
  rw [hlen] at this
  exact this
theorem maxLen_big : (140737488355328 : Nat) ≤ maxLen := by decide
/-- append -/
theorem append_ok {S : St} (h : SR B w inj S.σ S.cnt) {site : Nat} {t ty : TypeId} {tys : Option TypeId} {s x : T} {us ux : Value} {d : Dl} (hs : Rep (sctx B w inj S.σ S.cnt) s us) (hx : Rep (sctx B w inj S.σ S.cnt) x ux) (hd : evAppend P S site t tys s x = some d) :
    ∃ t1, tys = some t1 ∧ ∃ v w', (Builtin.append_ #[t, t1] ty #[us, ux]).run P w = .ok v w' ∧ Stp B w inj S.σ S.cnt d v w' := by
  unfold evAppend at hd
  split at hd
  · rename_i e t1 het
    refine ⟨t1, rfl, ?_⟩
    split at hd
    · rename_i e1 sz by_ z he1 hsz hby hz
      split at hd
      · simp at hd
      · rename_i hnz
        have h0 : 0 < sz := by omega
        have hb0 : 0 < by_ := by omega
        have ht := elemOf_parts het
        split at hd
        · rename_i ys r hsrc
          split at hd
          · rename_i hok
            obtain ⟨A, cx, rfl, hrow⟩ := src_ok h hx hsrc
            obtain ⟨zv, hzr, rfl, hzp, hzs, _⟩ := run_zero hz w
            have hzi : ∃ i, P.info? e = some i ∧ i.zero = some zv ∧ i.size = sz ∧ i.bytes = by_ := by
              unfold szOf at hsz; unfold bytesOf at hby
              cases hi : P.info? e with
              | none => rw [hi] at hsz; simp at hsz
              | some i =>
                rw [hi] at hsz hby
                simp only [Option.map_some, Option.some.injEq] at hsz hby
                refine ⟨i, rfl, ?_, hsz, hby⟩
                cases hz0 : i.zero with
                | none => simp [zeroValue, run_info hi, hz0] at hzr
                | some z' => simp [zeroValue, run_info hi, hz0] at hzr; rw [hzr]
            obtain ⟨i, hi, hz0, his, hib⟩ := hzi
            have hzsz : zv.cells.size = sz := by rw [hsz] at hzs; injection hzs with hzs; exact hzs.symm
            -- the elements' cells
            have news : ys ≠ [] → ∃ (ad : Addr) (nw : List Value), A = some ad ∧ nw.length = ys.length * sz ∧ (∀ j u, nw[j]? = some u → w.cell? (ad.add j) = some u) ∧ (∀ u ∈ nw, u.oneCell' = true) ∧ RowOf (sctx B w inj S.σ S.cnt).ro sz ys (fun i => nw[i]?) := by
              intro hne
              rcases hrow with hrow | ⟨ad, rfl, hsp, hrow⟩
              · exact absurd hrow hne
              · have hall := row_all (Ctx.ro_good _) h0 hrow hok
                refine ⟨ad, (List.range (ys.length * sz)).map (fun k => (w.cell? ⟨ad.block, ad.off + k, none⟩).getD undef), rfl, by simp, ?_, ?_, ?_⟩
                · intro j u hj
                  rw [List.getElem?_map] at hj
                  cases hr : (List.range (ys.length * sz))[j]? with
                  | none => rw [hr] at hj; simp at hj
                  | some k =>
                    rw [hr] at hj
                    have hk := List.getElem?_eq_some_iff.1 hr
                    obtain ⟨hk1, hk2⟩ := hk
                    simp at hk1 hk2
                    subst hk2
                    obtain ⟨v, hv, _⟩ := hall j hk1
                    simp only [Option.map_some, hv, Option.getD_some, Option.some.injEq] at hj
                    rw [add_at hsp, hv, hj]
                · intro u hu
                  obtain ⟨k, hk, rfl⟩ := List.mem_map.1 hu
                  obtain ⟨v, hv, h1⟩ := hall k (List.mem_range.1 hk)
                  simp only [hv, Option.getD_some]
                  exact h1
                · obtain ⟨us', a1, a2, a3⟩ := hrow
                  refine ⟨us', a1, a2, fun j i u cv hu hc => ?_⟩
                  have hj : j < us'.length := (List.getElem?_eq_some_iff.1 hu).1
                  have hil : i < sz := by rw [← a2 u (List.mem_of_getElem? hu)]; exact (Array.getElem?_eq_some_iff.1 hc).1
                  have hlt : j * sz + i < ys.length * sz := by
                    have := Nat.mul_le_mul_right sz (show j + 1 ≤ ys.length by rw [a1.1]; omega)
                    rw [Nat.add_mul] at this
                    omega
                  have := a3 j i u cv hu hc
                  simp only [List.getElem?_map, List.getElem?_range hlt, Option.map_some]
                  simp only at this
                  rw [this]
                  rfl
            split at hd
            · obtain rfl := rep_s hs
              split at hd
              · rename_i hbytes
                split at hd
                · injection hd with hd; subst hd
                  exact ⟨_, w, (append_types ht (elemOf_parts he1) _ _ _ _ _ _ w).trans (append_none ht hsz _ _ _ _ _ (Nat.le_refl _) w), Stp.pure h hs _⟩
                · rename_i hne
                  injection hd with hd; subst hd
                  have hyl : ys ≠ [] := fun he => hne he
                  obtain ⟨ad, nw, rfl, hnl, hnc, hn1, hnrow⟩ := news hyl
                  have hpos : 0 < ys.length := List.length_pos_iff.2 hyl
                  have hle : ys.length ≤ maxLen := by
                    have := Nat.le_mul_of_pos_right ys.length hb0
                    have := maxLen_big
                    omega
                  obtain ⟨v', w', hrun, hown, hgr, hnil, hblk⟩ := run_append_own_at (P := P) w 0 t ty e i zv sz by_ ht hi hz0 his hib hzsz h0 (.slice none 0 0) 0 [] (World.ownsRow_nil w 0 e sz) ad ys.length cx nw hnl hnc hn1 (by omega) (by simpa using hbytes) (Nat.zero_le _)
                  rcases hown.2 with ⟨rfl, hn0⟩ | ⟨g, cap, cur, rfl, _, hg, hnc', hcm, hcs, htk⟩
                  · omega
                  · have hgb : g = w.heap.size := by simpa [Value.ownBlock] using hblk
                    subst hgb
                    simp only [Nat.zero_add, List.nil_append] at hrun hnc' htk hg ⊢
                    refine ⟨_, w', (append_types ht (elemOf_parts he1) _ _ _ _ _ _ w).trans hrun, Stp.newAt h site _ _ _ _ _ ⟨hgr.os, hgr.tape, hgr.output, hgr.size, fun k hk _ => hgr.block k hk (by simp [Value.ownBlock])⟩ hg ?_ ?_⟩
                    · intro C le hb
                      refine ⟨h0, cur, cap, hb, hcs, hnc', hcm, hnrow.mono le.roro (fun i v hv => ?_)⟩
                      rw [← htk, List.getElem?_take] at hv
                      split at hv
                      · simpa using hv
                      · simp at hv
                    · intro inj' σ' cnt' h1 h2 h3
                      refine .own ⟨h3, _, _, cap, rfl, hnc', fun e1 sz1 xs1 hx1 => ?_⟩
                      rw [h2] at hx1
                      injection hx1 with hx1; injection hx1 with g1 g2 g3
                      subst g1; subst g2; subst g3
                      exact ⟨rfl, h1.symm, cur, by rw [h1]; exact hg, hcs⟩
              · simp at hd
            · rename_i l
              split at hd
              · rename_i e' sz' xs hl
                split at hd
                · rename_i hcnd
                  obtain ⟨rfl, rfl, hbytes⟩ := hcnd
                  injection hd with hd; subst hd
                  cases hs
                  rename_i hp
                  obtain ⟨hp1, b, n, c, rfl, hnc, hb⟩ := hp
                  obtain ⟨hn0', rfl, cells, hc1, hc2⟩ := hb _ _ _ hl
                  have hnx : n ≤ xs.length := by omega
                  rw [← hn0'] at hbytes
                  rw [show xs ++ ys = xs.take n ++ ys by rw [hn0', List.take_length]]
                  obtain ⟨_, cells', cap, g1, g2, g3, g4, g5⟩ := arr_parts h hl
                  rw [hc1] at g1
                  injection g1 with g1; injection g1 with g1 _ _
                  subst g1
                  have hcc : c = cap := Nat.eq_of_mul_eq_mul_right h0 (by rw [← hc2, ← g2])
                  subst hcc
                  have hxl : (xs.take n).length = n := by rw [List.length_take]; omega
                  have hlen : (xs.take n ++ ys).length = n + ys.length := by simp [hxl]
                  by_cases hyl : ys = []
                  · subst hyl
                    refine ⟨_, w, (append_types ht (elemOf_parts he1) _ _ _ _ _ _ w).trans (append_none ht hsz _ _ _ _ _ hnc w), ?_⟩
                    have := Stp.regrow (zs := xs.take n ++ []) h hl (Fr.refl _ w) (.inl rfl) h0 hc1 hc2 (by rw [hlen]; simpa using hnc) g4 ((by simpa using (g5.take n))) (l :: r)
                    rw [hlen] at this
                    exact this
                  · obtain ⟨ad, nw, rfl, hnl, hnw, hn1, hnrow⟩ := news hyl
                    have hle : n + ys.length ≤ maxLen := by
                      have := Nat.le_mul_of_pos_right (n + ys.length) hb0
                      have := maxLen_big
                      omega
                    have hown0 : w.ownsRow 0 e' sz' (.slice (some ⟨inj l, 0, none⟩) n c) n (cells.toList.take (n * sz')) := by
                      refine ⟨?_, .inr ⟨inj l, c, cells, rfl, Nat.zero_le _, hc1, hnc, g4, hc2, rfl⟩⟩
                      rw [List.length_take, Array.length_toList, hc2]
                      exact Nat.min_eq_left (Nat.mul_le_mul_right _ hnc)
                    obtain ⟨v', w', hrun, hown, hgr, hnil, hblk⟩ := run_append_own_at (P := P) w 0 t ty e' i zv sz' by_ ht hi hz0 his hib hzsz h0 _ n _ hown0 ad ys.length cx nw hnl hnw hn1 hle hbytes (Nat.zero_le _)
                    refine ⟨v', w', (append_types ht (elemOf_parts he1) _ _ _ _ _ _ w).trans hrun, ?_⟩
                    rcases hown.2 with ⟨rfl, hn0⟩ | ⟨g, cap, cur, rfl, _, hg, hnc', hcm, hcs, htk⟩
                    · exact absurd (hnil.1 rfl).1 (by simp)
                    · have := Stp.regrow (zs := xs.take n ++ ys) h hl (w' := w') (blk := g) (c' := cap) (cells := cur) ⟨hgr.os, hgr.tape, hgr.output, hgr.size, fun k hk hne => hgr.block k hk (by simpa [Value.ownBlock] using hne)⟩
                        (by simpa [Value.ownBlock] using hblk) h0 hg hcs (by rw [hlen]; exact hnc') hcm ?_ (l :: r)
                      · rw [hlen] at this
                        exact this
                      · have hk : ∀ k, k < (n + ys.length) * sz' → cur[k]? = (cells.toList.take (n * sz') ++ nw)[k]? := by
                          intro k hk
                          rw [← htk, List.getElem?_take, if_pos hk, Array.getElem?_toList]
                        have hcl : (cells.toList.take (n * sz')).length = n * sz' := hown0.1
                        refine row_append (g5.take n) hxl hnrow (fun k hk' => ?_) (fun k => ?_)
                        · have : k < (n + ys.length) * sz' := by rw [Nat.add_mul]; omega
                          show cur[k]? = cells[k]?
                          rw [hk k this, List.getElem?_append_left (by rw [hcl]; exact hk'), List.getElem?_take, if_pos hk', Array.getElem?_toList]
                        · by_cases hkl : k < ys.length * sz'
                          · left
                            show cur[n * sz' + k]? = nw[k]?
                            rw [hk _ (by rw [Nat.add_mul]; omega), List.getElem?_append_right (by rw [hcl]; omega), hcl, Nat.add_sub_cancel_left]
                          · right; omega
                · simp at hd
              · simp at hd
            · simp at hd
          · simp at hd
        · simp at hd
    · simp at hd
  · simp at hd
end
end Go.Proofs.YthcaodlfnlhfbaaDoorT
