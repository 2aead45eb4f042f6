/- The interpreter over trees: each operation that reads, computes or makes one thing does in the model what the tree says. -/
import Derived.Test.YthcaodlfnlhfbaaDoorT3
import Derived.Laws.Cells
import Derived.Laws.CopyRow
import Derived.Maps.AppendAt
namespace Go.Proofs.YthcaodlfnlhfbaaDoorT
open Go Go.RowKit
set_option linter.unusedVariables false

section
variable {P : Program}
theorem run_und {t : TypeId} {d : TypeDesc} (h : P.underlying t = some d) (w : World) : (underlying t).run P w = .ok d w := by simp [underlying, h]
theorem run_agg {t : TypeId} {b : Bool} (h : aggOf P t = some b) (w : World) : (isAgg t).run P w = .ok b w := by
  unfold aggOf at h
  unfold isAgg
  cases hu : P.underlying t with
  | none => rw [hu] at h; simp at h
  | some d =>
    rw [Sem.run_bind, run_und hu, Result.andThen_ok]
    rw [hu] at h
    cases d <;> simp at h <;> subst h <;> rfl
theorem run_sz {t : TypeId} {n : Nat} (h : szOf P t = some n) (w : World) : (sizeOf t).run P w = .ok n w := by
  unfold szOf at h
  cases hi : P.info? t with
  | none => rw [hi] at h; simp at h
  | some i => rw [hi] at h; simp at h; simp [sizeOf, typeInfo, hi, h]
theorem run_info {t : TypeId} {i : TypeInfo} (h : P.info? t = some i) (w : World) : (typeInfo t).run P w = .ok i w := by simp [typeInfo, h]

theorem add_at {ad : Addr} (h : ad.spot = none) (n : Nat) : ad.add n = ⟨ad.block, ad.off + n, none⟩ := by
  unfold Addr.add
  split
  · rename_i e; subst e; cases ad; simp at h; simp [h]
  · rfl
/-- A variable of a type, out of cells. -/
theorem run_loadV {C : Ctx} {t : TypeId} {cs : List T} {us : List Value} {x : T} {ad : Addr} (hr : RepA C cs us) (h1 : ∀ u ∈ us, one u) (hsp : ad.spot = none)
    (hc : ∀ (i : Nat) (cv : Value), us[i]? = some cv → C.w.cell? ⟨ad.block, ad.off + i, none⟩ = some cv) (hx : ofCells P t cs = some x) :
    ∃ v, (loadVar t ad).run P C.w = .ok v C.w ∧ Rep C x v := by
  unfold ofCells at hx
  split at hx
  · rename_i n ha hs
    split at hx
    · rename_i hn
      injection hx with hx; subst hx
      have hl : (us.take n).length = n := by rw [List.length_take, ← hr.1]; omega
      refine ⟨.agg (us.take n).toArray, ?_, .agg (by rw [List.length_take, List.length_take, hr.1]) ((hr.take n).2) (fun u hu => h1 u (List.mem_of_mem_take hu))⟩
      have hload := run_loadCells_list (P := P) C.w ad (us.take n) (fun j v hj => by
        rw [add_at hsp]
        rw [List.getElem?_take] at hj
        split at hj
        · exact hc j v hj
        · simp at hj)
      rw [hl] at hload
      simp [loadVar, run_agg ha, run_sz hs, hload]
    · simp at hx
  · rename_i n ha hs
    split at hx
    · rename_i hn
      cases cs with
      | nil => simp at hx
      | cons y r =>
        simp at hx; subst hx
        obtain ⟨u, hu, hru⟩ := hr.get (j := 0) (x := y) rfl
        have hcell : C.w.cell? ad = some u := by
          have := hc 0 u hu
          rw [Nat.add_zero] at this
          rw [← this]; congr 1; cases ad; simp at hsp; simp [hsp]
        exact ⟨u, by simp [loadVar, run_agg ha, hcell], hru⟩
    · simp at hx
  · simp at hx
/-- What a type's value is, out of cells of the frame's own. -/
theorem run_part {C : Ctx} {t : TypeId} {cs : List T} {us : List Value} {x : T} (off : Nat) (hr : RepA C cs us) (h1 : ∀ u ∈ us, one u) (w : World) (hx : ofCells P t (cs.drop off) = some x) :
    ∃ v, (part t us.toArray off).run P w = .ok v w ∧ Rep C x v := by
  unfold ofCells at hx
  split at hx
  · rename_i n ha hs
    split at hx
    · rename_i hn
      injection hx with hx; subst hx
      refine ⟨.agg ((us.drop off).take n).toArray, ?_, .agg (by simp [hr.1]) (((hr.drop off).take n).2) (fun u hu => h1 u (List.mem_of_mem_drop (List.mem_of_mem_take hu)))⟩
      have he : us.toArray.extract off (off + n) = ((us.drop off).take n).toArray := by
        apply Array.ext'
        simp [List.take_drop, Nat.add_comm]
      simp only [part, Sem.run_bind, run_agg ha, Result.andThen_ok, if_true, run_sz hs, he, Sem.run_pure]
    · simp at hx
  · rename_i n ha hs
    split at hx
    · rename_i hn
      cases hd : cs.drop off with
      | nil => rw [hd] at hx; simp at hx
      | cons y r =>
        rw [hd] at hx
        simp at hx; subst hx
        have hy : cs[off]? = some y := by
          have := congrArg List.head? hd
          rw [List.head?_drop] at this
          simpa using this
        obtain ⟨u, hu, hru⟩ := hr.get hy
        refine ⟨u, ?_, hru⟩
        simp only [part, Sem.run_bind, run_agg ha, Result.andThen_ok]
        simp [hu]
    · simp at hx
  · simp at hx
theorem fieldOf_parts {t : TypeId} {i o n : Nat} {ft : TypeId} (h : fieldOf P t i = some (o, n, ft)) : ∃ fs f, P.underlying t = some (.struct fs) ∧ fs[i]? = some f ∧ f.offset = o ∧ f.type = ft ∧ szOf P ft = some n ∧ n ≠ 0 := by
  unfold fieldOf at h
  split at h
  · rename_i fs hu
    split at h
    · rename_i f hf
      split at h
      · rename_i m hs
        split at h
        · simp at h
        · rename_i hm
          simp at h
          obtain ⟨rfl, rfl, rfl⟩ := h
          exact ⟨fs, f, hu, hf, rfl, rfl, hs, hm⟩
      · simp at h
    · simp at h
  · simp at h
theorem run_field_at {t : TypeId} {i o n : Nat} {ft : TypeId} (h : fieldOf P t i = some (o, n, ft)) (ad : Addr) (hsp : ad.spot = none) (w : World) : (Instr.fieldAt t (.pointer (some ad)) i).run P w = .ok (.pointer (some ⟨ad.block, ad.off + o, none⟩)) w := by
  obtain ⟨fs, f, hu, hf, rfl, rfl, hs, hn⟩ := fieldOf_parts h
  simp [Instr.fieldAt, run_und hu, hf, Instr.sureAddr, fieldPlace, run_sz hs, hn, add_at hsp]
end

section
variable {P : Program} {B : Base} {w : World} {inj : Loc → Nat} {σ : Loc → Option O} {cnt : Nat → Nat}
theorem box_parts (h : SR B w inj σ cnt) {l : Loc} {ty : TypeId} {cs : List T} (hl : σ l = some (.box ty cs)) : ∃ us : List Value, w.heap[inj l]? = some (.cells us.toArray ty (0, 0)) ∧ RepA (sctx B w inj σ cnt) cs us ∧ ∀ u ∈ us, one u := h.obj l _ hl
theorem box_cell {b : Nat} {us : List Value} {ty : TypeId} (h : w.heap[b]? = some (.cells us.toArray ty (0, 0))) (off : Nat) : ∀ (i : Nat) (cv : Value), (us.drop off)[i]? = some cv → w.cell? ⟨b, off + i, none⟩ = some cv := by
  intro i cv hi
  rw [List.getElem?_drop] at hi
  simp [World.cell?, h, hi]
/-- load -/
theorem load_rep {S : St} (h : SR B w inj S.σ S.cnt) {t : TypeId} {x : T} {u : Value} {d : Dl} (hx : Rep (sctx B w inj S.σ S.cnt) x u) (hd : evLoad P S t x = some d) :
    ∃ v A, u = .pointer (some A) ∧ (loadVar t A).run P w = .ok v w ∧ Rep (sctx B w inj S.σ S.cnt) d.v v ∧ ∃ rd, d = ⟨d.v, [], [], rd⟩ := by
  unfold evLoad at hd
  split at hd
  · rename_i l off
    split at hd
    · rename_i ty cs hl
      split at hd
      · rename_i y hy
        injection hd with hd; subst hd
        cases hx with
        | ptr hp =>
          obtain ⟨_, b, rfl, hbi⟩ := hp
          obtain rfl := hbi ty cs hl
          obtain ⟨us, hb, hr, h1⟩ := box_parts h hl
          obtain ⟨v, hv, hrv⟩ := run_loadV (P := P) (t := t) (ad := ⟨inj l, off, none⟩) (hr.drop off) (fun u hu => h1 u (List.mem_of_mem_drop hu)) rfl (box_cell hb off) hy
          exact ⟨v, _, rfl, hv, hrv, _, rfl⟩
      · simp at hd
    · simp at hd
  · rename_i cs
    split at hd
    · rename_i y hy
      unfold pv at hd
      injection hd with hd; subst hd
      cases hx with
      | ep hl hr h1 hsp hok hm =>
        obtain ⟨v, hv, hrv⟩ := run_loadV (P := P) (C := (sctx B w inj S.σ S.cnt).ro) (t := t) ⟨hl, hr⟩ h1 hsp hm hy
        exact ⟨v, _, rfl, hv, hrv.of_ro, _, rfl⟩
    · simp at hd
  · rename_i l sz i off
    split at hd
    · rename_i e sz' xs hl
      split at hd
      · rename_i y hy
        split at hd
        · rename_i hk
          split at hd
          · rename_i z hz
            injection hd with hd; subst hd
            cases hx
            rename_i hp
            simp only [Bool.and_eq_true, decide_eq_true_eq] at hk
            obtain ⟨hk, rfl⟩ := hk
            obtain ⟨_, b, rfl, hbi⟩ := hp
            obtain rfl := hbi _ _ _ hl
            obtain ⟨h0, cells, c, hb, hcs, hlc, hcm, hrow⟩ := h.obj l _ hl
            obtain ⟨u, hru, hus, huc⟩ := hrow.get hy
            obtain ⟨hra, h1⟩ := hru.cells (Ctx.ro_good _) hk
            obtain ⟨v, hv, hrv⟩ := run_loadV (P := P) (C := (sctx B w inj S.σ S.cnt).ro) (t := t) (ad := ⟨inj l, i * sz' + off, none⟩) (hra.drop off) (fun u hu => h1 u (List.mem_of_mem_drop hu)) rfl (fun i' cv hc => by
              rw [List.getElem?_drop, Array.getElem?_toList] at hc
              have := huc _ _ hc
              have hb' : w.heap[inj l]? = some (.cells cells e (0, 0)) := hb
              show w.cell? _ = _
              simp [World.cell?, hb', Nat.add_assoc, this]) hz
            exact ⟨v, _, rfl, hv, hrv.of_ro, _, rfl⟩
          · simp at hd
        · simp at hd
      · simp at hd
    · simp at hd
  · simp at hd
theorem load_ok {S : St} (h : SR B w inj S.σ S.cnt) {t : TypeId} {x : T} {u : Value} {d : Dl} (hx : Rep (sctx B w inj S.σ S.cnt) x u) (hd : evLoad P S t x = some d) :
    ∃ v, (Instr.loadAt t u).run P w = .ok v w ∧ Stp B w inj S.σ S.cnt d v w := by
  obtain ⟨v, A, rfl, hv, hrv, rd, he⟩ := load_rep h hx hd
  rw [he]
  exact ⟨v, by simp [Instr.loadAt, Instr.sureAddr, hv], Stp.pure h hrv _⟩
end

section
variable {P : Program} {B : Base} {w : World} {inj : Loc → Nat} {σ : Loc → Option O} {cnt : Nat → Nat}
/-- fieldAddr -/
theorem fieldAddr_ok {t : TypeId} {i : Nat} {x y : T} {u : Value} (hx : Rep (sctx B w inj σ cnt) x u) (hd : evFieldAddr P t i x = some y) :
    ∃ v, (Instr.fieldAt t u i).run P w = .ok v w ∧ Rep (sctx B w inj σ cnt) y v := by
  unfold evFieldAddr at hd
  split at hd
  · rename_i o n ft hf
    split at hd
    · injection hd with hd; subst hd
      cases hx
      rename_i hp
      obtain ⟨h1, b, rfl, hb⟩ := hp
      exact ⟨_, run_field_at hf _ rfl w, .ptr ⟨h1, b, rfl, hb⟩⟩
    · injection hd with hd; subst hd
      obtain ⟨us, ad, rfl, hl, hr, h1, hsp, hok, hm⟩ := hx.ep_parts
      have hra := RepA.drop (C := (sctx B w inj σ cnt).ro) ⟨hl, hr⟩ o
      refine ⟨_, run_field_at hf _ hsp w, .ep (us := us.drop o) hra.1 hra.2 (fun u hu => h1 u (List.mem_of_mem_drop hu)) rfl hok (fun k cv hk => ?_)⟩
      rw [List.getElem?_drop] at hk
      have := hm _ _ hk
      rw [← Nat.add_assoc] at this
      exact this
    · injection hd with hd; subst hd
      cases hx
      rename_i hp
      obtain ⟨h1, b, rfl, hb⟩ := hp
      exact ⟨_, run_field_at hf _ rfl w, .eptr ⟨h1, b, by simp only [Nat.add_assoc], hb⟩⟩
    · simp at hd
  · simp at hd
/-- field -/
theorem field_ok {C : Ctx} {t : TypeId} {i : Nat} {x y : T} {u : Value} (hx : Rep C x u) (hd : evField P t i x = some y) (w : World) :
    ∃ v, (Instr.field t u i).run P w = .ok v w ∧ Rep C y v := by
  unfold evField at hd
  split at hd
  · rename_i o n ft hf
    split at hd
    · rename_i cs
      obtain ⟨vs, rfl, hl, h, h1⟩ := hx.agg_parts
      obtain ⟨fs, f, hu, hfi, rfl, rfl, hs, hn⟩ := fieldOf_parts hf
      obtain ⟨v, hv, hr⟩ := run_part (P := P) f.offset ⟨hl, h⟩ h1 w hd
      exact ⟨v, by simp [Instr.field, run_und hu, hfi, asAgg, hv], hr⟩
    · simp at hd
  · simp at hd
theorem run_asInt (k : IntKind) (n : Int) (w : World) : (asIntOf (.int k n)).run P w = .ok (k, n) w := rfl
theorem rep_s {C : Ctx} {v u : Value} (h : Rep C (.s v) u) : u = v := by cases h; rfl
theorem elem_und {t e : TypeId} (h : elemOf P t = some e) : P.underlying t = some (.slice e) := by
  unfold elemOf at h
  split at h
  · injection h with h; subst h; assumption
  · simp at h
/-- indexAddr -/
theorem indexAddr_ok {S : St} (h : SR B w inj S.σ S.cnt) {t : TypeId} {x i : T} {d : Dl} {u ui : Value} (hx : Rep (sctx B w inj S.σ S.cnt) x u) (hi : Rep (sctx B w inj S.σ S.cnt) i ui) (hd : evIndexAddr P S t x i = some d) :
    ∃ v, (Instr.indexAt t u ui).run P w = .ok v w ∧ Stp B w inj S.σ S.cnt d v w := by
  unfold evIndexAddr at hd
  split at hd
  · rename_i e k n he
    obtain rfl := rep_s hi
    have hu := elem_und he
    split at hd
    · rename_i sz hs
      split at hd
      · rename_i sz' xs
        split at hd
        · rename_i hsz
          split at hd
          · rename_i hn
            split at hd
            · rename_i z hz
              split at hd
              · rename_i hk
                unfold pv at hd
                injection hd with hd; subst hd
                obtain ⟨A, c, rfl, hlc, hm⟩ := hx.sl_row
                have hne : xs ≠ [] := by rintro rfl; simp at hz
                have hszz : sz' = sz := by
                  simp only [szok, Bool.or_eq_true, decide_eq_true_eq] at hsz
                  rcases hsz with h | h
                  · exact h
                  · exact absurd (List.isEmpty_iff.1 h) hne
                subst hszz
                rcases hm with hm | ⟨ad, rfl, hsp, hok, hrow⟩
                · exact absurd hm hne
                obtain ⟨uz, hru, hus, huc⟩ := hrow.get hz
                obtain ⟨hra, h1⟩ := hru.cells (Ctx.ro_good _) hk
                refine ⟨.pointer (some ⟨ad.block, ad.off + n.toNat * sz', none⟩), ?_, Stp.pure h (x := .ep z.cells) ?_ []⟩
                · have h2 : (0 ≤ n ∧ n < (xs.length : Int)) := hn
                  simp [Instr.indexAt, run_asInt, run_und hu, run_sz hs, h2, add_at hsp]
                · refine .ep (us := uz.cells.toList) hra.1 hra.2 h1 rfl hok (fun k' cv hk' => ?_)
                  rw [Array.getElem?_toList] at hk'
                  have := huc _ _ hk'
                  simpa [Nat.add_assoc] using this
              · simp at hd
            · simp at hd
          · simp at hd
        · simp at hd
      · rename_i l
        split at hd
        · rename_i e2 sz2 xs hl2
          split at hd
          · rename_i hn
            injection hd with hd; subst hd
            cases hx
            rename_i hp
            obtain ⟨h1, b, m, c, rfl, hnc, hb⟩ := hp
            obtain rfl := (hb _ _ _ hl2).1
            refine ⟨.pointer (some ⟨b, n.toNat * sz, none⟩), ?_, Stp.pure h (x := .eptr l sz n.toNat 0) (.eptr ⟨h1, b, by simp, fun e' sz'' xs' hl => ?_⟩) _⟩
            · simp [Instr.indexAt, run_asInt, run_und hu, run_sz hs, hn, add_at]
            · exact (hb _ _ _ hl).2.1
          · simp at hd
        · simp at hd
      · simp at hd
    · simp at hd
  · simp at hd
end
end Go.Proofs.YthcaodlfnlhfbaaDoorT
