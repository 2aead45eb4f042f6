/- The interpreter over trees: operators of two. -/
import Derived.Test.YthcaodlfnlhfbaaDoorT5
import Derived.Laws.StructEq
namespace Go.Proofs.YthcaodlfnlhfbaaDoorT
open Go Go.RowKit
set_option linter.unusedVariables false

section
variable {P : Program} {C : Ctx}
theorem repA_one {C : Ctx} {x : T} {us : List Value} (h : RepA C [x] us) : ∃ u, us = [u] ∧ Rep C x u := by
  have hl := h.1
  match us, hl with
  | [u], _ => exact ⟨u, rfl, h.head⟩
/-- What '==' on a type asks: cells of a struct, or the one cell. -/
def EqRuns (P : Program) (D : Nat) (t : TypeId) (us vs : List Value) (b : Bool) (w : World) : Prop :=
  (aggOf P t = some true ∧ (Op.equalIn D t (.agg us.toArray) (.agg vs.toArray)).run P w = .ok b w) ∨
  (aggOf P t = some false ∧ ∃ u v, us = [u] ∧ vs = [v] ∧ (Op.equalIn D t u v).run P w = .ok b w)
theorem eqT_ok : ∀ (d : Nat) (t : TypeId) (xs ys : List T) (b : Bool) (us vs : List Value), eqT P d t xs ys = some b → RepA C xs us → RepA C ys vs → ∀ D, d ≤ D → ∀ w, EqRuns P D t us vs b w
  | 0, _, _, _, _, _, _, h, _, _, _, _, _ => by simp [eqT] at h
  | d + 1, t, xs, ys, b, us, vs, h, hx, hy, D, hD, w => by
    obtain ⟨D, rfl⟩ : ∃ m, D = m + 1 := ⟨D - 1, by omega⟩
    simp only [eqT] at h
    split at h
    · rename_i hu
      split at h
      · obtain ⟨u, rfl, hru⟩ := repA_one hx
        obtain ⟨v, rfl, hrv⟩ := repA_one hy
        obtain rfl := rep_s hru
        obtain rfl := rep_s hrv
        injection h with h; subst h
        exact .inr ⟨by simp [aggOf, hu], _, _, rfl, rfl, run_equalIn_bool' w D t _ _ hu⟩
      · simp at h
    · rename_i k hu
      split at h
      · split at h
        · rename_i hk
          subst hk
          obtain ⟨u, rfl, hru⟩ := repA_one hx
          obtain ⟨v, rfl, hrv⟩ := repA_one hy
          obtain rfl := rep_s hru
          obtain rfl := rep_s hrv
          injection h with h; subst h
          exact .inr ⟨by simp [aggOf, hu], _, _, rfl, rfl, run_equalIn_int w D t _ k _ _ hu⟩
        · simp at h
      · simp at h
    · rename_i hu
      split at h
      · obtain ⟨u, rfl, hru⟩ := repA_one hx
        obtain ⟨v, rfl, hrv⟩ := repA_one hy
        obtain rfl := rep_s hru
        obtain rfl := rep_s hrv
        injection h with h; subst h
        exact .inr ⟨by simp [aggOf, hu], _, _, rfl, rfl, by rw [run_equalIn_string w D t _ _ hu, toList_eq]⟩
      · simp at h
    · rename_i fs hu
      split at h
      · simp at h
      · rename_i hst
        refine .inl ⟨by simp [aggOf, hu], ?_⟩
        have hfo : P.fieldsOf t = fs := by simp [Program.fieldsOf, hu]
        rw [run_equalIn_struct w D t _ _ (by rw [hfo]; exact hu) (by simpa using hst), hfo]
        generalize fs.toList = fl at h
        clear hu hfo
        induction fl generalizing b with
        | nil => simp at h; subst h; rfl
        | cons f r ih =>
          simp only [List.foldr_cons] at h
          split at h
          · rename_i n hn
            split at h
            · simp at h
            · rename_i hname
              split at h
              · rename_i a c ha hc
                injection h with h; subst h
                have hih := ih c hc
                have hq := eqT_ok d f.type _ _ a _ _ ha ((hx.drop f.offset).take n) ((hy.drop f.offset).take n) D (by omega) w
                have key : ∃ pa pb, (part f.type us.toArray f.offset).run P w = .ok pa w ∧ (part f.type vs.toArray f.offset).run P w = .ok pb w ∧ (Op.equalIn D f.type pa pb).run P w = .ok a w := by
                  rcases hq with ⟨hag, he⟩ | ⟨hag, u, v, hu', hv', he⟩
                  · have e1 : us.toArray.extract f.offset (f.offset + n) = ((us.drop f.offset).take n).toArray := by apply Array.ext'; simp [List.take_drop, Nat.add_comm]
                    have e2 : vs.toArray.extract f.offset (f.offset + n) = ((vs.drop f.offset).take n).toArray := by apply Array.ext'; simp [List.take_drop, Nat.add_comm]
                    refine ⟨_, _, ?_, ?_, he⟩
                    · simp only [part, Sem.run_bind, run_agg hag, Result.andThen_ok, if_true, run_sz hn, e1, Sem.run_pure]
                    · simp only [part, Sem.run_bind, run_agg hag, Result.andThen_ok, if_true, run_sz hn, e2, Sem.run_pure]
                  · have g : ∀ (l : List Value) (u : Value), (l.drop f.offset).take n = [u] → l[f.offset]? = some u := by
                      intro l u h
                      have h0 : ((l.drop f.offset).take n)[0]? = some u := by rw [h]; rfl
                      rw [List.getElem?_take] at h0
                      split at h0
                      · rw [List.getElem?_drop] at h0; simpa using h0
                      · simp at h0
                    refine ⟨u, v, ?_, ?_, he⟩
                    · simp only [part, Sem.run_bind, run_agg hag, Result.andThen_ok]
                      simp [g us u hu']
                    · simp only [part, Sem.run_bind, run_agg hag, Result.andThen_ok]
                      simp [g vs v hv']
                obtain ⟨pa, pb, k1, k2, k3⟩ := key
                simp only [Op.eqFields, ne_eq, hname, not_false_eq_true, if_true, Sem.run_bind, k1, k2, k3, Result.andThen_ok]
                cases a
                · simp
                · simpa using hih
              · simp at h
          · simp at h
    · simp at h

/-- The whole operation: the look at two nils ahead of '=='. -/
def binRun (P : Program) (op : BinOp) (t : TypeId) (x y : Operand) (a b : Value) (w : World) : Result Value := ((eqGuard op t x y a b).run P w).andThen fun _ w' => (binOp op t a b).run P w'
theorem guard_pass {op : BinOp} {t : TypeId} {x y : Operand} {a b : Value} (h1 : ¬ (a = .nilIface ∧ b = .nilIface)) (h2 : ¬ ((∃ xs, a = .agg xs) ∧ ∃ ys, b = .agg ys)) (w : World) : (eqGuard op t x y a b).run P w = .ok () w := by
  unfold eqGuard
  cases op <;> first
    | rfl
    | (simp only [Bool.not_true, Bool.false_eq_true, if_false]
       split <;> first
        | exact absurd ⟨rfl, rfl⟩ h1
        | exact absurd ⟨⟨_, rfl⟩, ⟨_, rfl⟩⟩ h2
        | rfl)
theorem guard_const {op : BinOp} {t : TypeId} {x y : Operand} (h : (constB x || constB y) = true) (w : World) : (eqGuard op t x y .nilIface .nilIface).run P w = .ok () w := by
  cases x <;> cases y <;> first
    | (simp [constB] at h; done)
    | (unfold eqGuard; cases op <;> rfl)
theorem eqOp_run {op : BinOp} {b : Bool} {y : T} (h : eqOp op b = some y) {t : TypeId} {u v : Value} {w : World} (hnn : ∀ k n, u ≠ .int k n) (hns : ∀ s, u ≠ .string s) (hnf : ∀ k n, u ≠ .float k n) (hnc : ∀ k a c, u ≠ .complex k a c) (he : (Op.equal t u v).run P w = .ok b w) :
    ∃ r, (binOp op t u v).run P w = .ok r w ∧ Rep C y r := by
  cases op <;> simp [eqOp] at h
  · subst h
    refine ⟨.bool b, ?_, rep_b b⟩
    cases u <;> first | exact absurd rfl (hnn _ _) | exact absurd rfl (hns _) | exact absurd rfl (hnf _ _) | exact absurd rfl (hnc _ _ _) | (simp only [binOp, Sem.run_bind, he, Result.andThen_ok, Sem.run_pure])
  · subst h
    refine ⟨.bool (!b), ?_, rep_b _⟩
    cases u <;> first | exact absurd rfl (hnn _ _) | exact absurd rfl (hns _) | exact absurd rfl (hnf _ _) | exact absurd rfl (hnc _ _ _) | (simp only [binOp, Sem.run_bind, he, Result.andThen_ok, Sem.run_pure])
end
section
variable {P : Program} {B : Base} {w : World} {inj : Loc → Nat} {σ : Loc → Option O} {cnt : Nat → Nat}
/-- The kinds of types that have a nil. -/
inductive NK where
  | p | i | f | s
def NK.of (P : Program) (t : TypeId) : NK → Prop
  | .p => ∃ e, P.underlying t = some (.pointer e)
  | .i => ∃ ms, P.underlying t = some (.interface ms)
  | .f => ∃ a b c, P.underlying t = some (.func a b c)
  | .s => ∃ e, P.underlying t = some (.slice e)
def NK.nil : NK → Value
  | .p => .pointer none
  | .i => .nilIface
  | .f => .nilFunc
  | .s => .slice none 0 0
def NK.non : NK → Value → Prop
  | .p, u => ∃ a, u = .pointer (some a)
  | .i, u => ∃ a b, u = .iface a b
  | .f, u => ∃ a b c, u = .func a b c
  | .s, u => ∃ a n c, u = .slice (some a) n c
theorem NK.uniq {t : TypeId} {k k' : NK} (h : k.of P t) (h' : k'.of P t) : k = k' := by
  cases k <;> cases k' <;> first
    | rfl
    | (exfalso; simp only [NK.of] at h h'
       first
        | (obtain ⟨_, _, _, h⟩ := h; obtain ⟨_, _, _, h'⟩ := h'; rw [h] at h'; simp at h'; done)
        | (obtain ⟨_, _, _, h⟩ := h; obtain ⟨_, h'⟩ := h'; rw [h] at h'; simp at h'; done)
        | (obtain ⟨_, h⟩ := h; obtain ⟨_, _, _, h'⟩ := h'; rw [h] at h'; simp at h'; done)
        | (obtain ⟨_, h⟩ := h; obtain ⟨_, h'⟩ := h'; rw [h] at h'; simp at h'; done))
theorem nilFits_val {C : Ctx} {t : TypeId} {x : T} {u : Value} (h : nilFits P t x = true) (hx : Rep C x u) : ∃ k : NK, k.of P t ∧ u = k.nil := by
  unfold nilFits at h
  split at h
  · rename_i e hu; exact ⟨.p, ⟨e, hu⟩, rep_s hx⟩
  · rename_i a b c hu; exact ⟨.f, ⟨a, b, c, hu⟩, rep_s hx⟩
  · rename_i e hu; exact ⟨.s, ⟨e, hu⟩, rep_s hx⟩
  · simp at h
theorem nonFits_val {t : TypeId} {x : T} {u : Value} (h : nonFits P t x = true) (hx : Rep (sctx B w inj σ cnt) x u) : ∃ k : NK, k.of P t ∧ k.non u := by
  unfold nonFits at h
  split at h
  · rename_i e l off hu; cases hx; rename_i hp; obtain ⟨_, b, rfl, _⟩ := hp; exact ⟨.p, ⟨e, hu⟩, _, rfl⟩
  · rename_i e cs hu; obtain ⟨us, ad, rfl, _⟩ := hx.ep_parts; exact ⟨.p, ⟨e, hu⟩, _, rfl⟩
  · rename_i e l sz i off hu; cases hx; rename_i hp; obtain ⟨_, b, rfl, _⟩ := hp; exact ⟨.p, ⟨e, hu⟩, _, rfl⟩
  · rename_i e l hu; cases hx; rename_i hp; obtain ⟨_, b, n, c, rfl, _⟩ := hp; exact ⟨.s, ⟨e, hu⟩, _, _, _, rfl⟩
  · rename_i a b c f fs cs hu; obtain ⟨vf, vc, rfl, _⟩ := hx.fn_parts; exact ⟨.f, ⟨a, b, c, hu⟩, _, _, _, rfl⟩
  · rename_i a b c x' y' z' hu; obtain rfl := rep_s hx; exact ⟨.f, ⟨a, b, c, hu⟩, _, _, _, rfl⟩
  · simp at h
theorem equal_nn {t : TypeId} {k : NK} (h : k.of P t) (w : World) : (Op.equal t k.nil k.nil).run P w = .ok true w := by
  show (Op.equalIn (9999 + 1) t _ _).run P w = _
  cases k <;> simp only [NK.of] at h
  · obtain ⟨e, hu⟩ := h; unfold Op.equalIn; simp [run_und hu, NK.nil]
  · obtain ⟨e, hu⟩ := h; unfold Op.equalIn; simp [run_und hu, NK.nil]
  · obtain ⟨a, b, c, hu⟩ := h; unfold Op.equalIn; simp [run_und hu, NK.nil]
  · obtain ⟨e, hu⟩ := h; unfold Op.equalIn; simp [run_und hu, NK.nil]
theorem equal_n1 {t : TypeId} {k : NK} (h : k.of P t) {u : Value} (hn : k.non u) (w : World) : (Op.equal t u k.nil).run P w = .ok false w ∧ (Op.equal t k.nil u).run P w = .ok false w := by
  show (Op.equalIn (9999 + 1) t _ _).run P w = _ ∧ (Op.equalIn (9999 + 1) t _ _).run P w = _
  cases k <;> simp only [NK.of, NK.non] at h hn
  · obtain ⟨e, hu⟩ := h; obtain ⟨a, rfl⟩ := hn; unfold Op.equalIn; simp [run_und hu, NK.nil]
  · obtain ⟨e, hu⟩ := h; obtain ⟨a, b, rfl⟩ := hn; unfold Op.equalIn; simp [run_und hu, NK.nil]
  · obtain ⟨a, b, c, hu⟩ := h; obtain ⟨a', b', c', rfl⟩ := hn; unfold Op.equalIn; simp [run_und hu, NK.nil]
  · obtain ⟨e, hu⟩ := h; obtain ⟨a, n, c, rfl⟩ := hn; unfold Op.equalIn; simp [run_und hu, NK.nil]
def numOr (u : Value) : Prop := (∀ k n, u ≠ .int k n) ∧ (∀ s, u ≠ .string s) ∧ (∀ k n, u ≠ .float k n) ∧ (∀ k a c, u ≠ .complex k a c)
theorem nil_num (k : NK) : numOr k.nil ∧ (∀ a, k.nil ≠ .agg a) := by cases k <;> simp [numOr, NK.nil]
theorem non_num {k : NK} {u : Value} (h : k.non u) : numOr u ∧ (∀ a, u ≠ .agg a) ∧ u ≠ .nilIface := by
  cases k <;> simp only [NK.non] at h
  · obtain ⟨a, rfl⟩ := h; simp [numOr]
  · obtain ⟨a, b, rfl⟩ := h; simp [numOr]
  · obtain ⟨a, b, c, rfl⟩ := h; simp [numOr]
  · obtain ⟨a, n, c, rfl⟩ := h; simp [numOr]
theorem ifc_val {C : Ctx} {a : TypeId} {x : T} {u : Value} (h : Rep C (.ifc a x) u) : (a = 0 ∧ u = .nilIface) ∨ (a ≠ 0 ∧ ∃ b v, u = .iface b v) := by
  cases h with
  | ifc h0 h => exact .inr ⟨h0, _, _, rfl⟩
  | ifn => exact .inl ⟨rfl, rfl⟩
/-- A binary operator. -/
theorem bin_ok {op : BinOp} {t : TypeId} {ox oy : Operand} {x y z : T} {u v : Value} (hx : Rep (sctx B w inj σ cnt) x u) (hy : Rep (sctx B w inj σ cnt) y v) (hd : evBin P op t ox oy x y = some z) :
    ∃ r, binRun P op t ox oy u v w = .ok r w ∧ Rep (sctx B w inj σ cnt) z r := by
  unfold evBin at hd
  unfold binRun
  split at hd
  · obtain rfl := rep_s hx
    obtain rfl := rep_s hy
    split at hd
    · rename_i hk
      subst hk
      rw [guard_pass (by simp) (by simp), Result.andThen_ok]
      exact cmpI_ok hd t w
    · simp at hd
  · obtain rfl := rep_s hx
    obtain rfl := rep_s hy
    rw [guard_pass (by simp) (by simp), Result.andThen_ok]
    exact cmpS_ok hd t w
  · obtain rfl := rep_s hx
    obtain rfl := rep_s hy
    split at hd
    · rename_i hu
      rw [guard_pass (by simp) (by simp), Result.andThen_ok]
      exact eqOp_run hd (by simp) (by simp) (by simp) (by simp) (run_equalIn_bool' w 9999 t _ _ hu)
    · simp at hd
  · obtain ⟨us, rfl, hl, h, h1⟩ := hx.agg_parts
    obtain ⟨vs, rfl, hl', h', h1'⟩ := hy.agg_parts
    split at hd
    · simp at hd
    · rename_i hg
      simp only [Bool.or_eq_true, not_or, Bool.not_eq_true, bne_eq_false_iff_eq] at hg
      obtain ⟨hg, hag0⟩ := hg
      split at hd
      · rename_i b hb
        rw [run_eqGuard_agg w op t ox oy _ _ hg, Result.andThen_ok]
        rcases eqT_ok (P := P) 20 t _ _ b us vs hb ⟨hl, h⟩ ⟨hl', h'⟩ Op.maxDepth (by decide) w with ⟨_, he⟩ | ⟨_, u', v', rfl, rfl, he⟩
        · exact eqOp_run hd (by simp) (by simp) (by simp) (by simp) he
        · rename_i hag
          rw [hag0] at hag
          simp at hag
      · simp at hd
  · rename_i ta xa tb' xb
    split at hd
    · rename_i ms hu
      have hk : NK.of P t .i := ⟨ms, hu⟩
      have one : ∀ (u : Value) (a : TypeId) (x : T), Rep (sctx B w inj σ cnt) (.ifc a x) u → (constB ox || constB oy) = true → ∃ r : Bool, r = decide (a = 0) ∧ (eqGuard op t ox oy u .nilIface).run P w = .ok () w ∧ (eqGuard op t ox oy .nilIface u).run P w = .ok () w ∧ (Op.equal t u .nilIface).run P w = .ok r w ∧ (Op.equal t .nilIface u).run P w = .ok r w ∧ numOr u := by
        intro u a x hu' hcc
        rcases ifc_val hu' with ⟨rfl, rfl⟩ | ⟨h0, b, v, rfl⟩
        · exact ⟨true, by simp, guard_const hcc w, guard_const hcc w, equal_nn hk w, equal_nn hk w, (nil_num .i).1⟩
        · have hn : NK.non .i (.iface b v) := ⟨b, v, rfl⟩
          exact ⟨false, by simp [h0], guard_pass (by simp) (by simp) w, guard_pass (by simp) (by simp) w, (equal_n1 hk hn w).1, (equal_n1 hk hn w).2, (non_num hn).1⟩
      split at hd
      · rename_i hc
        simp only [Bool.and_eq_true, decide_eq_true_eq] at hc
        obtain ⟨hc, rfl⟩ := hc
        have hv : v = .nilIface := by rcases ifc_val hy with ⟨_, h⟩ | ⟨h, _⟩; exact h; exact absurd rfl h
        subst hv
        obtain ⟨r, rfl, g1, g2, e1, e2, hno⟩ := one u ta xa hx (by simp [hc])
        rw [g1, Result.andThen_ok]
        exact eqOp_run hd hno.1 hno.2.1 hno.2.2.1 hno.2.2.2 e1
      · split at hd
        · rename_i hc
          simp only [Bool.and_eq_true, decide_eq_true_eq] at hc
          obtain ⟨hc, rfl⟩ := hc
          have hv : u = .nilIface := by rcases ifc_val hx with ⟨_, h⟩ | ⟨h, _⟩; exact h; exact absurd rfl h
          subst hv
          obtain ⟨r, rfl, g1, g2, e1, e2, hno⟩ := one v tb' xb hy (by simp [hc])
          rw [g2, Result.andThen_ok]
          exact eqOp_run hd (by simp) (by simp) (by simp) (by simp) e2
        · simp at hd
    · simp at hd
  · split at hd
    · rename_i hc
      simp only [Bool.and_eq_true] at hc
      obtain ⟨hny, hcc⟩ := hc
      obtain ⟨k, hk, rfl⟩ := nilFits_val hny hy
      split at hd
      · rename_i hnx
        obtain ⟨k', hk', rfl⟩ := nilFits_val hnx hx
        obtain rfl := NK.uniq hk hk'
        have e := nil_num k
        have hg : (eqGuard op t ox oy k.nil k.nil).run P w = .ok () w := by
          by_cases hnn : k.nil = .nilIface ∧ k.nil = .nilIface
          · rw [hnn.1]; exact guard_const hcc w
          · exact guard_pass hnn (by rintro ⟨⟨xs, e1⟩, _⟩; exact e.2 _ e1) w
        rw [hg, Result.andThen_ok]
        exact eqOp_run hd e.1.1 e.1.2.1 e.1.2.2.1 e.1.2.2.2 (equal_nn hk w)
      · split at hd
        · rename_i hnx
          obtain ⟨k', hk', hnon⟩ := nonFits_val hnx hx
          obtain rfl := NK.uniq hk hk'
          have e := non_num hnon
          rw [guard_pass (by rintro ⟨rfl, _⟩; exact e.2.2 rfl) (by rintro ⟨⟨xs, rfl⟩, _⟩; exact e.2.1 _ rfl), Result.andThen_ok]
          exact eqOp_run hd e.1.1 e.1.2.1 e.1.2.2.1 e.1.2.2.2 (equal_n1 hk hnon w).1
        · simp at hd
    · split at hd
      · rename_i hc
        simp only [Bool.and_eq_true] at hc
        obtain ⟨⟨hnx, hcc⟩, hny⟩ := hc
        obtain ⟨k, hk, rfl⟩ := nilFits_val hnx hx
        obtain ⟨k', hk', hnon⟩ := nonFits_val hny hy
        obtain rfl := NK.uniq hk hk'
        have e := nil_num k
        have e2 := non_num hnon
        rw [guard_pass (by rintro ⟨_, rfl⟩; exact e2.2.2 rfl) (by rintro ⟨⟨xs, e1⟩, _⟩; exact e.2 _ e1), Result.andThen_ok]
        exact eqOp_run hd e.1.1 e.1.2.1 e.1.2.2.1 e.1.2.2.2 (equal_n1 hk hnon w).2
      · simp at hd
end
end Go.Proofs.YthcaodlfnlhfbaaDoorT
