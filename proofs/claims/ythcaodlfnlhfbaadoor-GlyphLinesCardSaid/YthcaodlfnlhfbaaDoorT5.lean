/- The interpreter over trees: what only computes. -/
import Derived.Test.YthcaodlfnlhfbaaDoorT4
namespace Go.Proofs.YthcaodlfnlhfbaaDoorT
open Go Go.RowKit
set_option linter.unusedVariables false

section
variable {P : Program} {C : Ctx}
theorem rep_b (b : Bool) : Rep C (tb b) (.bool b) := .s rfl
theorem rep_i (k : IntKind) (n : Int) : Rep C (.s (.int k n)) (.int k n) := .s rfl
theorem rep_str (b : ByteArray) : Rep C (.s (.string b)) (.string b) := .s rfl

/-- index -/
theorem index_ok {t : TypeId} {x i y : T} {u ui : Value} (hx : Rep C x u) (hi : Rep C i ui) (hd : evIndex P t x i = some y) (w : World) :
    ∃ v, (Instr.index t u ui).run P w = .ok v w ∧ Rep C y v := by
  unfold evIndex at hd
  split at hd
  · rename_i b k n
    obtain rfl := rep_s hx
    obtain rfl := rep_s hi
    split at hd
    · rename_i hu
      split at hd
      · rename_i hn
        injection hd with hd; subst hd
        have hlt : n.toNat < b.size := by omega
        refine ⟨_, ?_, rep_i _ _⟩
        have h0 : 0 ≤ n := hn.1
        have hb : b[n.toNat]? = some b[n.toNat] := by simp [hlt]
        simp only [Instr.index, Sem.run_bind, run_asInt, Result.andThen_ok, run_und hu, h0, if_true, hb, Sem.run_pure]
        congr 2
        have hd2 : n.toNat < b.data.size := hlt
        simp only [byteAt, List.getD_eq_getElem?_getD, Array.getElem?_toList]
        rw [Array.getElem?_eq_getElem hd2]
        rfl
      · simp at hd
    · simp at hd
  · rename_i cs k n
    obtain rfl := rep_s hi
    obtain ⟨vs, rfl, hl, h, h1⟩ := hx.agg_parts
    split at hd
    · rename_i len e hu
      split at hd
      · rename_i sz hs
        split at hd
        · rename_i hn
          obtain ⟨v, hv, hr⟩ := run_part (P := P) (n.toNat * sz) ⟨hl, h⟩ h1 w hd
          exact ⟨v, by simp [Instr.index, run_asInt, run_und hu, hn, run_sz hs, hv], hr⟩
        · simp at hd
      · simp at hd
    · simp at hd
  · simp at hd

theorem cmpI_ok {op : BinOp} {k : IntKind} {a b : Int} {y : T} (hd : cmpI op k a b = some y) (t : TypeId) (w : World) :
    ∃ v, (binOp op t (.int k a) (.int k b)).run P w = .ok v w ∧ Rep C y v := by
  cases op
  case add => simp only [cmpI, Option.some.injEq] at hd; subst hd; exact ⟨_, by simp [binOp, Op.intArith], .s rfl⟩
  case sub => simp only [cmpI, Option.some.injEq] at hd; subst hd; exact ⟨_, by simp [binOp, Op.intArith], .s rfl⟩
  case mul => simp only [cmpI, Option.some.injEq] at hd; subst hd; exact ⟨_, by simp [binOp, Op.intArith], .s rfl⟩
  case quo =>
    simp only [cmpI] at hd
    split at hd
    · simp at hd
    · rename_i h0
      simp only [Option.some.injEq] at hd; subst hd; exact ⟨_, by simp [binOp, Op.intDiv, h0], .s rfl⟩
  case rem =>
    simp only [cmpI] at hd
    split at hd
    · simp at hd
    · rename_i h0
      simp only [Option.some.injEq] at hd; subst hd; exact ⟨_, by simp [binOp, Op.intDiv, h0], .s rfl⟩
  case eql => simp only [cmpI, Option.some.injEq] at hd; subst hd; refine ⟨_, ?_, rep_b _⟩; simp [binOp, Op.intCmp]; rfl
  case neq => simp only [cmpI, Option.some.injEq] at hd; subst hd; refine ⟨_, ?_, rep_b _⟩; simp [binOp, Op.intCmp, bne]; rfl
  case lss => simp only [cmpI, Option.some.injEq] at hd; subst hd; exact ⟨_, by simp [binOp, Op.intCmp], rep_b _⟩
  case leq => simp only [cmpI, Option.some.injEq] at hd; subst hd; exact ⟨_, by simp [binOp, Op.intCmp], rep_b _⟩
  case gtr => simp only [cmpI, Option.some.injEq] at hd; subst hd; exact ⟨_, by simp [binOp, Op.intCmp], rep_b _⟩
  case geq => simp only [cmpI, Option.some.injEq] at hd; subst hd; exact ⟨_, by simp [binOp, Op.intCmp], rep_b _⟩
  all_goals simp [cmpI] at hd
theorem toList_eq (a b : ByteArray) : (a.toList == b.toList) = decide (a = b) := by
  have e : ∀ x y : ByteArray, x.toList = y.toList → x = y := by
    intro x y h
    rw [ByteArray.toList_eq, ByteArray.toList_eq] at h
    cases x; cases y
    simp only [ByteArray.mk.injEq]
    exact Array.toList_inj.1 h
  rw [Bool.eq_iff_iff]
  simp only [beq_iff_eq, decide_eq_true_eq]
  exact ⟨e a b, fun h => by rw [h]⟩
theorem cmpS_ok {op : BinOp} {a b : ByteArray} {y : T} (hd : cmpS op a b = some y) (t : TypeId) (w : World) :
    ∃ v, (binOp op t (.string a) (.string b)).run P w = .ok v w ∧ Rep C y v := by
  cases op
  case add =>
    simp only [cmpS] at hd
    split at hd
    · rename_i h0
      simp only [Option.some.injEq] at hd; subst hd
      refine ⟨_, ?_, .s rfl⟩
      have h1 : ¬ (((a.size + b.size : Nat) : Int) > IntKind.i64.max) := by rw [IntKind.max_i64]; omega
      simp only [binOp, Op.stringOp]
      rw [if_neg h1]
      rfl
    · simp at hd
  all_goals first
    | (simp [cmpS] at hd; done)
    | (simp only [cmpS, Option.some.injEq] at hd; subst hd; refine ⟨_, ?_, rep_b _⟩; simp only [binOp, Op.stringOp, toList_eq, Sem.run_pure])
theorem un_ok {op : UnOp} {x y : T} {u : Value} (hx : Rep C x u) (hd : evUn op x = some y) (w : World) : ∃ v, (Op.unary op u).run P w = .ok v w ∧ Rep C y v := by
  unfold evUn at hd
  split at hd
  · obtain rfl := rep_s hx
    cases op <;> simp at hd
    subst hd
    exact ⟨_, by simp [Op.unary, Op.intArith], .s rfl⟩
  · obtain rfl := rep_s hx
    cases op <;> simp at hd
    subst hd
    exact ⟨_, by simp [Op.unary], rep_b _⟩
  · simp at hd
theorem conv_ok {s t : TypeId} {x y : T} {u : Value} (hx : Rep C x u) (hd : evConv P s t x = some y) (w : World) : ∃ v, (convert s t u).run P w = .ok v w ∧ Rep C y v := by
  unfold evConv at hd
  split at hd
  · rename_i d k k' n h1 h2
    obtain rfl := rep_s hx
    injection hd with hd; subst hd
    refine ⟨.int k (k.wrap n), ?_, .s rfl⟩
    simp only [convert, Sem.run_bind, run_und h1, run_und h2, Result.andThen_ok]
    rfl
  · rename_i d b h1 h2
    obtain rfl := rep_s hx
    injection hd with hd; subst hd
    refine ⟨.string b, ?_, .s rfl⟩
    simp only [convert, Sem.run_bind, run_und h1, run_und h2, Result.andThen_ok]
    rfl
  · rename_i d k n h1 h2
    obtain rfl := rep_s hx
    injection hd with hd; subst hd
    refine ⟨.string (Utf8.encode n), ?_, .s rfl⟩
    simp only [convert, Sem.run_bind, run_und h1, run_und h2, Result.andThen_ok]
    rfl
  · simp at hd
/-- Bounds. -/
theorem bound_some {x : T} {u : Value} {d m n : Nat} (h : bound (some x) d m = some n) (hr : Rep C x u) (w : World) (c : BoundsCode) : (Instr.sliceBound u m c).run P w = .ok n w ∧ n ≤ m := by
  unfold bound at h
  split at h
  · rename_i e; simp at e
  · rename_i k z e
    injection e with e; subst e
    split at h
    · rename_i hz
      injection h with h; subst h
      obtain rfl := rep_s hr
      exact ⟨by simp [Instr.sliceBound, run_asInt, hz], by omega⟩
    · simp at h
  · simp at h
/-- What an operand that may lack is. -/
def RepOpt (C : Ctx) (x : Option T) (u : Option Value) : Prop := match x, u with
  | none, none => True
  | some x, some u => Rep C x u
  | _, _ => False
theorem bounds_ok {lo hi : Option T} {ul uh : Option Value} {len cap h l : Nat} (isS : Bool) (hl : RepOpt C lo ul) (hh : RepOpt C hi uh) (e1 : bound hi len len = some h) (e2 : bound lo 0 h = some l) (hlc : len ≤ cap) (w : World) :
    (Instr.sliceBounds isS len cap ul uh none).run P w = .ok (l, h, cap) w ∧ l ≤ h ∧ h ≤ len := by
  have H : (uh = none ∧ h = len) ∨ ∃ v, uh = some v ∧ (∀ c : BoundsCode, (Instr.sliceBound v cap c).run P w = .ok h w) ∧ h ≤ len := by
    cases hi with
    | none =>
      cases uh with
      | none => simp [bound] at e1; exact .inl ⟨rfl, e1.symm⟩
      | some v => exact hh.elim
    | some x =>
      cases uh with
      | none => exact hh.elim
      | some v =>
        have e3 : bound (some x) len cap = some h := by
          unfold bound at e1 ⊢
          split at e1
          · rename_i e; simp at e
          · rename_i k z e
            injection e with e; subst e
            split at e1
            · rename_i hz
              injection e1 with e1; subst e1
              have : 0 ≤ z ∧ z ≤ (cap : Int) := by omega
              simp [this]
            · simp at e1
          · simp at e1
        exact .inr ⟨v, rfl, fun c => (bound_some (P := P) e3 hh w c).1, (bound_some (P := P) e1 hh w .index).2⟩
  have L : (ul = none ∧ l = 0) ∨ ∃ v, ul = some v ∧ (∀ c : BoundsCode, (Instr.sliceBound v h c).run P w = .ok l w) ∧ l ≤ h := by
    cases lo with
    | none =>
      cases ul with
      | none => simp [bound] at e2; exact .inl ⟨rfl, e2.symm⟩
      | some v => exact hl.elim
    | some x =>
      cases ul with
      | none => exact hl.elim
      | some v => exact .inr ⟨v, rfl, fun c => (bound_some (P := P) e2 hl w c).1, (bound_some (P := P) e2 hl w .index).2⟩
  rcases H with ⟨rfl, rfl⟩ | ⟨v, rfl, hv, hle⟩ <;> rcases L with ⟨rfl, rfl⟩ | ⟨u, rfl, hu, hle'⟩
  · exact ⟨by simp [Instr.sliceBounds], Nat.zero_le _, Nat.le_refl _⟩
  · exact ⟨by simp [Instr.sliceBounds, hu], hle', Nat.le_refl _⟩
  · exact ⟨by simp [Instr.sliceBounds, hv], Nat.zero_le _, hle⟩
  · exact ⟨by simp [Instr.sliceBounds, hv, hu], hle', hle⟩
end
section
variable {P : Program} {B : Base} {w : World} {inj : Loc → Nat} {σ : Loc → Option O} {cnt : Nat → Nat}
theorem bound_le {o : Option T} {d m n : Nat} (h : bound o d m = some n) (hd : d ≤ m) : n ≤ m := by
  unfold bound at h
  split at h
  · injection h with h; omega
  · split at h
    · injection h with h; omega
    · simp at h
  · simp at h
/-- A row of one's own under a new key. -/
def Rekeyed (B : Base) (w : World) (inj : Loc → Nat) (σ : Loc → Option O) (cnt : Nat → Nat) : Prop := ∀ (l : Loc) (e : TypeId) (sz : Nat) (xs : List T) (k : Nat) (b n c : Nat), σ l = some (.arr e sz xs) → k ≤ xs.length → n = xs.length → b = inj l → n ≤ c → (∃ cells, w.heap[inj l]? = some (.cells cells e (0, 0)) ∧ cells.size = c * sz) →
    Stp B w inj σ cnt ⟨.own (l.1, cnt l.1), [(l, none), ((l.1, cnt l.1), some (.arr e sz (xs.take k)))], [l.1], [l]⟩ (.slice (some ⟨b, 0, none⟩) k c) w
theorem slice_ok {S : St} (h : SR B w inj S.σ S.cnt) (hrk : Rekeyed B w inj S.σ S.cnt) {site : Nat} {t : TypeId} {x : T} {d : Dl} {u : Value} {lo hi : Option T} {ul uh : Option Value} (hx : Rep (sctx B w inj S.σ S.cnt) x u) (hl : RepOpt (sctx B w inj S.σ S.cnt) lo ul) (hh : RepOpt (sctx B w inj S.σ S.cnt) hi uh)
    (hd : evSlice P S site t x lo hi = some d) : ∃ v, (Instr.sliceAt t u ul uh none).run P w = .ok v w ∧ Stp B w inj S.σ S.cnt d v w := by
  unfold evSlice at hd
  split at hd
  · rename_i b hu
    obtain rfl := rep_s hx
    split at hd
    · rename_i h' e1
      split at hd
      · rename_i l e2
        unfold pv at hd
        injection hd with hd; subst hd
        obtain ⟨hb, _, _⟩ := bounds_ok (P := P) (C := sctx B w inj S.σ S.cnt) false hl hh e1 e2 (Nat.le_refl _) w
        refine ⟨.string (b.extract l h'), ?_, Stp.pure h (x := .s (.string (b.extract l h'))) (.s rfl) _⟩
        simp [Instr.sliceAt, Instr.slice, run_und hu, hb]
      · simp at hd
    · simp at hd
  · rename_i sz xs e hu
    split at hd
    · rename_i n hs
      split at hd
      · rename_i hsz
        split at hd
        · rename_i h' e1
          split at hd
          · rename_i l e2
            unfold pv at hd
            injection hd with hd; subst hd
            obtain ⟨A, c, rfl, hlc, hm⟩ := hx.sl_row
            obtain ⟨hb, hlh, hhn⟩ := bounds_ok (P := P) (C := sctx B w inj S.σ S.cnt) true hl hh e1 e2 hlc w
            have hlen : ((xs.take h').drop l).length = h' - l := by rw [List.length_drop, List.length_take]; omega
            refine ⟨.slice (if c = l then A else A.map (·.add (l * n))) (h' - l) (c - l), by simp [Instr.sliceAt, Instr.slice, run_und hu, hb, run_sz hs], Stp.pure h (x := .sl sz ((xs.take h').drop l)) ?_ _⟩
            rw [← hlen]
            refine Rep.sl_mk (by rw [hlen]; omega) ?_
            by_cases he : h' = l
            · left
              apply List.eq_nil_of_length_eq_zero
              rw [hlen]; omega
            · have hne : xs ≠ [] := by rintro rfl; simp at hhn; omega
              rcases hm with hm | ⟨ad, rfl, hsp, hok, hrow⟩
              · exact absurd hm hne
              · right
                have hszn : sz = n := by
                  simp only [szok, Bool.or_eq_true, decide_eq_true_eq] at hsz
                  rcases hsz with h | h
                  · exact h
                  · exact absurd (List.isEmpty_iff.1 h) hne
                subst hszn
                have hcl : c ≠ l := by omega
                refine ⟨⟨ad.block, ad.off + l * sz, none⟩, by simp [hcl, add_at hsp], rfl, hok, ?_⟩
                refine ((hrow.take h').drop l).mono (Ctx.le.refl _) (fun i v hv => ?_)
                simp only [Nat.add_assoc] at hv ⊢
                exact hv
          · simp at hd
        · simp at hd
      · simp at hd
    · simp at hd
  · rename_i l e hu
    split at hd
    · rename_i z e' sz' xs' hs hl'
      split at hd
      · rename_i h' e1
        split at hd
        · rename_i k e2
          split at hd
          · rename_i hk
            subst hk
            injection hd with hd; subst hd
            cases hx
            rename_i hp
            obtain ⟨h1, b, n, c, rfl, hnc, hb⟩ := hp
            obtain ⟨g1, g2, g3⟩ := hb e' sz' xs' hl'
            rw [← g1] at e1
            obtain ⟨hbd, _, hhn⟩ := bounds_ok (P := P) (C := sctx B w inj S.σ S.cnt) true hl hh e1 e2 hnc w
            refine ⟨.slice (some ⟨b, 0, none⟩) h' c, ?_, hrk l e' sz' xs' h' b n c hl' (by omega) g1 g2 hnc g3⟩
            simp [Instr.sliceAt, Instr.slice, run_und hu, hbd, run_sz hs, Addr.add]
          · simp at hd
        · simp at hd
      · simp at hd
    · simp at hd
  · rename_i e hu
    split at hd
    · rename_i z hs
      split at hd
      · rename_i h' e1
        split at hd
        · rename_i k e2
          unfold pv at hd
          injection hd with hd; subst hd
          obtain rfl := rep_s hx
          obtain ⟨hbd, hkh, hhn⟩ := bounds_ok (P := P) (C := sctx B w inj S.σ S.cnt) true hl hh e1 e2 (Nat.le_refl _) w
          refine ⟨.slice none 0 0, ?_, Stp.pure h (x := .s (.slice none 0 0)) (.s rfl) _⟩
          have h0 : h' = 0 := by omega
          have k0 : k = 0 := by omega
          subst h0; subst k0
          simp [Instr.sliceAt, Instr.slice, run_und hu, hbd, run_sz hs]
        · simp at hd
      · simp at hd
    · simp at hd
  · simp at hd
end
section
variable {P : Program} {C : Ctx}
theorem run_zero {t : TypeId} {cs : List T} (h : zeroOf P t = some cs) (w : World) : ∃ z : Value, (zeroValue t).run P w = .ok z w ∧ cs = z.cells.toList.map ofV ∧ (∀ u ∈ z.cells.toList, plainI u = true) ∧ szOf P t = some z.cells.size ∧
    ∃ d, P.underlying t = some d ∧ ((∃ zs, z = .agg zs) ↔ aggOf P t = some true) ∧ (∀ zs, z ≠ .tuple zs) := by
  unfold zeroOf at h
  split at h
  · rename_i i hi
    split at h
    · rename_i z hz
      split at h
      · rename_i hc
        injection h with h; subst h
        simp only [Bool.and_eq_true, decide_eq_true_eq, List.all_eq_true] at hc
        obtain ⟨⟨h1, h2⟩, h3⟩ := hc
        refine ⟨z, by simp [zeroValue, run_info hi, hz], rfl, h1, by simp [szOf, hi, h2], ?_⟩
        unfold aggOf
        cases hu : P.underlying t with
        | none => rw [hu] at h3; simp [zeroFits] at h3
        | some d =>
          rw [hu] at h3
          refine ⟨d, rfl, ?_, ?_⟩
          · cases d <;> cases z <;> simp_all [zeroFits]
          · rintro zs rfl
            cases d <;> simp_all [zeroFits]
      · simp at h
    · simp at h
  · simp at h
theorem rep_plains {us : List Value} (h : ∀ u ∈ us, plainI u = true) : RepA C (us.map ofV) us := by
  refine ⟨by simp, fun j x u hx hu => ?_⟩
  rw [List.getElem?_map, hu] at hx
  simp at hx; subst hx
  exact rep_ofV (h u (List.mem_of_getElem? hu))
theorem plain_one {u : Value} (h : plainI u = true) : one u := by cases u <;> simp [plainI, plainV] at h <;> rfl
/-- The zero value of a type, as a tree. -/
theorem zero_rep {t : TypeId} {cs : List T} {x : T} (h : zeroOf P t = some cs) (hx : ofCells P t cs = some x) (w : World) : ∃ z, (zeroValue t).run P w = .ok z w ∧ Rep C x z := by
  obtain ⟨z, h1, rfl, h3, h4, d, hd, hag, htu⟩ := run_zero h w
  refine ⟨z, h1, ?_⟩
  unfold ofCells at hx
  split at hx
  · rename_i n ha hs
    obtain ⟨zs, rfl⟩ := hag.2 ha
    split at hx
    · rename_i hn
      injection hx with hx; subst hx
      rw [h4] at hs
      injection hs with hs
      have e : (List.map ofV (Value.agg zs).cells.toList).take n = List.map ofV zs.toList := by
        rw [← hs]
        apply List.take_of_length_le
        simp [Value.cells]
      rw [e]
      have hr := rep_plains (C := C) h3
      have hh : Value.agg zs = Value.agg zs.toList.toArray := by simp
      rw [hh]
      exact .agg hr.1 hr.2 (fun u hu => plain_one (h3 u hu))
    · simp at hx
  · rename_i n ha hs
    split at hx
    · have hne : ∀ zs, z ≠ .agg zs := fun zs e => by have := hag.1 ⟨zs, e⟩; rw [ha] at this; simp at this
      have e : z.cells = #[z] := by cases z <;> first | rfl | exact absurd rfl (hne _)
      rw [e] at hx h3
      simp at hx h3
      subst hx
      exact rep_ofV h3
    · simp at hx
  · simp at hx
theorem run_assert {t : TypeId} {d : TypeDesc} (hu : P.underlying t = some d) (hni : ∀ ms, d ≠ .interface ms) (xt : TypeId) (w : World) (tt : TypeId) (v : Value) :
    (∀ ok, tt = t → (Instr.typeAssert (.iface tt v) xt t ok).run P w = .ok (if ok then .tuple #[v, .bool true] else v) w) ∧
    (∀ z, (zeroValue t).run P w = .ok z w → (tt ≠ t → (Instr.typeAssert (.iface tt v) xt t true).run P w = .ok (.tuple #[z, .bool false]) w) ∧ (Instr.typeAssert .nilIface xt t true).run P w = .ok (.tuple #[z, .bool false]) w) := by
  refine ⟨fun ok e => ?_, fun z hz => ⟨fun e => ?_, ?_⟩⟩
  · cases d with
    | interface ms => exact absurd rfl (hni ms)
    | _ => simp [Instr.typeAssert, run_und hu, e]
  · cases d with
    | interface ms => exact absurd rfl (hni ms)
    | _ => simp [Instr.typeAssert, run_und hu, e, hz]
  · cases d with
    | interface ms => exact absurd rfl (hni ms)
    | _ => simp [Instr.typeAssert, run_und hu, hz]
/-- typeAssert -/
theorem assert_ok {xt t : TypeId} {ok : Bool} {x y : T} {u : Value} (hx : Rep C x u) (hd : evAssert P xt t ok x = some y) (w : World) : ∃ v, (Instr.typeAssert u xt t ok).run P w = .ok v w ∧ Rep C y v := by
  have tw : ∀ {z : T} {v : Value} (b : Bool), Rep C z v → Rep C (.tup [z, tb b]) (.tuple #[v, .bool b]) := by
    intro z v b hz
    have := (RepA.one (rep_b (C := C) b)).cons hz
    exact .tup (vs := [v, .bool b]) this.1 this.2
  unfold evAssert at hd
  split at hd
  · rename_i hif
    obtain ⟨hif, hat⟩ := hif
    obtain ⟨d, hu, hni⟩ : ∃ d, P.underlying t = some d ∧ ∀ ms, d ≠ .interface ms := by
      unfold ifaceT at hif
      cases hu : P.underlying t with
      | none => rw [hu] at hif; simp at hif
      | some d =>
        refine ⟨d, rfl, ?_⟩
        rintro ms rfl
        rw [hu] at hif
        simp at hif
    have hz : ∀ z, zeroT P t = some z → ∃ z1, (zeroValue t).run P w = .ok z1 w ∧ Rep C z z1 := by
      intro z hz
      unfold zeroT at hz
      split at hz
      · rename_i cs hz0
        exact zero_rep hz0 hz w
      · simp at hz
    split at hd
    · rename_i tt z
      cases hx
      case ifn =>
        rw [if_neg (Ne.symm hat)] at hd
        split at hd
        · rename_i hok
          subst hok
          split at hd
          · rename_i zz hzz
            injection hd with hd; subst hd
            obtain ⟨z1, hz1, hr1⟩ := hz _ hzz
            exact ⟨_, ((run_assert hu hni xt w t z1).2 z1 hz1).2, tw false hr1⟩
          · simp at hd
        · simp at hd
      rename_i uz h0t hru
      have hra := run_assert hu hni xt w tt uz
      split at hd
      · rename_i htt
        injection hd with hd; subst hd
        refine ⟨_, hra.1 ok htt, ?_⟩
        cases ok with
        | true => exact tw true hru.of_ro
        | false => exact hru.of_ro
      · rename_i htt
        split at hd
        · rename_i hok
          subst hok
          split at hd
          · rename_i zz hzz
            injection hd with hd; subst hd
            obtain ⟨z1, hz1, hr1⟩ := hz _ hzz
            exact ⟨_, (hra.2 z1 hz1).1 htt, tw false hr1⟩
          · simp at hd
        · simp at hd
    · simp at hd
  · simp at hd
end
end Go.Proofs.YthcaodlfnlhfbaaDoorT
