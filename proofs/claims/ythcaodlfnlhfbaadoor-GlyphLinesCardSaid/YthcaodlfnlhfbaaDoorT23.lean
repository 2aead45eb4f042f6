/- The interpreter over trees: what is to be shown of a function's text. -/
import Derived.Test.YthcaodlfnlhfbaaDoorT22
namespace Go.Proofs.YthcaodlfnlhfbaaDoorT
open Go Go.RowKit
set_option linter.unusedVariables false

/-- What is left to do behind a piece. -/
inductive Fr1 where
  | seq (p : Nat) (b : Code)
  | block (id : Nat)
  | loop (p : Nat) (b : Code)
/-- A loop, at the head of a round. -/
def wpL (P : Program) (c : Code) (Q : Exit → Act → World → Prop) (a : Act) (w : World) : Prop :=
  ∀ (b : Frame) (k : List Item) (cs : List Frame), ∃ e a' w', Q e a' w' ∧ Arrives P (lone (b.at a (.code c :: .inLoop c :: k)) cs w) b k cs e a' w'
theorem wpL_loop {P : Program} {c : Code} {Q : Exit → Act → World → Prop} {a : Act} {w : World} (h : wpL P c Q a w) : (Code.loop c).wp P Q a w := by
  intro b k cs
  obtain ⟨e, a', w', hq, harr⟩ := h b k cs
  exact ⟨e, a', w', hq, .of_steps (.one step_loop) harr⟩
theorem wpL_round {P : Program} {c : Code} {Q : Exit → Act → World → Prop} {a : Act} {w : World} (h : c.wp P (Exit.then (wpL P c Q) Q) a w) : wpL P c Q a w := by
  intro b k cs
  obtain ⟨e, a₁, w₁, hq, harr⟩ := h b (.inLoop c :: k) cs
  cases e with
  | normal =>
    obtain ⟨e₂, a₂, w₂, hq₂, harr₂⟩ := hq b k cs
    exact ⟨e₂, a₂, w₂, hq₂, .of_steps (Steps.trans harr (.one step_inLoop)) harr₂⟩
  | exit id => exact ⟨_, a₁, w₁, hq, .pass (x := .inLoop c) rfl (fun _ _ => .inl (by simp)) harr⟩
  | goto l => exact ⟨_, a₁, w₁, hq, .pass (x := .inLoop c) rfl (fun _ _ => .inl (by simp)) harr⟩
  | ret => exact ⟨_, a₁, w₁, hq, .pass (x := .inLoop c) rfl (fun _ _ => .inl (by simp)) harr⟩
  | panic ch => exact ⟨_, a₁, w₁, hq, .pass (x := .inLoop c) rfl (fun _ _ => .inl (by simp)) harr⟩
  | outgrown => exact ⟨_, a₁, w₁, hq, .pass (x := .inLoop c) rfl (fun _ _ => .inl (by simp)) harr⟩
section
variable (P : Program)
def stkQ : List Fr1 → (Exit → Act → World → Prop) → Exit → Act → World → Prop
  | [], Q => Q
  | .seq _ b :: K, Q => Exit.then (b.wp P (stkQ K Q)) (stkQ K Q)
  | .block id :: K, Q => Exit.inBlock id (stkQ K Q)
  | .loop _ b :: K, Q => Exit.then (wpL P b (stkQ K Q)) (stkQ K Q)
/-- What is wanted at the end is there where a state is as it must be. -/
def EndsIn (Fin : St → Prop) (C0 : Ctx) (B : Base) (Q : Exit → Act → World → Prop) : Prop := ∀ S' a' w', Fin S' → Hold C0 B S' a' w' → Q .normal a' w' ∧ Q .ret a' w'
/-- From a state on, a piece and all behind it comes to an end as wanted. -/
structure SemC (c : Code) (S : St) (K : List Fr1) (Fin : St → Prop) : Prop where
  run : ∀ (C0 : Ctx) (B : Base) (a : Act) (w : World) (Q : Exit → Act → World → Prop), EntryCtx C0 → Hold C0 B S a w → EndsIn Fin C0 B Q → c.wp P (stkQ P K Q) a w
structure SemL (c : Code) (S : St) (K : List Fr1) (Fin : St → Prop) : Prop where
  run : ∀ (C0 : Ctx) (B : Base) (a : Act) (w : World) (Q : Exit → Act → World → Prop), EntryCtx C0 → Hold C0 B S a w → EndsIn Fin C0 B Q → wpL P c (stkQ P K Q) a w
def SemX0 (c : Code) (S : St) (K : List Fr1) (Fin : St → Prop) : Prop := ∀ (C0 : Ctx) (B : Base) (a : Act) (w : World) (Q : Exit → Act → World → Prop), EntryCtx C0 → Hold C0 B S a w → EndsIn Fin C0 B Q → c.wp P (stkQ P K Q) a w
def SemX (e : Exit) (S : St) (K : List Fr1) (Fin : St → Prop) : Prop := ∀ (C0 : Ctx) (B : Base) (a : Act) (w : World) (Q : Exit → Act → World → Prop), EntryCtx C0 → Hold C0 B S a w → EndsIn Fin C0 B Q → stkQ P K Q e a w
inductive Md where
  | run (p : Nat) (c : Code)
  | nrm
  | ext (id : Nat)
def jmp (ls : List Nat) (S : St) (k : St → Prop) : Prop := opt (nrm ls S) k
def vcRun (ann : Ann) (mv : FuncId → Bool) (Fin : St → Prop) : Nat → Md → St → List Fr1 → Prop
  | 0, _, _, _ => False
  | n + 1, .run p c, S, K => match c with
    | .skip => vcRun ann mv Fin n .nrm S K
    | .region id ops false => vcOps P ann mv id ops 0 ops.toList S fun S' => vcRun ann mv Fin n .nrm S' K
    | .region id ops true => chk (okD (bitsOf ops) ops) (vcOpsD P ann mv id (bitsOf ops) ops 0 [] ops.toList S fun S' => vcRun ann mv Fin n .nrm S' K)
    | .seq a b => vcRun ann mv Fin n (.run (2 * p) a) S (.seq (2 * p + 1) b :: K)
    | .cond x a b => match x with
      | .tmp t => (match S.τ t with
        | .s (.bool v) => cond v (vcRun ann mv Fin n (.run (2 * p) a) (setB S t true) K) (vcRun ann mv Fin n (.run (2 * p + 1) b) (setB S t false) K)
        | _ => False)
      | _ => (match opd S x with
        | .s (.bool v) => cond v (vcRun ann mv Fin n (.run (2 * p) a) S K) (vcRun ann mv Fin n (.run (2 * p + 1) b) S K)
        | _ => False)
    | .block id b => vcRun ann mv Fin n (.run (2 * p) b) S (.block id :: K)
    | .loop b => (match ann.cut (2 * p) with
      | some ls => jmp ls S fun S' => SemL P b S' K Fin
      | none => False)
    | .exit id => vcRun ann mv Fin n (.ext id) S K
    | .ret => Fin S
    | _ => False
  | n + 1, .nrm, S, K => match K with
    | [] => Fin S
    | .seq p b :: K => (match ann.cut p with
      | none => vcRun ann mv Fin n (.run p b) S K
      | some ls => jmp ls S fun S' => SemC P b S' K Fin)
    | .block _ :: K => vcRun ann mv Fin n .nrm S K
    | .loop p b :: K => (match ann.cut p with
      | some ls => jmp ls S fun S' => SemL P b S' K Fin
      | none => False)
  | n + 1, .ext id, S, K => match K with
    | [] => False
    | .block j :: K => cond (Nat.beq id j) (vcRun ann mv Fin n .nrm S K) (vcRun ann mv Fin n (.ext id) S K)
    | _ :: K => vcRun ann mv Fin n (.ext id) S K
end
section
variable {P : Program} {ann : Ann} {mv : FuncId → Bool} {Fin : St → Prop}
theorem stk_ret {Q : Exit → Act → World → Prop} {a : Act} {w : World} (h : Q .ret a w) : ∀ K : List Fr1, stkQ P K Q .ret a w
  | [] => h
  | .seq _ _ :: K => stk_ret h K
  | .block _ :: K => stk_ret h K
  | .loop _ _ :: K => stk_ret h K
theorem jmp_hold {ls : List Nat} {S : St} {k : St → Prop} (h : jmp ls S k) : ∃ S', k S' ∧ ∀ (C0 : Ctx) (B : Base) (a : Act) (w : World), EntryCtx C0 → Hold C0 B S a w → Hold C0 B S' a w := by
  obtain ⟨S', hn, hk⟩ := opt_elim h
  obtain ⟨ρ, π, K, hr⟩ := nrm_ok hn
  exact ⟨S', hk, fun C0 B a w he hh => hold_ren hh hr he⟩
theorem opd_bool {C0 : Ctx} {B : Base} {S : St} {a : Act} {w : World} (hh : Hold C0 B S a w) {x : Operand} {v : Bool} (h : opd S x = .s (.bool v)) : a.eval x = .bool v := by
  obtain ⟨inj, h1, h2, h3⟩ := hh
  have := opd_ok h2 x
  rw [h] at this
  exact rep_s this
def semOf (P : Program) (Fin : St → Prop) (md : Md) (S : St) (K : List Fr1) : Prop := match md with
  | .run _ c => SemX0 P c S K Fin
  | .nrm => SemX P .normal S K Fin
  | .ext id => SemX P (.exit id) S K Fin
theorem run_ok (hm : P.follows .mixedOrders = true) : ∀ (n : Nat) (md : Md) (S : St) (K : List Fr1), vcRun P ann mv Fin n md S K → semOf P Fin md S K := by
  intro n
  induction n with
  | zero => intro md S K h; exact h.elim
  | succ n ih =>
    intro md S K h
    cases md with
    | run p c =>
      intro C0 B a w Q he hh hQ
      cases c with
      | skip => exact wp_skip (ih .nrm S K h C0 B a w Q he hh hQ)
      | region id ops draw =>
        cases draw with
        | false =>
          obtain ⟨call, hC, S', hS, hN⟩ := ops_vc _ _ _ h
          refine wp_region ?_
          have := ops_ok (Q := stkQ P K Q) hC ops.toList 0 S a w rfl hS hh (fun a' w' hh' => ih .nrm S' K hN C0 B a' w' Q he hh' hQ)
          rw [List.range_eq_range']
          simpa using this
        | true =>
          obtain ⟨hok, h⟩ := chk_iff.1 h
          obtain ⟨call, hC, S', hS, hN⟩ := opsD_vc _ _ _ _ h
          exact draw_ok hm hC mv id ops C0 B S S' a w _ hok hS hh (fun a' w' hh' => ih .nrm S' K hN C0 B a' w' Q he hh' hQ)
      | seq x y => exact wp_seq (ih (.run (2 * p) x) S _ h C0 B a w Q he hh hQ)
      | cond x y z =>
        have key : ∀ v : Bool, opd S x = .s (.bool v) → (v = true → vcRun P ann mv Fin n (.run (2 * p) y) S K) → (v = false → vcRun P ann mv Fin n (.run (2 * p + 1) z) S K) → (Code.cond x y z).wp P (stkQ P K Q) a w := by
          intro v hv ht hf
          refine wp_cond_split (opd_bool hh hv) (fun e => ih (.run (2 * p) y) S K (ht e) C0 B a w Q he hh hQ) (fun e => ih (.run (2 * p + 1) z) S K (hf e) C0 B a w Q he hh hQ)
        have other : (match opd S x with
            | .s (.bool v) => cond v (vcRun P ann mv Fin n (.run (2 * p) y) S K) (vcRun P ann mv Fin n (.run (2 * p + 1) z) S K)
            | _ => False) → (Code.cond x y z).wp P (stkQ P K Q) a w := by
          intro h
          split at h
          · rename_i v hv
            exact key v hv (fun e => by subst e; exact h) (fun e => by subst e; exact h)
          · exact h.elim
        cases x with
        | tmp t =>
          have h : (match S.τ t with
            | .s (.bool v) => cond v (vcRun P ann mv Fin n (.run (2 * p) y) (setB S t true) K) (vcRun P ann mv Fin n (.run (2 * p + 1) z) (setB S t false) K)
            | _ => False) := h
          split at h
          · rename_i v hv
            refine key v hv (fun e => ?_) (fun e => ?_)
            · subst e
              have h : vcRun P ann mv Fin n (.run (2 * p) y) (setB S t true) K := h
              rwa [setB_same hv] at h
            · subst e
              have h : vcRun P ann mv Fin n (.run (2 * p + 1) z) (setB S t false) K := h
              rwa [setB_same hv] at h
          · exact h.elim
        | const v => exact other h
        | global g => exact other h
        | func f => exact other h
      | block id x =>
        exact wp_block (ih (.run (2 * p) x) S _ h C0 B a w Q he hh hQ)
      | loop x =>
        have h : (match ann.cut (2 * p) with
          | some ls => jmp ls S fun S' => SemL P x S' K Fin
          | none => False) := h
        split at h
        · obtain ⟨S', hk, hS⟩ := jmp_hold h
          exact wpL_loop (hk.run C0 B a w Q he (hS C0 B a w he hh) hQ)
        · exact h.elim
      | exit id => exact wp_exit (ih (.ext id) S K h C0 B a w Q he hh hQ)
      | ret => exact wp_ret (stk_ret (hQ S a w h hh).2 K)
      | rangeFunc => exact False.elim h
      | scope => exact False.elim h
      | label => exact False.elim h
      | goto => exact False.elim h
      | refuse => exact False.elim h
    | nrm =>
      intro C0 B a w Q he hh hQ
      cases K with
      | nil => exact (hQ S a w h hh).1
      | cons x K =>
        cases x with
        | seq p b =>
          have h : (match ann.cut p with
            | none => vcRun P ann mv Fin n (.run p b) S K
            | some ls => jmp ls S fun S' => SemC P b S' K Fin) := h
          split at h
          · exact ih (.run p b) S K h C0 B a w Q he hh hQ
          · obtain ⟨S', hk, hS⟩ := jmp_hold h
            exact hk.run C0 B a w Q he (hS C0 B a w he hh) hQ
        | block id => exact ih .nrm S K h C0 B a w Q he hh hQ
        | loop p b =>
          have h : (match ann.cut p with
            | some ls => jmp ls S fun S' => SemL P b S' K Fin
            | none => False) := h
          split at h
          · obtain ⟨S', hk, hS⟩ := jmp_hold h
            exact hk.run C0 B a w Q he (hS C0 B a w he hh) hQ
          · exact h.elim
    | ext id =>
      intro C0 B a w Q he hh hQ
      cases K with
      | nil => exact False.elim h
      | cons x K =>
        cases x with
        | seq p b => exact ih (.ext id) S K h C0 B a w Q he hh hQ
        | loop p b => exact ih (.ext id) S K h C0 B a w Q he hh hQ
        | block j =>
          show Exit.inBlock j (stkQ P K Q) (.exit id) a w
          cases hb : Nat.beq id j with
          | true =>
            have hij : id = j := Nat.eq_of_beq_eq_true hb
            subst hij
            have h : cond (Nat.beq id id) (vcRun P ann mv Fin n .nrm S K) (vcRun P ann mv Fin n (.ext id) S K) := h
            rw [hb] at h
            have := ih .nrm S K h C0 B a w Q he hh hQ
            simpa [Exit.inBlock] using this
          | false =>
            have h : cond (Nat.beq id j) (vcRun P ann mv Fin n .nrm S K) (vcRun P ann mv Fin n (.ext id) S K) := h
            rw [hb] at h
            have hij : id ≠ j := by rintro rfl; simp [Nat.beq_refl] at hb
            have := ih (.ext id) S K h C0 B a w Q he hh hQ
            simpa [Exit.inBlock, hij] using this
end
/-! ### A function -/
section
variable (P : Program)
def skT : T → T
  | .ptr l o => .ptr l o
  | .own l => .own l
  | .fn f fs cs => .fn f fs cs
  | _ => .dead
def finP (fn : Func) (fz : Bool) (ts : List T) (R : T × List T) (S : St) : Prop := opt (optAll (evRes P S) fn.results.toList) fun rs => opt (closeR fz S.σ rs) fun c => opt (outTL S.σ ts) fun o =>
  chk (nodupL (c.2.1 ++ o.2) && c.2.2.all (fun l => !(c.2.1 ++ o.2).contains l)) (R = (resT (canL2 P fn.resultTypes.toList c.1), o.1))
def bodyOf (f : FuncId) : Code := match P.funcs[f]? with
  | some fn => fn.body.getD .skip
  | none => .skip
def vcFn (ann : Ann) (mv : FuncId → Bool) (fz : Bool) (fn : Func) (c : Code) (args : List T) (R : T × List T) : Prop := match opnL key0 0 args with
  | (ts, k, u) => chk (Nat.ble k 1000 && Nat.ble args.length fn.ntmps) (vcRun P ann mv (finP P fn fz (ts.map skT) R) 1000000 (.run 1 c) (entrySt fn.ntmps ts u) [])
/-- Where a place of a text stands: what is left to do there. -/
def stkAt : List Nat → Nat → Code → List Fr1 → Nat × Code × List Fr1
  | [], p, c, K => (p, c, K)
  | 0 :: r, p, .seq a b, K => stkAt r (2 * p) a (.seq (2 * p + 1) b :: K)
  | _ :: r, p, .seq a b, K => stkAt r (2 * p + 1) b K
  | 0 :: r, p, .cond _ a b, K => stkAt r (2 * p) a K
  | _ :: r, p, .cond _ a b, K => stkAt r (2 * p + 1) b K
  | _ :: r, p, .block id b, K => stkAt r (2 * p) b (.block id :: K)
  | _ :: r, p, .loop b, K => stkAt r (2 * p) b (.loop (2 * p) b :: K)
  | _, p, c, K => (p, c, K)
/-- From a cut on (C: a place; L: the body of a loop, at the head of a round). -/
def CutC (fn : Func) (c : Code) (fz : Bool) (path : List Nat) (S : St) (ts : List T) (R : T × List T) : Prop := SemC P (stkAt path 1 c []).2.1 S (stkAt path 1 c []).2.2 (finP P fn fz ts R)
def CutL (fn : Func) (c : Code) (fz : Bool) (path : List Nat) (S : St) (ts : List T) (R : T × List T) : Prop := SemL P (stkAt path 1 c []).2.1 S (stkAt path 1 c []).2.2.tail (finP P fn fz ts R)
def vcCut (ann : Ann) (mv : FuncId → Bool) (fz : Bool) (fn : Func) (c : Code) (path : List Nat) (S : St) (ts : List T) (R : T × List T) : Prop :=
  vcRun P ann mv (finP P fn fz ts R) 1000000 (.run (stkAt path 1 c []).1 (stkAt path 1 c []).2.1) S (stkAt path 1 c []).2.2
end
section
variable {P : Program}
theorem outTL_sk {σ : Loc → Option O} : ∀ ts : List T, outTL σ (ts.map skT) = outTL σ ts
  | [] => rfl
  | t :: r => by
    have h : outT σ (skT t) = outT σ t := by cases t <;> rfl
    simp only [List.map_cons, outTL, h, outTL_sk r]
theorem fin_ends {fn : Func} {fz : Bool} {ts : List T} {R : T × List T} {S : St} (h : finP P fn fz (ts.map skT) R S) : Ends P fn fz ts R.1 R.2 S := by
  obtain ⟨rs, h1, h⟩ := opt_elim h
  obtain ⟨⟨rs', m, r⟩, h2, h⟩ := opt_elim h
  obtain ⟨⟨outs, m'⟩, h3, h⟩ := opt_elim h
  obtain ⟨h4, rfl⟩ := chk_iff.1 h
  rw [outTL_sk] at h3
  exact ⟨rs, rs', m, r, m', h1, h2, h3, h4, rfl⟩
/-- A function comes to what its text says. -/
theorem fn_rule (hm : P.follows .mixedOrders = true) {ann : Ann} {mv : FuncId → Bool} {fz : Bool} {f : FuncId} {fn : Func} {c : Code} {args : List T} {R : T × List T} (hf : P.funcs[f]? = some fn) (hb : fn.body = some c) (hn : fn.name ≠ "runtime.NumGoroutine")
    (h : vcFn P ann mv fz fn c args R) : Runs P f args R := by
  refine ⟨⟨fn, hf, hn, by rw [hb]; rfl⟩, ?_⟩
  unfold vcFn at h
  cases ho : opnL key0 0 args with
  | mk ts q =>
  obtain ⟨k, u⟩ := q
  rw [ho] at h
  obtain ⟨h1, h⟩ := chk_iff.1 h
  simp only [Bool.and_eq_true] at h1
  refine contract_hold (fz := fz) hf hb ho (Nat.le_of_ble_eq_true h1.1) (Nat.le_of_ble_eq_true h1.2) (fun C0 B a w he hh => ?_)
  exact run_ok hm _ _ _ _ h C0 B a w _ he hh (fun S' a' w' hF hh' => ⟨⟨.inl rfl, S', hh', fin_ends hF⟩, ⟨.inr rfl, S', hh', fin_ends hF⟩⟩)
theorem cutC_rule (hm : P.follows .mixedOrders = true) {ann : Ann} {mv : FuncId → Bool} {fz : Bool} {fn : Func} {c : Code} {path : List Nat} {S : St} {ts : List T} {R : T × List T} (h : vcCut P ann mv fz fn c path S ts R) : CutC P fn c fz path S ts R := ⟨run_ok hm _ _ _ _ h⟩
theorem cutL_rule (hm : P.follows .mixedOrders = true) {ann : Ann} {mv : FuncId → Bool} {fz : Bool} {fn : Func} {c : Code} {path : List Nat} {S : St} {ts : List T} {R : T × List T} (hk : (stkAt path 1 c []).2.2 = .loop (stkAt path 1 c []).1 (stkAt path 1 c []).2.1 :: (stkAt path 1 c []).2.2.tail) (h : vcCut P ann mv fz fn c path S ts R) : CutL P fn c fz path S ts R := by
  refine ⟨fun C0 B a w Q he hh hQ => ?_⟩
  have := run_ok hm _ _ _ _ h C0 B a w Q he hh hQ
  rw [hk] at this
  exact wpL_round this
end
end Go.Proofs.YthcaodlfnlhfbaaDoorT
