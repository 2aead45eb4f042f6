/- interp.Run, as the interpreter takes it. -/
import Derived.Test.YthcaodlfnlhfbaaY5
namespace Go.Proofs.YthcaodlfnlhfbaaT
open Go Go.Proofs Go.RowKit
set_option linter.unusedVariables false
theorem rep_agg2 {C : Ctx} {x y : T} {v : Value} (h : Rep C (.agg [x, y]) v) : ∃ a b, v = .agg #[a, b] ∧ Rep C x a ∧ Rep C y b := by
  obtain ⟨vs, rfl, hl, hc, _⟩ := h.agg_parts
  match vs, hl with
  | [a, b], _ => exact ⟨a, b, rfl, hc 0 x a rfl rfl, hc 1 y b rfl rfl⟩
theorem run_rn (code : List In) (vs s2 : List Int) (e2 : Int) (hT : Tr code vs s2 e2 0 []) (hne : 1 ≤ code.length) (hlen : code.length ≤ 1000) (h1 : e2 = 0 → s2.length = 1) :
    Rn 15 [.sl 2 (iv code), .sl 1 (vs.map fun n => i64 n)] (.tup [i64 (if e2 = 0 then s2.headD 0 else 0), i64 e2], [.dead, .dead]) := by
  refine ⟨⟨_, Try.func15, by decide, rfl⟩, fun w ok vals b hx hnd hb hok hG => ?_⟩
  obtain ⟨u, us, b1, b2, rfl, rfl, ⟨rfl, hu⟩, u2, us2, b3, b4, rfl, rfl, ⟨rfl, hu2⟩, rfl, rfl⟩ := hx
  obtain ⟨A, c, rfl, hc, hm⟩ := hu.sl_row
  obtain ⟨A2, c2, rfl, hc2, hm2⟩ := hu2.sl_row
  obtain ⟨ad, rfl, hs, hok', ws, hra, hsz, hcell⟩ := hm.resolve_left (fun e => by
    have h0 : (iv code).length = 0 := by rw [e]; rfl
    have h2 : (iv code).length = code.length := by simp [iv]
    omega)
  have hok'' := hok _ hok'
  obtain ⟨blk, off, sp⟩ := ad
  simp only at hs hok'' hcell
  subst hs
  have hcells : ∀ (k : Nat) (i : In), code[k]? = some i → w.cell? ⟨blk, off + k * 2, none⟩ = some (.string i.fOp) ∧ w.cell? ⟨blk, off + k * 2 + 1, none⟩ = some (vi i.fN) := by
    intro k i hi
    obtain ⟨x, hx, hr⟩ := hra.get (j := k) (x := i.t) (by rw [iv, List.getElem?_map, hi]; rfl)
    obtain ⟨a, bb, rfl, ha, hbb⟩ := rep_agg2 hr
    rw [rep_scal ha, rep_scal hbb] at hx
    have q0 : w.cell? ⟨blk, off + (k * 2 + 0), none⟩ = some (.string i.fOp) := hcell k 0 _ _ hx rfl
    have q1 : w.cell? ⟨blk, off + (k * 2 + 1), none⟩ = some (vi i.fN) := hcell k 1 _ _ hx rfl
    exact ⟨by simpa using q0, by simpa [Nat.add_assoc] using q1⟩
  have hv : VR w w.heap.size A2 vs := by
    rcases hm2 with h | ⟨ad, rfl, hs, hok2, ws2, hra2, hsz2, hcell2⟩
    · left
      simpa using h
    · have hok3 := hok _ hok2
      obtain ⟨blk2, off2, sp2⟩ := ad
      simp only at hs hok3 hcell2
      subst hs
      refine .inr ⟨blk2, off2, rfl, hok3, fun k x hk => ?_⟩
      obtain ⟨y, hy, hr⟩ := hra2.get (j := k) (x := i64 x) (by rw [List.getElem?_map, hk]; rfl)
      rw [rep_scal hr] at hy
      have q0 : w.cell? ⟨blk2, off2 + (k * 1 + 0), none⟩ = some (vi x) := hcell2 k 0 _ _ hy rfl
      simpa using q0
  have := run15 code vs s2 e2 hT hlen h1 w blk off c hcells hok'' A2 c2 hv
  rw [show (iv code).length = code.length by simp [iv], show (vs.map fun n => i64 n).length = vs.length by simp]
  refine this.mono ?_
  rintro ex w' ⟨rfl, hbel⟩
  exact ⟨_, [], [], rfl, .nil, by simp, ⟨hbel.os, hbel.tape, hbel.output, hbel.size, fun k hk _ => hbel.block k hk⟩, ⟨_, rfl, _, _, [], [], rfl, rfl, ⟨rfl, .s rfl⟩, _, _, [], [], rfl, rfl, ⟨rfl, .s rfl⟩, rfl, rfl⟩, ⟨_, _, [], [], rfl, rfl, rfl, _, _, [], [], rfl, rfl, rfl, rfl, rfl⟩⟩
end Go.Proofs.YthcaodlfnlhfbaaT
