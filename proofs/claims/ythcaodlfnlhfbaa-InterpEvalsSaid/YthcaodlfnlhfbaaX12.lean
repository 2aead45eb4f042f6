/- expr.Refs: the whole. -/
import Derived.Test.YthcaodlfnlhfbaaX11
import Derived.Test.YthcaodlfnlhfbaaE8
namespace Go.Proofs.YthcaodlfnlhfbaaT
open Go Go.Proofs Go.RowKit Go.Maps Go.Sort
set_option linter.unusedVariables false
theorem names_le (x : E) : x.names.length ≤ x.nodes := by
  induction x with
  | bin op l r ih1 ih2 => simp only [E.names, E.nodes, List.length_append]; omega
  | not x ih => simp only [E.names, E.nodes]; omega
  | neg x ih => simp only [E.names, E.nodes]; omega
  | _ => simp [E.names, E.nodes]
set_option maxRecDepth 100000 in
set_option maxHeartbeats 4000000 in
theorem refs45 (x : E) (hw : x.wf) (hk : x.ok = true) (w : World) (hG : Glob w (fun k => k < w.heap.size)) :
    Calls Try.prog 27 #[x.val] w fun e w' => Below w.heap.size w w' ∧ ∃ (v : Value) (ss : List (List UInt8)), e = .returned v ∧ ss.Perm (strKeys (Dn x.names)) ∧
      w'.ownsRow w.heap.size 9 1 v ss.length ((ss.mergeSort (fun x y => decide (x ≤ y))).map encStr) := by
  have h43 := calls_of_runs (r25 x hw) w hG
  rw [hk] at h43
  replace h43 : Calls Try.prog 25 #[x.val] w fun e w' => e = .returned (.bool true) ∧ RowKit.Below w.heap.size w w' :=
    h43.mono fun e w' h => by
      obtain ⟨b1, v, bb, ok, rfl, ⟨rfl, hr⟩, hok⟩ := h
      rw [rep_scal hr]
      exact ⟨rfl, b1⟩
  have hmm := @run_makeMap Try.prog
  have hsf : ∀ (a : Addr) (f : Fn) (c1 c2 : Array Value) (w : World) (m : Mode), (store a (.func f c1 c2) m).run Try.prog w = stored Try.prog w a (.func f c1 c2) m := fun a f c1 c2 w m => run_store _ _ _ _ m rfl
  refine (callsIn_wide (n := 6)).1 ?_
  have hfK : Fence.wide.fn 44 := trivial
  have hfS : Fence.wide.fn 43 := trivial
  have hfF : Fence.wide.fn 25 := trivial
  have hfW : Fence.wide.fn 41 := trivial
  refine callsIn_of_wp Try.func27 rfl trivial ?_ rfl
  simp only [Try.ntmps27, List.size_toArray, List.length_cons, List.length_nil, Nat.reduceAdd, Nat.reduceSub, Array.replicate_succ, Array.replicate_zero, List.push_toArray, List.append_toArray, List.nil_append, List.cons_append]
  gi_wp2_with (first
    | (gi_at_call 25; refine ((callsIn_wide (n := 5)).2 h43).mono ?_; rintro e w1 ⟨rfl, b1⟩))
  have bW : RowKit.Below w.heap.size w (((w1.alloc (Obj.map #[] 0)).alloc (Obj.cells #[Value.map (some w1.heap.size)] 113)).alloc (Obj.cells #[Value.func (Fn.func 41) #[] #[pt (w1.heap.size + 1), pt (w1.heap.size + 1 + 1)]] 87)) :=
    ((b1.alloc b1.size _).alloc (by have := b1.size; simp; omega) _).alloc (by have := b1.size; simp; omega) _
  have hI : I65 (((w1.alloc (Obj.map #[] 0)).alloc (Obj.cells #[Value.map (some w1.heap.size)] 113)).alloc (Obj.cells #[Value.func (Fn.func 41) #[] #[pt (w1.heap.size + 1), pt (w1.heap.size + 1 + 1)]] 87)) (w1.heap.size + 1) (w1.heap.size + 1 + 1) w1.heap.size 0 [] := by
    refine ⟨hG.mono fun k hk => ⟨Nat.lt_of_lt_of_le hk bW.size, bW.block k hk⟩, ?_, ?_, ((World.ownsMap_made _ _ _ _).alloc _).alloc _⟩
    · refine (Below.heap_alloc _ _ _ (by simp)).trans ?_
      have := heap_alloc_new (w1.alloc (Obj.map #[] 0)) (Obj.cells #[Value.map (some w1.heap.size)] 113)
      simpa using this
    · have := heap_alloc_new ((w1.alloc (Obj.map #[] 0)).alloc (Obj.cells #[Value.map (some w1.heap.size)] 113)) (Obj.cells #[Value.func (Fn.func 41) #[] #[pt (w1.heap.size + 1), pt (w1.heap.size + 1 + 1)]] 87)
      simpa using this
  have hnm := names_le x
  have hno := (ok_parts hk).1
  refine ((callsIn_wide (n := 5)).2 (w65 x hw _ _ _ _ _ _ hI (by unfold maxLen; omega))).mono ?_
  rintro e w2 ⟨rfl, hI2, g2⟩
  have cN2 := cell_of_one hI2.hn
  have hown := hI2.hm
  have hsz := hown.size_le
  gi_wp2_with (first
    | (gi_at_call 44; refine (maps_Keys_68 _ _).mono ?_; rintro e w' ⟨rfl, rfl⟩)
    | (gi_at_call 43; refine (slices_Sorted_keys_67_68 w1.heap.size _ _ _ w2 hown (by unfold maxLen; omega) (by omega)).mono ?_; rintro e w' ⟨v, ss, rfl, hS, hrow, hnil, hb⟩))
  go_ret
  have hb2 : RowKit.Below w.heap.size w w2 := bW.grown g2 bW.size (fun k hk => by cases hk; exact b1.size)
  refine ⟨(hb2.alloc hb2.size _).trans (hb.mono (by have := hb2.size; simp; omega)), v, ss, rfl, by simpa using hS, ownsRow_base_a hrow (by have := hb2.size; simp; omega)⟩
/-- The names, sorted. -/
def srt (x : E) : List ByteArray := ((strKeys (Dn x.names)).mergeSort fun a b => decide (a ≤ b)).map fun b => ⟨b.toArray⟩
theorem mem_ins {x p : Lit × DU} : ∀ l : List (Lit × DU), p ∈ DataW.insert x l → p = x ∨ p ∈ l
  | [], h => by simpa [DataW.insert] using h
  | y :: r, h => by
    unfold DataW.insert at h
    split at h
    · simpa using h
    · rcases List.mem_cons.1 h with h | h
      · exact .inr (by rw [h]; simp)
      · rcases mem_ins r h with h | h
        · exact .inl h
        · exact .inr (List.mem_cons_of_mem _ h)
theorem keys_put : ∀ (l : List Lit) (D : DU), ((∃ es, D = .map es ∧ ∀ p ∈ es, p.1 ∈ l)) → ∀ (xs : List Lit), ∃ es, xs.foldl (fun m x => m.put x (.lit (.bool true))) D = .map es ∧ ∀ p ∈ es, p.1 ∈ l ++ xs := by
  intro l D h xs
  induction xs generalizing l D with
  | nil => simpa using h
  | cons x xs ih =>
    obtain ⟨es, rfl, hp⟩ := h
    have := ih (l ++ [x]) ((DataW.map es).put x (.lit (.bool true))) ⟨_, rfl, fun p hp' => by
      rcases mem_ins _ hp' with rfl | h
      · simp
      · exact List.mem_append_left _ (hp _ (List.mem_filter.1 h).1)⟩
    simpa using this
theorem isKey_ky (l : List ByteArray) : ∀ x ∈ l.map kyOf, WideAt.IsKeyLit x := by
  intro x hx
  obtain ⟨s, _, rfl⟩ := List.mem_map.1 hx
  exact trivial
theorem mem_keys (l : List ByteArray) (b : List UInt8) : b ∈ strKeys (Dn l) ↔ (⟨b.toArray⟩ : ByteArray) ∈ l := by
  obtain ⟨es, he, hp⟩ := keys_put [] (.map []) ⟨[], rfl, fun p h => by simp at h⟩ (l.map kyOf)
  have hd : Dn l = .map es := he
  have hh := has_setOf (H := Unit) (.lit (.bool true)) (.string b) (l.map kyOf) (isKey_ky l)
  change has (Dn l) _ = _ at hh
  rw [hd] at hh ⊢
  rw [has_eq] at hh
  show b ∈ es.map (fun p => strOf p.1) ↔ _
  constructor
  · intro h
    obtain ⟨p, hpm, rfl⟩ := List.mem_map.1 h
    obtain ⟨s, hs, e⟩ := List.mem_map.1 (by simpa using hp p hpm)
    rw [← e]
    simpa [strOf, kyOf] using hs
  · intro h
    have : (es.any fun p => p.1.sameKey (.string b)) = true := by
      rw [hh, List.any_map, List.any_eq_true]
      exact ⟨_, h, by simp [kyOf, Lit.sameKey]⟩
    obtain ⟨p, hpm, hk⟩ := List.any_eq_true.1 this
    exact List.mem_map.2 ⟨p, hpm, by rw [WideAt.sameKey_eq hk]; rfl⟩
theorem mem_srt (x : E) (t : ByteArray) : t ∈ srt x ↔ t ∈ x.names := by
  have e : ∀ b : List UInt8, (⟨b.toArray⟩ : ByteArray) = t ↔ b = t.data.toList := fun b => by
    constructor
    · rintro rfl; rfl
    · rintro rfl; simp
  simp only [srt, List.mem_map, List.mem_mergeSort, e, exists_eq_right, mem_keys]
theorem addKey_len (xs L : List Lit) : (xs.foldl addKey L).length ≤ L.length + xs.length := by
  induction xs generalizing L with
  | nil => simp
  | cons x xs ih =>
    have h := ih (addKey L x)
    have : (addKey L x).length ≤ L.length + 1 := by unfold addKey; split <;> simp
    simp only [List.foldl_cons, List.length_cons]
    omega
theorem len_srt (x : E) : (srt x).length ≤ x.names.length := by
  have h1 : (srt x).length = (strKeys (Dn x.names)).length := by simp [srt]
  have h2 : (strKeys (Dn x.names)).length = size (Dn x.names) := by
    obtain ⟨es, he, hp⟩ := keys_put [] (.map []) ⟨[], rfl, fun p h => by simp at h⟩ (x.names.map kyOf)
    have hd : Dn x.names = .map es := he
    rw [hd]
    simp [strKeys, size]
  have h3 : size (Dn x.names) = _ := size_setOf (H := Unit) (.lit (.bool true)) (x.names.map kyOf) (isKey_ky _)
  have h4 := addKey_len (x.names.map kyOf) []
  simp only [List.length_map, List.length_nil, Nat.zero_add] at h4
  omega
theorem rep_row {w : World} {ok : Nat → Prop} {base : Nat} {v : Value} {l : List (List UInt8)} (h : w.ownsRow base 9 1 v l.length (l.map encStr)) (hok : ∀ k, base ≤ k → k < w.heap.size → ok k) :
    RepX w ok (.sl 1 ((l.map fun b => (⟨b.toArray⟩ : ByteArray)).map st)) v [] := by
  refine ⟨rfl, ?_⟩
  have hlen : ((l.map fun b => (⟨b.toArray⟩ : ByteArray)).map st).length = (l.map encStr).length := by simp
  have key : ∀ (A : Option Addr) (c : Nat), l.length ≤ c → (l = [] ∨ ∃ ad : Addr, A = some ad ∧ ad.spot = none ∧ ok ad.block ∧ ∀ (j i : Nat) (u cv : Value), (l.map encStr)[j]? = some u → u.cells[i]? = some cv → w.cell? ⟨ad.block, ad.off + (j * 1 + i), none⟩ = some cv) →
      Rep (cctx w ok) (.sl 1 ((l.map fun b => (⟨b.toArray⟩ : ByteArray)).map st)) (.slice A l.length c) := by
    intro A c hc hm
    have := Rep.sl (C := cctx w ok) (sz := 1) (xs := (l.map fun b => (⟨b.toArray⟩ : ByteArray)).map st) (us := l.map encStr) (A := A) (c := c) hlen (by simpa using hc) (fun j x u hx hu => by
      simp only [List.getElem?_map] at hx hu
      cases h0 : l[j]? with
      | none => rw [h0] at hx; simp at hx
      | some b =>
        rw [h0] at hx hu
        simp only [Option.map_some, Option.some.injEq] at hx hu
        subst hx hu
        exact .s rfl) (fun u hu => by
      obtain ⟨b, _, rfl⟩ := List.mem_map.1 hu
      rfl) (by
      rcases hm with rfl | hm
      · left; rfl
      · right; exact hm)
    simpa using this
  obtain ⟨_, ⟨rfl, h0⟩ | ⟨g, cap, cur, rfl, hg, hh, hnc, _, hcs, htk⟩⟩ := h
  · have := key none 0 (by omega) (.inl (List.length_eq_zero_iff.1 h0))
    rwa [h0] at this
  · refine key _ cap hnc (.inr ⟨⟨g, 0, none⟩, rfl, rfl, hok g hg (lt_of_block hh), fun j i u cv hu hc => ?_⟩)
    have hi : i = 0 ∧ u = cv := by
      obtain ⟨b, _, rfl⟩ := List.mem_map.1 (List.mem_of_getElem? hu)
      cases i with
      | zero => exact ⟨rfl, by simpa [encStr, Value.cells] using hc⟩
      | succ i => simp [encStr, Value.cells] at hc
    obtain ⟨rfl, rfl⟩ := hi
    have : cur[j]? = some u := by
      rw [← htk, List.getElem?_take] at hu
      split at hu
      · simpa using hu
      · simp at hu
    simp [World.cell?, hh, this]
theorem refsSaid : RefsSaid := by
  intro x hw hk
  refine ⟨srt x, runs_val ⟨_, Try.func27, by decide, rfl⟩ (fun w hG => (refs45 x hw hk w hG).mono ?_), mem_srt x, ?_⟩
  · rintro e w' ⟨b, v, ss, rfl, hp, hrow⟩
    refine ⟨b, v, rfl, fun ok hok => ?_⟩
    have e : (strKeys (Dn x.names)).mergeSort (fun a b => decide (a ≤ b)) = ss.mergeSort (fun a b => decide (a ≤ b)) := (mergeSort_of_perm hp).symm
    rw [srt, e]
    refine rep_row (base := w.heap.size) ?_ hok
    rw [List.length_mergeSort]
    exact hrow
  · have h1 := len_srt x
    have h2 := names_le x
    have h3 := (ok_parts hk).1
    omega
end Go.Proofs.YthcaodlfnlhfbaaT
