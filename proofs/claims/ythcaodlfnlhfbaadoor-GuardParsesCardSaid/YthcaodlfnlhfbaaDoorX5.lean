/- The library's numbers out of texts, at base 10 and 63 bits. -/
import Derived.Test.YthcaodlfnlhfbaaDoorX3
import Derived.Test.YthcaodlfnlhfbaaDoorX4
import Derived.Test.YthcaodlfnlhfbaaDoorG4
import Derived.Shelf.Strconv.ToError
import Derived.Shelf.Strconv.ToErrorRange
import Derived.Shelf.Strconv.ParseUintEmpty
namespace Go.Proofs
open Go.Shelf Go.RowKit Go.Lib
def Tryd.laysPU_ren : Go.Shelf.Ren := ⟨fun | 287 => 115 | 321 => 132 | 322 => 133 | n => n, fun | 9 => 9 | 3 => 3 | 53 => 164 | 75 => 160 | 4 => 4 | 167 => 185 | 5 => 5 | 46 => 155 | 37 => 190 | 0 => 0 | 21 => 21 | 80 => 219 | n => n, fun | n => n⟩
theorem Tryd.laysPU : Go.Proofs.Lays.n287 Tryd.prog Tryd.laysPU_ren where
  mixed := by kernel_rfl
  f287 := Tryd.func115.trans (congrArg some (by kernel_rfl))
  f321 := Tryd.func132.trans (congrArg some (by kernel_rfl))
  f322 := Tryd.func133.trans (congrArg some (by kernel_rfl))
  t0 := Tryd.underlying0
  a0 := Tryd.isAgg0
  z0 := Tryd.sizeOf0
  v0 := Tryd.zeroValue0
  t3 := Tryd.underlying3
  a3 := Tryd.isAgg3
  z3 := Tryd.sizeOf3
  v3 := Tryd.zeroValue3
  t4 := Tryd.underlying4
  a4 := Tryd.isAgg4
  z4 := Tryd.sizeOf4
  v4 := Tryd.zeroValue4
  t5 := Tryd.underlying5
  a5 := Tryd.isAgg5
  z5 := Tryd.sizeOf5
  v5 := Tryd.zeroValue5
  t9 := Tryd.underlying9
  a9 := Tryd.isAgg9
  z9 := Tryd.sizeOf9
  v9 := Tryd.zeroValue9
  t21 := Tryd.underlying21
  a21 := Tryd.isAgg21
  z21 := Tryd.sizeOf21
  v21 := Tryd.zeroValue21
  t37 := Tryd.underlying190
  a37 := Tryd.isAgg190
  z37 := Tryd.sizeOf190
  v37 := Tryd.zeroValue190
  t46 := Tryd.underlying155
  a46 := Tryd.isAgg155
  z46 := Tryd.sizeOf155
  v46 := Tryd.zeroValue155
  t53 := Tryd.underlying164
  a53 := Tryd.isAgg164
  z53 := Tryd.sizeOf164
  v53 := Tryd.zeroValue164
  t75 := Tryd.underlying160
  a75 := Tryd.isAgg160
  z75 := Tryd.sizeOf160
  v75 := Tryd.zeroValue160
  t167 := Tryd.underlying185
  a167 := Tryd.isAgg185
  z167 := Tryd.sizeOf185
  v167 := Tryd.zeroValue185
def Tryd.laysTE_ren : Go.Shelf.Ren := ⟨fun | 245 => 114 | 279 => 128 | 280 => 129 | 281 => 130 | 282 => 131 | 316 => 144 | 171 => 146 | 205 => 145 | 243 => 152 | 246 => 155 | 283 => 134 | 284 => 135 | 285 => 136 | 286 => 137 | 129 => 127 | 317 => 147 | 318 => 148 | 319 => 149 | 320 => 150 | 337 => 153 | 338 => 154 | n => n, fun | 9 => 9 | 3 => 3 | 75 => 160 | 167 => 185 | 4 => 4 | 168 => 186 | 210 => 204 | 37 => 190 | 0 => 0 | 127 => 212 | 145 => 215 | 143 => 213 | 2 => 2 | 171 => 192 | 53 => 164 | 5 => 5 | 173 => 194 | 212 => 207 | 51 => 183 | 20 => 20 | 213 => 208 | 46 => 155 | 232 => 217 | 233 => 218 | 80 => 219 | n => n, fun | 15 => 2 | 16 => 3 | 17 => 4 | 18 => 5 | 19 => 6 | n => n⟩
theorem Tryd.laysTE : Go.Proofs.LaysC.n245 Tryd.prog Tryd.laysTE_ren where
  mixed := by kernel_rfl
  f129 := Tryd.func127.trans (congrArg some (by kernel_rfl))
  f171 := Tryd.func146.trans (congrArg some (by kernel_rfl))
  f205 := Tryd.func145.trans (congrArg some (by kernel_rfl))
  f243 := Tryd.func152.trans (congrArg some (by kernel_rfl))
  f245 := Tryd.func114.trans (congrArg some (by kernel_rfl))
  f246 := Tryd.func155.trans (congrArg some (by kernel_rfl))
  f279 := Tryd.func128.trans (congrArg some (by kernel_rfl))
  f280 := Tryd.func129.trans (congrArg some (by kernel_rfl))
  f281 := Tryd.func130.trans (congrArg some (by kernel_rfl))
  f282 := Tryd.func131.trans (congrArg some (by kernel_rfl))
  f283 := Tryd.func134.trans (congrArg some (by kernel_rfl))
  f284 := Tryd.func135.trans (congrArg some (by kernel_rfl))
  f285 := Tryd.func136.trans (congrArg some (by kernel_rfl))
  f286 := Tryd.func137.trans (congrArg some (by kernel_rfl))
  f316 := Tryd.func144.trans (congrArg some (by kernel_rfl))
  f317 := Tryd.func147.trans (congrArg some (by kernel_rfl))
  f318 := Tryd.func148.trans (congrArg some (by kernel_rfl))
  f319 := Tryd.func149.trans (congrArg some (by kernel_rfl))
  f320 := Tryd.func150.trans (congrArg some (by kernel_rfl))
  f337 := Tryd.func153.trans (congrArg some (by kernel_rfl))
  f338 := Tryd.func154.trans (congrArg some (by kernel_rfl))
  t0 := Tryd.underlying0
  a0 := Tryd.isAgg0
  z0 := Tryd.sizeOf0
  v0 := Tryd.zeroValue0
  t2 := Tryd.underlying2
  a2 := Tryd.isAgg2
  z2 := Tryd.sizeOf2
  v2 := Tryd.zeroValue2
  t3 := Tryd.underlying3
  a3 := Tryd.isAgg3
  z3 := Tryd.sizeOf3
  v3 := Tryd.zeroValue3
  t4 := Tryd.underlying4
  a4 := Tryd.isAgg4
  z4 := Tryd.sizeOf4
  v4 := Tryd.zeroValue4
  t5 := Tryd.underlying5
  a5 := Tryd.isAgg5
  z5 := Tryd.sizeOf5
  v5 := Tryd.zeroValue5
  t9 := Tryd.underlying9
  a9 := Tryd.isAgg9
  z9 := Tryd.sizeOf9
  v9 := Tryd.zeroValue9
  t20 := Tryd.underlying20
  a20 := Tryd.isAgg20
  z20 := Tryd.sizeOf20
  v20 := Tryd.zeroValue20
  t37 := Tryd.underlying190
  a37 := Tryd.isAgg190
  z37 := Tryd.sizeOf190
  v37 := Tryd.zeroValue190
  t46 := Tryd.underlying155
  a46 := Tryd.isAgg155
  z46 := Tryd.sizeOf155
  v46 := Tryd.zeroValue155
  t51 := Tryd.underlying183
  a51 := Tryd.isAgg183
  z51 := Tryd.sizeOf183
  v51 := Tryd.zeroValue183
  t53 := Tryd.underlying164
  a53 := Tryd.isAgg164
  z53 := Tryd.sizeOf164
  v53 := Tryd.zeroValue164
  t75 := Tryd.underlying160
  a75 := Tryd.isAgg160
  z75 := Tryd.sizeOf160
  v75 := Tryd.zeroValue160
  t127 := Tryd.underlying212
  a127 := Tryd.isAgg212
  z127 := Tryd.sizeOf212
  v127 := Tryd.zeroValue212
  t143 := Tryd.underlying213
  a143 := Tryd.isAgg213
  z143 := Tryd.sizeOf213
  v143 := Tryd.zeroValue213
  t145 := Tryd.underlying215
  a145 := Tryd.isAgg215
  z145 := Tryd.sizeOf215
  v145 := Tryd.zeroValue215
  t167 := Tryd.underlying185
  a167 := Tryd.isAgg185
  z167 := Tryd.sizeOf185
  v167 := Tryd.zeroValue185
  t168 := Tryd.underlying186
  a168 := Tryd.isAgg186
  z168 := Tryd.sizeOf186
  v168 := Tryd.zeroValue186
  t171 := Tryd.underlying192
  a171 := Tryd.isAgg192
  z171 := Tryd.sizeOf192
  v171 := Tryd.zeroValue192
  t173 := Tryd.underlying194
  a173 := Tryd.isAgg194
  z173 := Tryd.sizeOf194
  v173 := Tryd.zeroValue194
  t210 := Tryd.underlying204
  a210 := Tryd.isAgg204
  z210 := Tryd.sizeOf204
  v210 := Tryd.zeroValue204
  t212 := Tryd.underlying207
  a212 := Tryd.isAgg207
  z212 := Tryd.sizeOf207
  v212 := Tryd.zeroValue207
  t213 := Tryd.underlying208
  a213 := Tryd.isAgg208
  z213 := Tryd.sizeOf208
  t232 := Tryd.underlying217
  a232 := Tryd.isAgg217
  z232 := Tryd.sizeOf217
  v232 := Tryd.zeroValue217
  t233 := Tryd.underlying218
  a233 := Tryd.isAgg218
  z233 := Tryd.sizeOf218
  v233 := Tryd.zeroValue218
  g15 := by kernel_rfl
  g16 := by kernel_rfl
  g17 := by kernel_rfl
  g18 := by kernel_rfl
  g19 := by kernel_rfl
  t80 := Tryd.underlying219
  a80 := Tryd.isAgg219
  z80 := Tryd.sizeOf219
  v80 := Tryd.zeroValue219
  i0 := by kernel_rfl
  i2 := by kernel_rfl
  i3 := by kernel_rfl
  i4 := by kernel_rfl
  i5 := by kernel_rfl
  i9 := by kernel_rfl
  i20 := by kernel_rfl
  i37 := by kernel_rfl
  i46 := by kernel_rfl
  i51 := by kernel_rfl
  i53 := by kernel_rfl
  i75 := by kernel_rfl
  i80 := by kernel_rfl
  i127 := by kernel_rfl
  i143 := by kernel_rfl
  i145 := by kernel_rfl
  i167 := by kernel_rfl
  i168 := by kernel_rfl
  i171 := by kernel_rfl
  i173 := by kernel_rfl
  i210 := by kernel_rfl
  i212 := by kernel_rfl
  i232 := by kernel_rfl
  i233 := by kernel_rfl
  m15 := by kernel_rfl
  m16 := by kernel_rfl
  m17 := by kernel_rfl
  m18 := by kernel_rfl
  m19 := by kernel_rfl
  c0 := by kernel_rfl
  c2 := by kernel_rfl
  c3 := by kernel_rfl
  c4 := by kernel_rfl
  c5 := by kernel_rfl
  c9 := by kernel_rfl
  c20 := by kernel_rfl
  c37 := by kernel_rfl
  c46 := by kernel_rfl
  c51 := by kernel_rfl
  c53 := by kernel_rfl
  c75 := by kernel_rfl
  c80 := by kernel_rfl
  c127 := by kernel_rfl
  c143 := by kernel_rfl
  c145 := by kernel_rfl
  c167 := by kernel_rfl
  c168 := by kernel_rfl
  c171 := by kernel_rfl
  c173 := by kernel_rfl
  c210 := by kernel_rfl
  c212 := by kernel_rfl
  c213 := by kernel_rfl
  c232 := by kernel_rfl
  c233 := by kernel_rfl
namespace YthcaodlfnlhfbaaDoorT
set_option linter.unusedVariables false
/-- What the inner function tells. -/
def pu (s : ByteArray) : NumEnd Nat := if s.size = 0 then NumEnd.syntax else Lib.parseUintM 9223372036854775807 0 s.data.toList
theorem inner (s : ByteArray) (hs : s.size ≤ 140737488355328) (w : World) :
    Calls Tryd.prog 115 #[.string s, .int .i64 10, .int .i64 63] w fun e w' => e = .returned (Lib.uintTupleM 185 9223372036854775807 (pu s)) ∧ Below w.heap.size w w' := by
  by_cases h0 : s.size = 0
  · have hs : s = ⟨#[]⟩ := ByteArray.ext (Array.eq_empty_of_size_eq_zero h0)
    rw [pu, if_pos h0]
    subst hs
    exact (Any.internal_strconv_ParseUint_empty Tryd.laysPU 10 63 w).mono fun e w' ⟨he, hw⟩ => ⟨he, by subst hw; exact Below.refl _ _⟩
  · rw [pu, if_neg h0]
    exact (parseUint63 Tryd.laysPU s h0 (by omega) w).mono fun e w' ⟨he, hw⟩ => ⟨he, by subst hw; exact Lib.bytesWorld_below _ _ _⟩
theorem cell_glob {w : World} {ok : Nat → Prop} (h : Glob w ok) : (∃ t p, w.cell? ⟨2, 0, none⟩ = some (.iface t p)) ∧ ∃ t p, w.cell? ⟨3, 0, none⟩ = some (.iface t p) := by
  obtain ⟨cs, t, z, h1, h2⟩ := glob_at h mem_syn
  obtain ⟨cs', t', z', h1', h2'⟩ := glob_at h mem_rng
  obtain ⟨a, b, e⟩ := h2
  obtain ⟨a', b', e'⟩ := h2'
  exact ⟨⟨a, b, by rw [cell_at h1]; exact e⟩, a', b', by rw [cell_at h1']; exact e'⟩
/-- The error that is told. -/
theorem toErr (s : ByteArray) (hs : s.size ≤ 140737488355328) (n : Int) (hn : n = 2 ∨ n = 1) (w : World) (hG : Glob w (fun k => k < w.heap.size)) :
    Calls Tryd.prog 114 #[.string ⟨#[80, 97, 114, 115, 101, 85, 105, 110, 116]⟩, .string s, .int .i64 10, .int .i64 63, .iface 185 (.int .i64 n)] w fun e w' => (∃ v, e = .returned (.iface 186 v)) ∧ Below w.heap.size w w' := by
  obtain ⟨⟨t, p, h1⟩, t', p', h2⟩ := cell_glob hG
  rcases hn with rfl | rfl
  · exact (Any.strconv_toError_syntax Tryd.laysTE _ s 10 63 _ w (by omega) h1 (.inr ⟨t, p, rfl⟩)).mono fun e w' ⟨N, he, _, _, hb⟩ => ⟨⟨_, he⟩, hb⟩
  · exact (Any.strconv_toError_range Tryd.laysTE _ s 10 63 _ w (by omega) h2 (.inr ⟨t', p', rfl⟩)).mono fun e w' ⟨N, he, _, _, hb⟩ => ⟨⟨_, he⟩, hb⟩
set_option maxHeartbeats 4000000 in
set_option maxRecDepth 100000 in
theorem parse_ok (s : ByteArray) (hs : s.size ≤ 140737488355328) (v : Nat) (h : pu s = .ok v) (w : World) :
    Calls Tryd.prog 105 #[.string s, .int .i64 10, .int .i64 63] w fun e w' => e = .returned (.tuple #[.int .u64 v, .nilIface]) ∧ Below w.heap.size w w' := by
  have hI := inner s hs w
  rw [h] at hI
  have hI : Calls Tryd.prog 115 #[.string s, .int .i64 10, .int .i64 63] w fun e w' => e = .returned (.tuple #[.int .u64 v, .nilIface]) ∧ Below w.heap.size w w' := hI
  clear h
  go_enter Tryd.func105, Tryd.ntmps105
  go_wp2_with (go_at_call 115; refine hI.mono ?_; rintro e W1 ⟨rfl, hW⟩)
  go_wp2
  go_ret2
  exact ⟨rfl, hW⟩
set_option maxHeartbeats 4000000 in
set_option maxRecDepth 100000 in
theorem parse_err (s : ByteArray) (hs : s.size ≤ 140737488355328) (m n : Int) (hn : n = 2 ∨ n = 1) (w : World) (hG : Glob w (fun k => k < w.heap.size))
    (hI : Calls Tryd.prog 115 #[.string s, .int .i64 10, .int .i64 63] w fun e w' => e = .returned (.tuple #[.int .u64 m, .iface 185 (.int .i64 n)]) ∧ Below w.heap.size w w') :
    Calls Tryd.prog 105 #[.string s, .int .i64 10, .int .i64 63] w fun e w' => (∃ v, e = .returned (.tuple #[.int .u64 m, .iface 186 v])) ∧ Below w.heap.size w w' := by
  go_enter Tryd.func105, Tryd.ntmps105
  go_wp2_with (go_at_call 115; refine hI.mono ?_)
  rintro e W1 ⟨rfl, hb1⟩
  have hG1 : Glob W1 (fun k => k < W1.heap.size) := hG.mono fun k hk => ⟨Nat.lt_of_lt_of_le hk hb1.size, hb1.block k hk⟩
  have hE := toErr s hs n hn W1 hG1
  go_wp2_with (go_at_call 114; refine hE.mono ?_)
  rintro e W2 ⟨⟨v, rfl⟩, h3⟩
  go_wp2
  go_ret2
  exact ⟨⟨v, rfl⟩, hb1.trans (h3.mono hb1.size)⟩
theorem pu_spec : ∀ (l : List UInt8) (a : Nat), a ≤ 9223372036854775807 → (∀ v, Lib.parseUintM 9223372036854775807 a l = .ok v → dgt a l = some v ∧ v ≤ 9223372036854775807) ∧
    (∀ v, dgt a l = some v → v ≤ 9223372036854775807 → Lib.parseUintM 9223372036854775807 a l = .ok v)
  | [], a, ha => ⟨fun v h => by simp [Lib.parseUintM] at h; subst h; exact ⟨rfl, ha⟩, fun v h _ => by simp [dgt] at h; subst h; rfl⟩
  | c :: r, a, ha => by
    rw [Lib.parseUintM, dgt]
    split
    · rename_i hd
      have e : a * 10 + (c.toNat - 48) = 10 * a + (c.toNat - 48) := by omega
      rw [e]
      split
      · rename_i hc
        refine ⟨fun v h => (by cases h), fun v h hv => ?_⟩
        have := dgt_ge _ _ _ h
        omega
      · split
        · rename_i hc hm
          refine ⟨fun v h => (by cases h), fun v h hv => ?_⟩
          have := dgt_ge _ _ _ h
          omega
        · exact pu_spec r _ (by omega)
    · exact ⟨fun v h => (by cases h), fun v h => (by cases h)⟩
theorem runs105 (t : ByteArray) (hs : t.size ≤ 140737488355328) : ∃ (n : Int) (e : IfV), Rn 105 [st t, i64 10, i64 63] (.tup [.s (.int .u64 n), e.v], [.dead, .dead, .dead]) ∧
    ((∃ v : Nat, dgt 0 (bl t) = some v ∧ bl t ≠ [] ∧ v ≤ 9223372036854775807 ∧ n = v ∧ e.t = 0) ∨ ((¬ ∃ v : Nat, dgt 0 (bl t) = some v ∧ bl t ≠ [] ∧ v ≤ 9223372036854775807) ∧ e.t ≠ 0)) := by
  have hl := bl_len t
  have sp := pu_spec (bl t) 0 (by omega)
  have hent : Enters Tryd.prog 105 := ⟨Tryd.f105, Tryd.func105, by decide, by kernel_rfl⟩
  have errs : ∀ (m k : Int), (k = 2 ∨ k = 1) → (∀ w : World, Calls Tryd.prog 115 #[.string t, .int .i64 10, .int .i64 63] w fun e w' => e = .returned (.tuple #[.int .u64 m, .iface 185 (.int .i64 k)]) ∧ Below w.heap.size w w') →
      Rn 105 [st t, i64 10, i64 63] (.tup [.s (.int .u64 m), (⟨186, .dead⟩ : IfV).v], [.dead, .dead, .dead]) := fun m k hk hI =>
    runs_of_calls (us := [.string t, .int .i64 10, .int .i64 63]) hent (by simp [plainV]) fun w hG =>
      (parse_err t hs m k hk w hG (hI w)).mono fun e w' ⟨⟨v, he⟩, hb⟩ => ⟨hb, _, he, fun ok => X_pair (X_s rfl) (X_if (by decide) v)⟩
  have hbad : (∀ v, pu t ≠ .ok v) → ¬ ∃ v : Nat, dgt 0 (bl t) = some v ∧ bl t ≠ [] ∧ v ≤ 9223372036854775807 := by
    rintro h ⟨v, h1, h2, h3⟩
    refine h v ?_
    rw [pu, if_neg (fun e => h2 (List.eq_nil_of_length_eq_zero (by omega)))]
    exact sp.2 v h1 h3
  match hp : pu t with
  | NumEnd.ok v =>
    have h0 : t.size ≠ 0 := fun e => by rw [pu, if_pos e] at hp; cases hp
    refine ⟨v, ⟨0, .dead⟩, runs_of_calls (us := [.string t, .int .i64 10, .int .i64 63]) hent (by simp [plainV]) fun w hG =>
      (parse_ok t hs v hp w).mono fun e w' ⟨he, hb⟩ => ⟨hb, _, he, fun ok => X_pair (X_s rfl) X_nilI⟩, .inl ⟨v, ?_⟩⟩
    rw [pu, if_neg h0] at hp
    have := sp.1 v hp
    exact ⟨this.1, fun e => h0 (by rw [← hl, e]; rfl), this.2, rfl, rfl⟩
  | NumEnd.syntax =>
    refine ⟨0, ⟨186, .dead⟩, errs 0 2 (.inl rfl) (fun w => ?_), .inr ⟨hbad (fun v h => by rw [hp] at h; cases h), by decide⟩⟩
    have hI := inner t hs w
    rw [hp] at hI
    exact hI
  | NumEnd.range =>
    refine ⟨9223372036854775807, ⟨186, .dead⟩, errs _ 1 (.inr rfl) (fun w => ?_), .inr ⟨hbad (fun v h => by rw [hp] at h; cases h), by decide⟩⟩
    have hI := inner t hs w
    rw [hp] at hI
    exact hI
end YthcaodlfnlhfbaaDoorT
end Go.Proofs
