/- The library's functions on texts, at what the program asks of them (the shelf's contracts; Split and Cut at one byte). -/
import Derived.Test.YtgfaadooijngnaaDoorT27
import Derived.Test.YtgfaadooijngnaaDoorProg
import Derived.Shelf.Strings.SplitCore
import Derived.Shelf.Strings.Search3
import Derived.Shelf.Strings.Count
import Derived.Shelf.Strings.Cut
import Derived.Shelf.Small.Wraps
import Derived.Shelf.Strconv.AtoiAll
import Derived.Shelf.Strconv.Itoa3
import Derived.Lib.SplitLaws
import Derived.Lib.CutLaws
import Derived.Lib.IndexBytes
import Derived.Lib.AppendIntMem
import Derived.Lib.AtoiErrMem
namespace Go.Proofs
open Go.Shelf Go.RowKit Go.Sort Go.Lib
def Tryd.laysSplit_ren : Go.Shelf.Ren := ⟨fun | 146 => 11 | 221 => 22 | 268 => 33 | 138 => 34 | 143 => 35 | 195 => 43 | 197 => 41 | 218 => 44 | 219 => 45 | 260 => 52 | 217 => 54 | 225 => 55 | 224 => 56 | 267 => 57 | 266 => 65 | 314 => 66 | n => n, fun | 9 => 9 | 31 => 23 | 3 => 3 | 4 => 4 | 0 => 0 | 105 => 60 | 21 => 21 | 5 => 5 | 46 => 80 | 119 => 93 | 139 => 96 | 138 => 95 | 146 => 98 | 51 => 97 | n => n, fun | 1 => 0 | 3 => 3 | 4 => 4 | n => n⟩
theorem Tryd.laysSplit : Go.Proofs.Lays.n146 Tryd.prog Tryd.laysSplit_ren where
  mixed := by kernel_rfl
  f138 := Tryd.func34.trans (congrArg some (by kernel_rfl))
  f143 := Tryd.func35.trans (congrArg some (by kernel_rfl))
  f146 := Tryd.func11.trans (congrArg some (by kernel_rfl))
  f195 := Tryd.func43.trans (congrArg some (by kernel_rfl))
  f197 := Tryd.func41.trans (congrArg some (by kernel_rfl))
  f217 := Tryd.func54.trans (congrArg some (by kernel_rfl))
  f218 := Tryd.func44.trans (congrArg some (by kernel_rfl))
  f219 := Tryd.func45.trans (congrArg some (by kernel_rfl))
  f221 := Tryd.func22.trans (congrArg some (by kernel_rfl))
  f224 := Tryd.func56.trans (congrArg some (by kernel_rfl))
  f225 := Tryd.func55.trans (congrArg some (by kernel_rfl))
  f260 := Tryd.func52.trans (congrArg some (by kernel_rfl))
  f266 := Tryd.func65.trans (congrArg some (by kernel_rfl))
  f267 := Tryd.func57.trans (congrArg some (by kernel_rfl))
  f268 := Tryd.func33.trans (congrArg some (by kernel_rfl))
  f314 := Tryd.func66.trans (congrArg some (by kernel_rfl))
  t0 := Tryd.underlying0
  a0 := Tryd.isAgg0
  z0 := Tryd.sizeOf0
  v0 := Tryd.zeroValue0
  t3 := Tryd.underlying3
  a3 := Tryd.isAgg3
  z3 := Tryd.sizeOf3
  v3 := Tryd.zeroValue3
  t4 := Tryd.underlying4
  a4 := Tryd.isAgg4
  z4 := Tryd.sizeOf4
  v4 := Tryd.zeroValue4
  t5 := Tryd.underlying5
  a5 := Tryd.isAgg5
  z5 := Tryd.sizeOf5
  v5 := Tryd.zeroValue5
  t9 := Tryd.underlying9
  a9 := Tryd.isAgg9
  z9 := Tryd.sizeOf9
  v9 := Tryd.zeroValue9
  t21 := Tryd.underlying21
  a21 := Tryd.isAgg21
  z21 := Tryd.sizeOf21
  v21 := Tryd.zeroValue21
  t31 := Tryd.underlying23
  a31 := Tryd.isAgg23
  z31 := Tryd.sizeOf23
  v31 := Tryd.zeroValue23
  t46 := Tryd.underlying80
  a46 := Tryd.isAgg80
  z46 := Tryd.sizeOf80
  v46 := Tryd.zeroValue80
  t51 := Tryd.underlying97
  a51 := Tryd.isAgg97
  z51 := Tryd.sizeOf97
  v51 := Tryd.zeroValue97
  t105 := Tryd.underlying60
  a105 := Tryd.isAgg60
  z105 := Tryd.sizeOf60
  v105 := Tryd.zeroValue60
  t119 := Tryd.underlying93
  a119 := Tryd.isAgg93
  z119 := Tryd.sizeOf93
  t138 := Tryd.underlying95
  a138 := Tryd.isAgg95
  z138 := Tryd.sizeOf95
  v138 := Tryd.zeroValue95
  t139 := Tryd.underlying96
  a139 := Tryd.isAgg96
  z139 := Tryd.sizeOf96
  v139 := Tryd.zeroValue96
  t146 := Tryd.underlying98
  a146 := Tryd.isAgg98
  z146 := Tryd.sizeOf98
  v146 := Tryd.zeroValue98
  g1 := by kernel_rfl
  g3 := by kernel_rfl
  g4 := by kernel_rfl
def Tryd.laysCut_ren : Go.Shelf.Ren := ⟨fun | 145 => 27 | 220 => 40 | 219 => 45 | 217 => 54 | 225 => 55 | 224 => 56 | 267 => 57 | 266 => 65 | 314 => 66 | n => n, fun | 9 => 9 | 4 => 4 | 59 => 54 | 3 => 3 | 5 => 5 | 46 => 80 | 146 => 98 | 51 => 97 | n => n, fun | 1 => 0 | n => n⟩
theorem Tryd.laysCut : Go.Proofs.Lays.n145 Tryd.prog Tryd.laysCut_ren where
  mixed := by kernel_rfl
  f145 := Tryd.func27.trans (congrArg some (by kernel_rfl))
  f217 := Tryd.func54.trans (congrArg some (by kernel_rfl))
  f219 := Tryd.func45.trans (congrArg some (by kernel_rfl))
  f220 := Tryd.func40.trans (congrArg some (by kernel_rfl))
  f224 := Tryd.func56.trans (congrArg some (by kernel_rfl))
  f225 := Tryd.func55.trans (congrArg some (by kernel_rfl))
  f266 := Tryd.func65.trans (congrArg some (by kernel_rfl))
  f267 := Tryd.func57.trans (congrArg some (by kernel_rfl))
  f314 := Tryd.func66.trans (congrArg some (by kernel_rfl))
  t3 := Tryd.underlying3
  a3 := Tryd.isAgg3
  z3 := Tryd.sizeOf3
  v3 := Tryd.zeroValue3
  t4 := Tryd.underlying4
  a4 := Tryd.isAgg4
  z4 := Tryd.sizeOf4
  v4 := Tryd.zeroValue4
  t5 := Tryd.underlying5
  a5 := Tryd.isAgg5
  z5 := Tryd.sizeOf5
  v5 := Tryd.zeroValue5
  t9 := Tryd.underlying9
  a9 := Tryd.isAgg9
  z9 := Tryd.sizeOf9
  v9 := Tryd.zeroValue9
  t46 := Tryd.underlying80
  a46 := Tryd.isAgg80
  z46 := Tryd.sizeOf80
  v46 := Tryd.zeroValue80
  t51 := Tryd.underlying97
  a51 := Tryd.isAgg97
  z51 := Tryd.sizeOf97
  v51 := Tryd.zeroValue97
  t59 := Tryd.underlying54
  a59 := Tryd.isAgg54
  z59 := Tryd.sizeOf54
  v59 := Tryd.zeroValue54
  t146 := Tryd.underlying98
  a146 := Tryd.isAgg98
  z146 := Tryd.sizeOf98
  v146 := Tryd.zeroValue98
  g1 := by kernel_rfl
def Tryd.laysCutPrefix_ren : Go.Shelf.Ren := ⟨fun | 103 => 10 | 210 => 21 | 206 => 32 | n => n, fun | 9 => 9 | 4 => 4 | 24 => 30 | 3 => 3 | n => n, fun | n => n⟩
theorem Tryd.laysCutPrefix : Go.Proofs.Lays.n103 Tryd.prog Tryd.laysCutPrefix_ren where
  mixed := by kernel_rfl
  f103 := Tryd.func10.trans (congrArg some (by kernel_rfl))
  f206 := Tryd.func32.trans (congrArg some (by kernel_rfl))
  f210 := Tryd.func21.trans (congrArg some (by kernel_rfl))
  t3 := Tryd.underlying3
  a3 := Tryd.isAgg3
  z3 := Tryd.sizeOf3
  v3 := Tryd.zeroValue3
  t4 := Tryd.underlying4
  a4 := Tryd.isAgg4
  z4 := Tryd.sizeOf4
  v4 := Tryd.zeroValue4
  t9 := Tryd.underlying9
  a9 := Tryd.isAgg9
  z9 := Tryd.sizeOf9
  v9 := Tryd.zeroValue9
  t24 := Tryd.underlying30
  a24 := Tryd.isAgg30
  z24 := Tryd.sizeOf30
  v24 := Tryd.zeroValue30
def Tryd.laysAtoi_ren : Go.Shelf.Ren := ⟨fun | 172 => 23 | 244 => 36 | 245 => 37 | 247 => 46 | 279 => 47 | 280 => 48 | 281 => 49 | 282 => 50 | 287 => 58 | 316 => 59 | 171 => 24 | 205 => 60 | 321 => 67 | 322 => 68 | 243 => 38 | 246 => 51 | 283 => 61 | 284 => 62 | 285 => 63 | 286 => 64 | 129 => 70 | 317 => 69 | 318 => 71 | 319 => 72 | 320 => 73 | 337 => 74 | 338 => 75 | n => n, fun | 9 => 9 | 3 => 3 | 75 => 49 | 76 => 50 | 4 => 4 | 5 => 5 | 167 => 71 | 37 => 72 | 0 => 0 | 85 => 73 | 2 => 2 | 168 => 75 | 53 => 81 | 175 => 82 | 46 => 80 | 210 => 86 | 127 => 101 | 145 => 104 | 143 => 102 | 21 => 21 | 171 => 88 | 173 => 91 | 212 => 106 | 51 => 97 | 20 => 20 | 213 => 107 | 232 => 111 | 233 => 112 | 80 => 113 | n => n, fun | 15 => 1 | 16 => 2 | 17 => 5 | 18 => 6 | 19 => 7 | n => n⟩
theorem Tryd.laysAtoi : Go.Proofs.LaysC.n172 Tryd.prog Tryd.laysAtoi_ren where
  mixed := by kernel_rfl
  f129 := Tryd.func70.trans (congrArg some (by kernel_rfl))
  f171 := Tryd.func24.trans (congrArg some (by kernel_rfl))
  f172 := Tryd.func23.trans (congrArg some (by kernel_rfl))
  f205 := Tryd.func60.trans (congrArg some (by kernel_rfl))
  f243 := Tryd.func38.trans (congrArg some (by kernel_rfl))
  f244 := Tryd.func36.trans (congrArg some (by kernel_rfl))
  f245 := Tryd.func37.trans (congrArg some (by kernel_rfl))
  f246 := Tryd.func51.trans (congrArg some (by kernel_rfl))
  f247 := Tryd.func46.trans (congrArg some (by kernel_rfl))
  f279 := Tryd.func47.trans (congrArg some (by kernel_rfl))
  f280 := Tryd.func48.trans (congrArg some (by kernel_rfl))
  f281 := Tryd.func49.trans (congrArg some (by kernel_rfl))
  f282 := Tryd.func50.trans (congrArg some (by kernel_rfl))
  f283 := Tryd.func61.trans (congrArg some (by kernel_rfl))
  f284 := Tryd.func62.trans (congrArg some (by kernel_rfl))
  f285 := Tryd.func63.trans (congrArg some (by kernel_rfl))
  f286 := Tryd.func64.trans (congrArg some (by kernel_rfl))
  f287 := Tryd.func58.trans (congrArg some (by kernel_rfl))
  f316 := Tryd.func59.trans (congrArg some (by kernel_rfl))
  f317 := Tryd.func69.trans (congrArg some (by kernel_rfl))
  f318 := Tryd.func71.trans (congrArg some (by kernel_rfl))
  f319 := Tryd.func72.trans (congrArg some (by kernel_rfl))
  f320 := Tryd.func73.trans (congrArg some (by kernel_rfl))
  f321 := Tryd.func67.trans (congrArg some (by kernel_rfl))
  f322 := Tryd.func68.trans (congrArg some (by kernel_rfl))
  f337 := Tryd.func74.trans (congrArg some (by kernel_rfl))
  f338 := Tryd.func75.trans (congrArg some (by kernel_rfl))
  t0 := Tryd.underlying0
  a0 := Tryd.isAgg0
  z0 := Tryd.sizeOf0
  v0 := Tryd.zeroValue0
  t2 := Tryd.underlying2
  a2 := Tryd.isAgg2
  z2 := Tryd.sizeOf2
  v2 := Tryd.zeroValue2
  t3 := Tryd.underlying3
  a3 := Tryd.isAgg3
  z3 := Tryd.sizeOf3
  v3 := Tryd.zeroValue3
  t4 := Tryd.underlying4
  a4 := Tryd.isAgg4
  z4 := Tryd.sizeOf4
  v4 := Tryd.zeroValue4
  t5 := Tryd.underlying5
  a5 := Tryd.isAgg5
  z5 := Tryd.sizeOf5
  v5 := Tryd.zeroValue5
  t9 := Tryd.underlying9
  a9 := Tryd.isAgg9
  z9 := Tryd.sizeOf9
  v9 := Tryd.zeroValue9
  t20 := Tryd.underlying20
  a20 := Tryd.isAgg20
  z20 := Tryd.sizeOf20
  v20 := Tryd.zeroValue20
  t21 := Tryd.underlying21
  a21 := Tryd.isAgg21
  z21 := Tryd.sizeOf21
  v21 := Tryd.zeroValue21
  t37 := Tryd.underlying72
  a37 := Tryd.isAgg72
  z37 := Tryd.sizeOf72
  v37 := Tryd.zeroValue72
  t46 := Tryd.underlying80
  a46 := Tryd.isAgg80
  z46 := Tryd.sizeOf80
  v46 := Tryd.zeroValue80
  t51 := Tryd.underlying97
  a51 := Tryd.isAgg97
  z51 := Tryd.sizeOf97
  v51 := Tryd.zeroValue97
  t53 := Tryd.underlying81
  a53 := Tryd.isAgg81
  z53 := Tryd.sizeOf81
  v53 := Tryd.zeroValue81
  t75 := Tryd.underlying49
  a75 := Tryd.isAgg49
  z75 := Tryd.sizeOf49
  v75 := Tryd.zeroValue49
  t76 := Tryd.underlying50
  a76 := Tryd.isAgg50
  z76 := Tryd.sizeOf50
  v76 := Tryd.zeroValue50
  t85 := Tryd.underlying73
  a85 := Tryd.isAgg73
  z85 := Tryd.sizeOf73
  v85 := Tryd.zeroValue73
  t127 := Tryd.underlying101
  a127 := Tryd.isAgg101
  z127 := Tryd.sizeOf101
  v127 := Tryd.zeroValue101
  t143 := Tryd.underlying102
  a143 := Tryd.isAgg102
  z143 := Tryd.sizeOf102
  v143 := Tryd.zeroValue102
  t145 := Tryd.underlying104
  a145 := Tryd.isAgg104
  z145 := Tryd.sizeOf104
  v145 := Tryd.zeroValue104
  t167 := Tryd.underlying71
  a167 := Tryd.isAgg71
  z167 := Tryd.sizeOf71
  v167 := Tryd.zeroValue71
  t168 := Tryd.underlying75
  a168 := Tryd.isAgg75
  z168 := Tryd.sizeOf75
  v168 := Tryd.zeroValue75
  t171 := Tryd.underlying88
  a171 := Tryd.isAgg88
  z171 := Tryd.sizeOf88
  v171 := Tryd.zeroValue88
  t173 := Tryd.underlying91
  a173 := Tryd.isAgg91
  z173 := Tryd.sizeOf91
  v173 := Tryd.zeroValue91
  t175 := Tryd.underlying82
  a175 := Tryd.isAgg82
  z175 := Tryd.sizeOf82
  v175 := Tryd.zeroValue82
  t210 := Tryd.underlying86
  a210 := Tryd.isAgg86
  z210 := Tryd.sizeOf86
  v210 := Tryd.zeroValue86
  t212 := Tryd.underlying106
  a212 := Tryd.isAgg106
  z212 := Tryd.sizeOf106
  v212 := Tryd.zeroValue106
  t213 := Tryd.underlying107
  a213 := Tryd.isAgg107
  z213 := Tryd.sizeOf107
  t232 := Tryd.underlying111
  a232 := Tryd.isAgg111
  z232 := Tryd.sizeOf111
  v232 := Tryd.zeroValue111
  t233 := Tryd.underlying112
  a233 := Tryd.isAgg112
  z233 := Tryd.sizeOf112
  v233 := Tryd.zeroValue112
  g15 := by kernel_rfl
  g16 := by kernel_rfl
  g17 := by kernel_rfl
  g18 := by kernel_rfl
  g19 := by kernel_rfl
  t80 := Tryd.underlying113
  a80 := Tryd.isAgg113
  z80 := Tryd.sizeOf113
  v80 := Tryd.zeroValue113
  i0 := by kernel_rfl
  i2 := by kernel_rfl
  i3 := by kernel_rfl
  i4 := by kernel_rfl
  i5 := by kernel_rfl
  i9 := by kernel_rfl
  i20 := by kernel_rfl
  i21 := by kernel_rfl
  i37 := by kernel_rfl
  i46 := by kernel_rfl
  i51 := by kernel_rfl
  i53 := by kernel_rfl
  i75 := by kernel_rfl
  i76 := by kernel_rfl
  i80 := by kernel_rfl
  i85 := by kernel_rfl
  i127 := by kernel_rfl
  i143 := by kernel_rfl
  i145 := by kernel_rfl
  i167 := by kernel_rfl
  i168 := by kernel_rfl
  i171 := by kernel_rfl
  i173 := by kernel_rfl
  i175 := by kernel_rfl
  i210 := by kernel_rfl
  i212 := by kernel_rfl
  i232 := by kernel_rfl
  i233 := by kernel_rfl
  m15 := by kernel_rfl
  m16 := by kernel_rfl
  m17 := by kernel_rfl
  m18 := by kernel_rfl
  m19 := by kernel_rfl
  c0 := by kernel_rfl
  c2 := by kernel_rfl
  c3 := by kernel_rfl
  c4 := by kernel_rfl
  c5 := by kernel_rfl
  c9 := by kernel_rfl
  c20 := by kernel_rfl
  c21 := by kernel_rfl
  c37 := by kernel_rfl
  c46 := by kernel_rfl
  c51 := by kernel_rfl
  c53 := by kernel_rfl
  c75 := by kernel_rfl
  c76 := by kernel_rfl
  c80 := by kernel_rfl
  c85 := by kernel_rfl
  c127 := by kernel_rfl
  c143 := by kernel_rfl
  c145 := by kernel_rfl
  c167 := by kernel_rfl
  c168 := by kernel_rfl
  c171 := by kernel_rfl
  c173 := by kernel_rfl
  c175 := by kernel_rfl
  c210 := by kernel_rfl
  c212 := by kernel_rfl
  c213 := by kernel_rfl
  c232 := by kernel_rfl
  c233 := by kernel_rfl
def Tryd.laysItoa_ren : Go.Shelf.Ren := ⟨fun | 171 => 24 | 243 => 38 | 246 => 51 | 283 => 61 | 284 => 62 | 285 => 63 | 286 => 64 | 129 => 70 | 317 => 69 | 318 => 71 | 319 => 72 | 320 => 73 | 337 => 74 | 338 => 75 | n => n, fun | 3 => 3 | 9 => 9 | 2 => 2 | 4 => 4 | 171 => 88 | 0 => 0 | 53 => 81 | 37 => 72 | 5 => 5 | 173 => 91 | 212 => 106 | 51 => 97 | 20 => 20 | 213 => 107 | 46 => 80 | 232 => 111 | 233 => 112 | n => n, fun | 17 => 5 | 18 => 6 | 19 => 7 | n => n⟩
theorem Tryd.laysItoa : Go.Proofs.LaysM.n171 Tryd.prog Tryd.laysItoa_ren where
  mixed := by kernel_rfl
  f129 := Tryd.func70.trans (congrArg some (by kernel_rfl))
  f171 := Tryd.func24.trans (congrArg some (by kernel_rfl))
  f243 := Tryd.func38.trans (congrArg some (by kernel_rfl))
  f246 := Tryd.func51.trans (congrArg some (by kernel_rfl))
  f283 := Tryd.func61.trans (congrArg some (by kernel_rfl))
  f284 := Tryd.func62.trans (congrArg some (by kernel_rfl))
  f285 := Tryd.func63.trans (congrArg some (by kernel_rfl))
  f286 := Tryd.func64.trans (congrArg some (by kernel_rfl))
  f317 := Tryd.func69.trans (congrArg some (by kernel_rfl))
  f318 := Tryd.func71.trans (congrArg some (by kernel_rfl))
  f319 := Tryd.func72.trans (congrArg some (by kernel_rfl))
  f320 := Tryd.func73.trans (congrArg some (by kernel_rfl))
  f337 := Tryd.func74.trans (congrArg some (by kernel_rfl))
  f338 := Tryd.func75.trans (congrArg some (by kernel_rfl))
  t0 := Tryd.underlying0
  a0 := Tryd.isAgg0
  z0 := Tryd.sizeOf0
  v0 := Tryd.zeroValue0
  t2 := Tryd.underlying2
  a2 := Tryd.isAgg2
  z2 := Tryd.sizeOf2
  v2 := Tryd.zeroValue2
  t3 := Tryd.underlying3
  a3 := Tryd.isAgg3
  z3 := Tryd.sizeOf3
  v3 := Tryd.zeroValue3
  t4 := Tryd.underlying4
  a4 := Tryd.isAgg4
  z4 := Tryd.sizeOf4
  v4 := Tryd.zeroValue4
  t5 := Tryd.underlying5
  a5 := Tryd.isAgg5
  z5 := Tryd.sizeOf5
  v5 := Tryd.zeroValue5
  t9 := Tryd.underlying9
  a9 := Tryd.isAgg9
  z9 := Tryd.sizeOf9
  v9 := Tryd.zeroValue9
  t20 := Tryd.underlying20
  a20 := Tryd.isAgg20
  z20 := Tryd.sizeOf20
  v20 := Tryd.zeroValue20
  t37 := Tryd.underlying72
  a37 := Tryd.isAgg72
  z37 := Tryd.sizeOf72
  v37 := Tryd.zeroValue72
  t46 := Tryd.underlying80
  a46 := Tryd.isAgg80
  z46 := Tryd.sizeOf80
  v46 := Tryd.zeroValue80
  t51 := Tryd.underlying97
  a51 := Tryd.isAgg97
  z51 := Tryd.sizeOf97
  v51 := Tryd.zeroValue97
  t53 := Tryd.underlying81
  a53 := Tryd.isAgg81
  z53 := Tryd.sizeOf81
  v53 := Tryd.zeroValue81
  t171 := Tryd.underlying88
  a171 := Tryd.isAgg88
  z171 := Tryd.sizeOf88
  v171 := Tryd.zeroValue88
  t173 := Tryd.underlying91
  a173 := Tryd.isAgg91
  z173 := Tryd.sizeOf91
  v173 := Tryd.zeroValue91
  t212 := Tryd.underlying106
  a212 := Tryd.isAgg106
  z212 := Tryd.sizeOf106
  v212 := Tryd.zeroValue106
  t213 := Tryd.underlying107
  a213 := Tryd.isAgg107
  z213 := Tryd.sizeOf107
  t232 := Tryd.underlying111
  a232 := Tryd.isAgg111
  z232 := Tryd.sizeOf111
  v232 := Tryd.zeroValue111
  t233 := Tryd.underlying112
  a233 := Tryd.isAgg112
  z233 := Tryd.sizeOf112
  v233 := Tryd.zeroValue112
  g17 := by kernel_rfl
  g18 := by kernel_rfl
  g19 := by kernel_rfl
  i0 := by kernel_rfl
  i2 := by kernel_rfl
  i3 := by kernel_rfl
  i4 := by kernel_rfl
  i5 := by kernel_rfl
  i9 := by kernel_rfl
  i20 := by kernel_rfl
  i37 := by kernel_rfl
  i46 := by kernel_rfl
  i51 := by kernel_rfl
  i53 := by kernel_rfl
  i171 := by kernel_rfl
  i173 := by kernel_rfl
  i212 := by kernel_rfl
  i232 := by kernel_rfl
  i233 := by kernel_rfl
  m17 := by kernel_rfl
  m18 := by kernel_rfl
  m19 := by kernel_rfl
namespace YtgfaadooijngnaaDoorT
set_option linter.unusedVariables false
/-- The pieces between bytes of a kind. -/
def pcs (c : UInt8) : List UInt8 → List (List UInt8)
  | [] => [[]]
  | x :: r => if x = c then [] :: pcs c r else match pcs c r with
    | [] => [[x]]
    | h :: t => (x :: h) :: t
theorem pcs_ne (c : UInt8) : ∀ l, pcs c l ≠ []
  | [] => by simp [pcs]
  | x :: r => by
    rw [pcs]
    split
    · simp
    · split <;> simp
theorem pcs_cons {c x : UInt8} {r h : List UInt8} {t : List (List UInt8)} (hx : x ≠ c) (hr : pcs c r = h :: t) : pcs c (x :: r) = (x :: h) :: t := by
  rw [pcs, if_neg hx, hr]
theorem split_pcs (c : UInt8) : ∀ l : List UInt8, splitK [c] 0 (l.count c) l = pcs c l
  | [] => rfl
  | x :: r => by
    have ih := split_pcs c r
    by_cases hx : x = c
    · subst hx
      have h0 : index (x :: r) [x] = 0 := by rw [index_one]; simp [indexByte]
      rw [List.count_cons_self, splitK, h0, if_neg (by decide), pcs, if_pos rfl]
      simp only [Int.toNat_zero, Nat.zero_add, List.take_zero, List.length_singleton, List.drop_succ_cons, List.drop_zero]
      rw [ih]
    · have hc : (x :: r).count c = r.count c := List.count_cons_of_ne (by simpa using hx)
      have hi : index (x :: r) [c] = if index r [c] == -1 then -1 else index r [c] + 1 := by
        rw [index_one, index_one, indexByte, if_neg (by simpa using hx)]
      rw [hc]
      cases hk : r.count c with
      | zero =>
        rw [hk] at ih
        rw [splitK] at ih ⊢
        rw [pcs_cons hx ih.symm]
      | succ k =>
        rw [hk] at ih
        rw [splitK] at ih ⊢
        by_cases hm : index r [c] = -1
        · rw [if_pos (by rw [hm]; rfl)] at ih
          rw [hi, if_pos (by rw [hm]; rfl), pcs_cons hx ih.symm]
        · have hne : (index r [c] == -1) = false := by simpa using hm
          have hge : -1 ≤ index r [c] := by rw [index_one]; exact indexByte_ge r c
          obtain ⟨j, hj⟩ : ∃ j : Nat, index r [c] = j := ⟨(index r [c]).toNat, by omega⟩
          rw [hne, if_neg (by simp), hj] at ih
          have hi' : index (x :: r) [c] = ((j + 1 : Nat) : Int) := by rw [hi, hne, if_neg (by simp), hj]; omega
          have hne' : (index (x :: r) [c] == -1) = false := by rw [hi']; exact beq_eq_false_iff_ne.2 (by omega)
          rw [hne', if_neg (by simp), hi', pcs_cons hx ih.symm]
          simp only [Int.toNat_natCast, Nat.add_zero, List.length_singleton, List.take_succ_cons, List.drop_succ_cons]
def pieces (c : UInt8) (s : ByteArray) : List ByteArray := (pcs c s.data.toList).map bs
theorem splitB_pieces (c : UInt8) (s : ByteArray) : splitB ⟨#[c]⟩ 0 (countB s ⟨#[c]⟩) s = pieces c s := by
  have h := splitB_data ⟨#[c]⟩ 0 (countB s ⟨#[c]⟩) s
  have hc : countB s ⟨#[c]⟩ = s.data.toList.count c := count_one c s.data.toList
  have e : (splitB ⟨#[c]⟩ 0 (countB s ⟨#[c]⟩) s).map (fun x => bs x.data.toList) = splitB ⟨#[c]⟩ 0 (countB s ⟨#[c]⟩) s := by
    rw [List.map_congr_left (g := id) (fun x _ => by simp [bs])]; simp
  have e2 : (splitB ⟨#[c]⟩ 0 (countB s ⟨#[c]⟩) s).map (fun x => bs x.data.toList) = ((splitB ⟨#[c]⟩ 0 (countB s ⟨#[c]⟩) s).map (fun x => x.data.toList)).map bs := by rw [List.map_map]; rfl
  rw [← e, e2, h, hc]
  show (splitK [c] 0 _ _).map bs = _
  rw [split_pcs]
  rfl
set_option maxHeartbeats 1000000 in
theorem splitOne (c : UInt8) (s : ByteArray) (w : World) (hs : s.size < 4294967281) :
    Calls Tryd.prog 11 #[.string s, .string ⟨#[c]⟩] w fun e w' => e = .returned (.slice (some ⟨w.heap.size, 0, none⟩) (pieces c s).length (pieces c s).length) ∧ w' = w.alloc (.cells ((pieces c s).map Value.string).toArray 9) := by
  have h1 : 1 ≤ (⟨#[c]⟩ : ByteArray).size := Nat.le_refl 1
  have hle := countB_le ⟨#[c]⟩ h1 s.size s (Nat.le_refl _)
  have hlen := splitB_all ⟨#[c]⟩ h1 0 _ s rfl
  have hC : Calls Tryd.prog 34 #[.string s, .string ⟨#[c]⟩] w fun e w' => e = .returned (.int .i64 (countB s ⟨#[c]⟩)) ∧ w' = w := by
    refine (Any.strings_Count_one { Tryd.laysSplit with } s c w).mono fun e w' ⟨he, hw⟩ => ⟨?_, hw⟩
    rw [he]
    show _ = Ending.returned (Value.int .i64 ((Lib.count s.data.toList [c] : Nat) : Int))
    rw [Lib.count_one]
    rfl
  have hI : ∀ (x : ByteArray) (cc : Array Value), x.size ≤ s.size → Calls Tryd.prog 35 #[.string x, .string ⟨#[c]⟩] (w.alloc (.cells cc 9)) fun e w' => e = .returned (.int .i64 (indexB x ⟨#[c]⟩)) ∧ w' = w.alloc (.cells cc 9) := by
    intro x cc hx
    refine (Any.strings_Index_one { Tryd.laysSplit with } x c _).mono fun e w' ⟨he, hw⟩ => ⟨?_, hw⟩
    rw [he]
    show _ = Ending.returned (Value.int .i64 (Lib.index x.data.toList [c]))
    rw [Lib.index_one]
  have cc := Any.strings_genSplit_core (ρ := Tryd.laysSplit_ren) { Tryd.laysSplit with } (by kernel_rfl) s ⟨#[c]⟩ 0 (-1) (countB s ⟨#[c]⟩ + 1) w hs h1 (Nat.zero_le _) hI hC (by decide) (by decide) (by rw [if_pos (by decide)]; omega)
  rw [Nat.add_sub_cancel, hlen] at cc
  have e2 : cellsOf (splitB ⟨#[c]⟩ 0 (countB s ⟨#[c]⟩) s) (countB s ⟨#[c]⟩ + 1) = ((splitB ⟨#[c]⟩ 0 (countB s ⟨#[c]⟩) s).map Value.string).toArray := by rw [← hlen]; exact cellsOf_full _
  rw [e2, splitB_pieces] at cc
  rw [splitB_pieces] at hlen
  rw [hlen]
  have cc' : Calls Tryd.prog 22 #[.string s, .string ⟨#[c]⟩, .int .i64 0, .int .i64 (-1)] w fun e w' => e = .returned (.slice (some ⟨w.heap.size, 0, none⟩) (countB s ⟨#[c]⟩ + 1) (countB s ⟨#[c]⟩ + 1)) ∧ w' = w.alloc (.cells ((pieces c s).map Value.string).toArray 9) := cc
  go_enter Tryd.func11, Tryd.ntmps11
  go_wp2_with (go_at_call 22; refine cc'.mono ?_; rintro e w' ⟨rfl, hw⟩; rw [hw])
  go_ret
  exact ⟨rfl, rfl⟩
def cut1 (c : UInt8) (s : ByteArray) : List UInt8 × List UInt8 × Bool := Lib.cut s.data.toList [c]
set_option maxHeartbeats 2000000 in
set_option maxRecDepth 100000 in
theorem cutOne (c : UInt8) (s : ByteArray) (w : World) (hs : s.size ≤ 20000) :
    Calls Tryd.prog 40 #[.string s, .string ⟨#[c]⟩] w fun e w' => e = .returned (.tuple #[.string ⟨(cut1 c s).1.toArray⟩, .string ⟨(cut1 c s).2.1.toArray⟩, .bool (cut1 c s).2.2]) ∧ ∃ n, w' = w.drewN n := by
  have hI : ∀ W, Calls Tryd.prog 45 #[.string s, .string ⟨#[c]⟩] W fun e w' => e = .returned (.int .i64 (indexB s ⟨#[c]⟩)) ∧ w' = W := by
    intro W
    refine (Any.stringslite_Index_one { Tryd.laysCut with } s c W).mono fun e w' ⟨he, hw⟩ => ⟨?_, hw⟩
    rw [he]
    show _ = Ending.returned (Value.int .i64 (Lib.index s.data.toList [c]))
    rw [Lib.index_one]
  rcases Lib.indexB_cases s ⟨#[c]⟩ with hix | ⟨i, hix, hroom⟩
  · obtain ⟨e1, e2, e3⟩ := Lib.cutB_miss s ⟨#[c]⟩ hix
    have e1 : (⟨(cut1 c s).1.toArray⟩ : ByteArray) = s := e1
    have e2 : (⟨(cut1 c s).2.1.toArray⟩ : ByteArray) = ByteArray.empty := e2
    have e3 : (cut1 c s).2.2 = false := e3
    rw [e1, e2, e3]
    rw [hix] at hI
    go_enter Tryd.func40, Tryd.ntmps40
    go_wp2_with (go_at_call 45; refine (hI _).mono ?_; rintro e w' ⟨rfl, rfl⟩)
    go_ret3
    exact ⟨rfl, 0, rfl⟩
  · obtain ⟨e1, e2, e3⟩ := Lib.cutB_hit s ⟨#[c]⟩ i hix
    have e1 : (⟨(cut1 c s).1.toArray⟩ : ByteArray) = s.extract 0 i := e1
    have e2 : (⟨(cut1 c s).2.1.toArray⟩ : ByteArray) = s.extract (i + 1) s.size := e2
    have e3 : (cut1 c s).2.2 = true := e3
    have hroom : i + 1 ≤ s.size := hroom
    rw [e1, e2, e3]
    rw [hix] at hI
    have c1 : (0 : Int) ≤ ↑i := by omega
    have c2 : (↑i : Int) ≤ ↑s.size := by omega
    have c3 : (0 : Int) ≤ ↑i + 1 := by omega
    have c4 : (↑i + 1 : Int) ≤ ↑s.size := by omega
    have hw : IntKind.i64.wrap ((i : Int) + 1) = (i : Int) + 1 := by rw [IntKind.wrap_i64]; omega
    have hw2 : ((i : Int) + 1).toNat = i + 1 := by omega
    have mixed : Tryd.prog.follows Departure.mixedOrders = true := by kernel_rfl
    go_enter Tryd.func40, Tryd.ntmps40
    go_wp2_with (go_at_call 45; refine (hI _).mono ?_; rintro e w' ⟨rfl, rfl⟩)
    go_region_o
    go_wp2
    go_ret3
    exact ⟨rfl, 1, rfl⟩
theorem cutTop (c : UInt8) (s : ByteArray) (w : World) (hs : s.size ≤ 20000) :
    Calls Tryd.prog 27 #[.string s, .string ⟨#[c]⟩] w fun e w' => e = .returned (.tuple #[.string ⟨(cut1 c s).1.toArray⟩, .string ⟨(cut1 c s).2.1.toArray⟩, .bool (cut1 c s).2.2]) ∧ ∃ n, w' = w.drewN n := by
  go_enter Tryd.func27, Tryd.ntmps27
  go_wp2_with (go_at_call 40; refine (cutOne c s _ hs).mono ?_; rintro e w' ⟨rfl, n, rfl⟩)
  go_ret3
  exact ⟨rfl, n, rfl⟩
theorem below_drew (w : World) (n : Nat) : Below w.heap.size w (w.drewN n) := Lib.below_grow _ w (Nat.le_refl _) n #[]
/-- A new row of texts that is handed back. -/
theorem runs_of_row {f : FuncId} {us : List Value} {xs : List ByteArray} (he : Enters Tryd.prog f) (hp : ∀ u ∈ us, plainV u = true)
    (h : ∀ w : World, Glob w (fun k => k < w.heap.size) → Calls Tryd.prog f us.toArray w (fun e w' => e = .returned (.slice (some ⟨w.heap.size, 0, none⟩) xs.length xs.length) ∧ w' = w.alloc (.cells (xs.map Value.string).toArray 9))) : Runs Tryd.prog f (us.map .s) (.sl 1 (xs.map st), us.map fun _ => .dead) := by
  refine ⟨he, fun w ok vals b hx hnd hb hok hG => ?_⟩
  obtain ⟨rfl, rfl⟩ := XL_s_inv hx
  refine (h w (hG.mono fun k hk => ⟨hok k hk, rfl⟩)).mono ?_
  rintro e w' ⟨rfl, rfl⟩
  have hsz : (w.alloc (.cells (xs.map Value.string).toArray 9)).heap.size = w.heap.size + 1 := Array.size_push ..
  have hnew : (w.alloc (.cells (xs.map Value.string).toArray 9)).heap[w.heap.size]? = some (.cells (xs.map Value.string).toArray 9) := Array.getElem?_push_size
  have hat : ∀ j (hj : j < xs.length), (w.alloc (.cells (xs.map Value.string).toArray 9)).cell? ⟨w.heap.size, 0 + (j * 1 + 0), none⟩ = some (.string xs[j]) := by
    intro j hj
    unfold World.cell?
    simp only [hnew]
    simp [hj]
  refine ⟨_, [], [], rfl, .nil, by simp, ⟨rfl, rfl, rfl, by omega, fun k hk _ => Below.heap_alloc w _ k hk⟩, ⟨rfl, ?_⟩, XL_dead⟩
  have hl : (xs.map st).length = xs.length := by simp
  have := Rep.sl (C := cctx (w.alloc (.cells (xs.map Value.string).toArray 9)) (okOut w (w.alloc (.cells (xs.map Value.string).toArray 9)) ok [] ([] ++ []))) (sz := 1) (xs := xs.map st) (us := xs.map Value.string) (A := some ⟨w.heap.size, 0, none⟩) (c := xs.length) (by simp) (by simp)
    (fun j x u hx hu => by
      simp only [List.getElem?_map] at hx hu
      cases h0 : xs[j]? with
      | none => rw [h0] at hx; simp at hx
      | some y =>
        rw [h0] at hx hu
        simp at hx hu
        subst hx hu
        exact .s rfl)
    (fun u hu => by
      obtain ⟨y, _, rfl⟩ := List.mem_map.1 hu
      rfl)
    (.inr ⟨⟨w.heap.size, 0, none⟩, rfl, rfl, ⟨.inr (.inr (Nat.le_refl _)), by rw [hsz]; exact Nat.lt_succ_self _, by simp⟩, fun j i u cv hu hc => by
      simp only [List.getElem?_map] at hu
      cases h0 : xs[j]? with
      | none => rw [h0] at hu; simp at hu
      | some y =>
        rw [h0] at hu
        simp at hu
        subst hu
        have hj : j < xs.length := (List.getElem?_eq_some_iff.1 h0).1
        have hy : xs[j] = y := (List.getElem?_eq_some_iff.1 h0).2
        have hc' : (#[Value.string y] : Array Value)[i]? = some cv := hc
        cases i with
        | zero =>
          simp at hc'
          subst hc'
          have := hat j hj
          rw [hy] at this
          exact this
        | succ i => simp at hc'⟩)
  rw [hl] at this
  exact this
theorem runs11 (c : UInt8) (s : ByteArray) (hs : s.size ≤ 20000) : Runs Tryd.prog 11 [st s, st (bs [c])] (.sl 1 ((pieces c s).map st), [.dead, .dead]) :=
  runs_of_row (us := [.string s, .string (bs [c])]) ⟨Tryd.f11, Tryd.func11, by decide, by kernel_rfl⟩ (by simp [plainV]) fun w hG => splitOne c s w (by omega)
theorem X_trip {w : World} {ok : Nat → Prop} {x y z : T} {u v t : Value} (hx : RepX w ok x u []) (hy : RepX w ok y v []) (hz : RepX w ok z t []) : RepX w ok (.tup [x, y, z]) (.tuple #[u, v, t]) [] :=
  ⟨[u, v, t], rfl, u, [v, t], [], [], rfl, rfl, hx, v, [t], [], [], rfl, rfl, hy, t, [], [], [], rfl, rfl, hz, rfl, rfl⟩
theorem runs27 (c : UInt8) (s : ByteArray) (hs : s.size ≤ 20000) : Runs Tryd.prog 27 [st s, st (bs [c])] (.tup [st (bs (cut1 c s).1), st (bs (cut1 c s).2.1), tb (cut1 c s).2.2], [.dead, .dead]) :=
  runs_of_calls (us := [.string s, .string (bs [c])]) ⟨Tryd.f27, Tryd.func27, by decide, by kernel_rfl⟩ (by simp [plainV]) fun w hG =>
    (cutTop c s w hs).mono fun e w' ⟨he, n, hw⟩ => ⟨by rw [hw]; exact below_drew _ _, _, he, fun ok => X_trip (X_s rfl) (X_s rfl) (X_s rfl)⟩
theorem runs10 (s p : ByteArray) : Runs Tryd.prog 10 [st s, st p] (.tup [st (bs (Lib.trimPrefix s.data.toList p.data.toList)), tb (Lib.hasPrefix s.data.toList p.data.toList)], [.dead, .dead]) :=
  runs_of_calls (us := [.string s, .string p]) ⟨Tryd.f10, Tryd.func10, by decide, by kernel_rfl⟩ (by simp [plainV]) fun w hG =>
    (Any.strings_CutPrefix Tryd.laysCutPrefix s p w).mono fun e w' ⟨he, hw⟩ => ⟨by rw [hw]; exact Below.refl _ _, _, he, fun ok => X_pair (X_s rfl) (X_s rfl)⟩
theorem glob_pow {w : World} {ok : Nat → Prop} (h : Glob w ok) : Lib.TabIs Tryd.prog w "internal/strconv.uint64pow10" .u64 Lib.pow10Tab := by
  obtain ⟨cs, t, z, h1, h2⟩ := glob_at h mem_pow
  show w.var? Tryd.prog _ = _
  unfold World.var?
  rw [show Tryd.prog.globalNamed "internal/strconv.uint64pow10" = some 5 by kernel_rfl]
  simp only [Option.bind_some, h1]
  rw [h2]
theorem runs24 (n : Int) (h0 : -9223372036854775808 ≤ n) (h1 : n ≤ 9223372036854775807) : Runs Tryd.prog 24 [i64 n] (st (bs (Lib.itoa n)), [.dead]) :=
  runs_of_calls (us := [.int .i64 n]) ⟨Tryd.f24, Tryd.func24, by decide, by kernel_rfl⟩ (by simp [plainV]) fun w hG =>
    (Any.strconv_Itoa Tryd.laysItoa n h0 h1 w (glob_pow hG)).mono fun e w' ⟨he, k, os, hw⟩ => ⟨by rw [hw]; exact Lib.below_grow _ _ (Nat.le_refl _) _ _, _, he, fun ok => X_s rfl⟩
/-- strconv.Atoi: a number, or an error. -/
theorem runs23 (s : ByteArray) (hs : s.size ≤ 20000) : (∃ v : Int, Lib.atoiAll s.data.toList = .ok v ∧ Runs Tryd.prog 23 [st s] (.tup [i64 v, (⟨0, .dead⟩ : IfV).v], [.dead])) ∨
    ((∀ v, Lib.atoiAll s.data.toList ≠ .ok v) ∧ ∃ (n : Int) (e : IfV), e.t ≠ 0 ∧ Runs Tryd.prog 23 [st s] (.tup [i64 n, e.v], [.dead])) := by
  have he23 : Enters Tryd.prog 23 := ⟨Tryd.f23, Tryd.func23, by decide, by kernel_rfl⟩
  have cellG : ∀ {w : World} {ok : Nat → Prop} {g : Nat}, Glob w ok → (g, errP) ∈ GL → ∃ te pe, w.cell? ⟨g, 0, none⟩ = some (.iface te pe) := by
    intro w ok g hG hm
    obtain ⟨cs, t, z, h1, te, pe, h2⟩ := glob_at hG hm
    exact ⟨te, pe, by rw [cell_at h1]; exact h2⟩
  cases h : Lib.atoiAll s.data.toList with
  | ok v =>
    refine .inl ⟨v, rfl, runs_of_calls (us := [.string s]) he23 (by simp [plainV]) fun w hG => ?_⟩
    refine (Any.strconv_Atoi_ok Tryd.laysAtoi s (by omega) v h w).mono fun e w' ⟨he, hw⟩ => ⟨?_, _, he, fun ok => X_pair (X_s rfl) X_nilI⟩
    rcases hw with rfl | ⟨t, rfl⟩
    · exact Below.refl _ _
    · exact Lib.bytesWorld_below _ _ _
  | «syntax» =>
    refine .inr ⟨(fun v e => by cases e), 0, ⟨75, .dead⟩, by decide, runs_of_calls (us := [.string s]) he23 (by simp [plainV]) fun w hG => ?_⟩
    obtain ⟨te, pe, hc⟩ := cellG hG mem_syn
    exact (Any.strconv_Atoi_syntax Tryd.laysAtoi s (by omega) h _ w hc (.inr ⟨te, pe, rfl⟩)).mono fun e w' ⟨N, he, _, _, hb⟩ => ⟨hb, _, he, fun ok => X_pair (X_s rfl) (X_if (by decide) _)⟩
  | range =>
    refine .inr ⟨(fun v e => by cases e), Lib.atoiSat s.data.toList, ⟨75, .dead⟩, by decide, runs_of_calls (us := [.string s]) he23 (by simp [plainV]) fun w hG => ?_⟩
    obtain ⟨te, pe, hc⟩ := cellG hG mem_rng
    exact (Any.strconv_Atoi_range Tryd.laysAtoi s (by omega) h _ w hc (.inr ⟨te, pe, rfl⟩)).mono fun e w' ⟨N, he, _, _, hb⟩ => ⟨hb, _, he, fun ok => X_pair (X_s rfl) (X_if (by decide) _)⟩
end YtgfaadooijngnaaDoorT
end Go.Proofs
