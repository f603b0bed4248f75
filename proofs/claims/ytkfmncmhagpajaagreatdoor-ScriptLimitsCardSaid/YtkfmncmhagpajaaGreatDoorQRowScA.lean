/-
  What the kit's contracts of Go's library ask, at this dump: bodies, types, variables, compared by the kernel. Printed by wip/gen/laid.py.
-/
import Derived.Shelf.Strconv.Itoa3
import Derived.Shelf.Strings.SplitShaped
import Derived.Shelf.Strconv.ErrVarAll
import Derived.Shelf.Strings.OnBuilder
import Derived.Shelf.Strings.Shaped
import Derived.Shelf.Strings.Prefix
import Derived.Shelf.Small.Wraps
import Derived.Test.YtkfmncmhagpajaaGreatDoorProg
import Derived.Orders
import Derived.Laws.Cells
import Derived.Laws.World
import Derived.Lib.ItoaNum
import Derived.Lib.LaidTab
import Derived.Deep.AppendSrc
import Derived.Deep.Upon
import Derived.IntWalk
import Derived.Laws.Strings
import Derived.KernelRfl
set_option maxRecDepth 100000
namespace Go.Proofs.YtkfmncmhagpajaaGreatDoor
open Go Go.Shelf
def lays171_ren : Go.Shelf.Ren := ⟨fun | 171 => 45 | 243 => 59 | 246 => 70 | 283 => 79 | 284 => 80 | 285 => 81 | 286 => 82 | 129 => 91 | 317 => 90 | 318 => 92 | 319 => 93 | 320 => 94 | 337 => 104 | 338 => 105 | n => n, fun | 3 => 3 | 9 => 9 | 2 => 2 | 4 => 4 | 171 => 106 | 0 => 0 | 53 => 107 | 37 => 43 | 5 => 5 | 173 => 110 | 212 => 115 | 51 => 99 | 20 => 20 | 213 => 116 | 46 => 90 | 232 => 134 | 233 => 135 | n => n, fun | 17 => 1 | 18 => 4 | 19 => 5 | n => n⟩
theorem lays171 : Go.Proofs.LaysM.n171 Tryz.prog lays171_ren := {
  mixed := by kernel_rfl,
  f129 := Tryz.func91.trans (congrArg some (by kernel_rfl)),
  f171 := Tryz.func45.trans (congrArg some (by kernel_rfl)),
  f243 := Tryz.func59.trans (congrArg some (by kernel_rfl)),
  f246 := Tryz.func70.trans (congrArg some (by kernel_rfl)),
  f283 := Tryz.func79.trans (congrArg some (by kernel_rfl)),
  f284 := Tryz.func80.trans (congrArg some (by kernel_rfl)),
  f285 := Tryz.func81.trans (congrArg some (by kernel_rfl)),
  f286 := Tryz.func82.trans (congrArg some (by kernel_rfl)),
  f317 := Tryz.func90.trans (congrArg some (by kernel_rfl)),
  f318 := Tryz.func92.trans (congrArg some (by kernel_rfl)),
  f319 := Tryz.func93.trans (congrArg some (by kernel_rfl)),
  f320 := Tryz.func94.trans (congrArg some (by kernel_rfl)),
  f337 := Tryz.func104.trans (congrArg some (by kernel_rfl)),
  f338 := Tryz.func105.trans (congrArg some (by kernel_rfl)),
  t0 := Tryz.underlying0,
  a0 := Tryz.isAgg0,
  z0 := Tryz.sizeOf0,
  v0 := Tryz.zeroValue0,
  t2 := Tryz.underlying2,
  a2 := Tryz.isAgg2,
  z2 := Tryz.sizeOf2,
  v2 := Tryz.zeroValue2,
  t3 := Tryz.underlying3,
  a3 := Tryz.isAgg3,
  z3 := Tryz.sizeOf3,
  v3 := Tryz.zeroValue3,
  t4 := Tryz.underlying4,
  a4 := Tryz.isAgg4,
  z4 := Tryz.sizeOf4,
  v4 := Tryz.zeroValue4,
  t5 := Tryz.underlying5,
  a5 := Tryz.isAgg5,
  z5 := Tryz.sizeOf5,
  v5 := Tryz.zeroValue5,
  t9 := Tryz.underlying9,
  a9 := Tryz.isAgg9,
  z9 := Tryz.sizeOf9,
  v9 := Tryz.zeroValue9,
  t20 := Tryz.underlying20,
  a20 := Tryz.isAgg20,
  z20 := Tryz.sizeOf20,
  v20 := Tryz.zeroValue20,
  t37 := Tryz.underlying43,
  a37 := Tryz.isAgg43,
  z37 := Tryz.sizeOf43,
  v37 := Tryz.zeroValue43,
  t46 := Tryz.underlying90,
  a46 := Tryz.isAgg90,
  z46 := Tryz.sizeOf90,
  v46 := Tryz.zeroValue90,
  t51 := Tryz.underlying99,
  a51 := Tryz.isAgg99,
  z51 := Tryz.sizeOf99,
  v51 := Tryz.zeroValue99,
  t53 := Tryz.underlying107,
  a53 := Tryz.isAgg107,
  z53 := Tryz.sizeOf107,
  v53 := Tryz.zeroValue107,
  t171 := Tryz.underlying106,
  a171 := Tryz.isAgg106,
  z171 := Tryz.sizeOf106,
  v171 := Tryz.zeroValue106,
  t173 := Tryz.underlying110,
  a173 := Tryz.isAgg110,
  z173 := Tryz.sizeOf110,
  v173 := Tryz.zeroValue110,
  t212 := Tryz.underlying115,
  a212 := Tryz.isAgg115,
  z212 := Tryz.sizeOf115,
  v212 := Tryz.zeroValue115,
  t213 := Tryz.underlying116,
  a213 := Tryz.isAgg116,
  z213 := Tryz.sizeOf116,
  t232 := Tryz.underlying134,
  a232 := Tryz.isAgg134,
  z232 := Tryz.sizeOf134,
  v232 := Tryz.zeroValue134,
  t233 := Tryz.underlying135,
  a233 := Tryz.isAgg135,
  z233 := Tryz.sizeOf135,
  v233 := Tryz.zeroValue135,
  g17 := by kernel_rfl,
  g18 := by kernel_rfl,
  g19 := by kernel_rfl,
  i0 := by kernel_rfl,
  i2 := by kernel_rfl,
  i3 := by kernel_rfl,
  i4 := by kernel_rfl,
  i5 := by kernel_rfl,
  i9 := by kernel_rfl,
  i20 := by kernel_rfl,
  i37 := by kernel_rfl,
  i46 := by kernel_rfl,
  i51 := by kernel_rfl,
  i53 := by kernel_rfl,
  i171 := by kernel_rfl,
  i173 := by kernel_rfl,
  i212 := by kernel_rfl,
  i232 := by kernel_rfl,
  i233 := by kernel_rfl,
  m17 := by kernel_rfl,
  m18 := by kernel_rfl,
  m19 := by kernel_rfl }
def lays172_ren : Go.Shelf.Ren := ⟨fun | 172 => 75 | 244 => 86 | 245 => 87 | 247 => 98 | 279 => 99 | 280 => 100 | 281 => 101 | 282 => 102 | 287 => 107 | 316 => 108 | 171 => 45 | 205 => 109 | 321 => 110 | 322 => 111 | 243 => 59 | 246 => 70 | 283 => 79 | 284 => 80 | 285 => 81 | 286 => 82 | 129 => 91 | 317 => 90 | 318 => 92 | 319 => 93 | 320 => 94 | 337 => 104 | 338 => 105 | n => n, fun | 9 => 9 | 3 => 3 | 75 => 48 | 76 => 49 | 4 => 4 | 5 => 5 | 167 => 121 | 37 => 43 | 0 => 0 | 85 => 122 | 2 => 2 | 168 => 124 | 53 => 107 | 175 => 129 | 46 => 90 | 210 => 132 | 127 => 70 | 145 => 143 | 143 => 141 | 21 => 21 | 171 => 106 | 173 => 110 | 212 => 115 | 51 => 99 | 20 => 20 | 213 => 116 | 232 => 134 | 233 => 135 | 80 => 53 | n => n, fun | 15 => 2 | 16 => 3 | 17 => 1 | 18 => 4 | 19 => 5 | n => n⟩
theorem lays172 : Go.Proofs.LaysC.n172 Tryz.prog lays172_ren := {
  mixed := by kernel_rfl,
  f129 := Tryz.func91.trans (congrArg some (by kernel_rfl)),
  f171 := Tryz.func45.trans (congrArg some (by kernel_rfl)),
  f172 := Tryz.func75.trans (congrArg some (by kernel_rfl)),
  f205 := Tryz.func109.trans (congrArg some (by kernel_rfl)),
  f243 := Tryz.func59.trans (congrArg some (by kernel_rfl)),
  f244 := Tryz.func86.trans (congrArg some (by kernel_rfl)),
  f245 := Tryz.func87.trans (congrArg some (by kernel_rfl)),
  f246 := Tryz.func70.trans (congrArg some (by kernel_rfl)),
  f247 := Tryz.func98.trans (congrArg some (by kernel_rfl)),
  f279 := Tryz.func99.trans (congrArg some (by kernel_rfl)),
  f280 := Tryz.func100.trans (congrArg some (by kernel_rfl)),
  f281 := Tryz.func101.trans (congrArg some (by kernel_rfl)),
  f282 := Tryz.func102.trans (congrArg some (by kernel_rfl)),
  f283 := Tryz.func79.trans (congrArg some (by kernel_rfl)),
  f284 := Tryz.func80.trans (congrArg some (by kernel_rfl)),
  f285 := Tryz.func81.trans (congrArg some (by kernel_rfl)),
  f286 := Tryz.func82.trans (congrArg some (by kernel_rfl)),
  f287 := Tryz.func107.trans (congrArg some (by kernel_rfl)),
  f316 := Tryz.func108.trans (congrArg some (by kernel_rfl)),
  f317 := Tryz.func90.trans (congrArg some (by kernel_rfl)),
  f318 := Tryz.func92.trans (congrArg some (by kernel_rfl)),
  f319 := Tryz.func93.trans (congrArg some (by kernel_rfl)),
  f320 := Tryz.func94.trans (congrArg some (by kernel_rfl)),
  f321 := Tryz.func110.trans (congrArg some (by kernel_rfl)),
  f322 := Tryz.func111.trans (congrArg some (by kernel_rfl)),
  f337 := Tryz.func104.trans (congrArg some (by kernel_rfl)),
  f338 := Tryz.func105.trans (congrArg some (by kernel_rfl)),
  t0 := Tryz.underlying0,
  a0 := Tryz.isAgg0,
  z0 := Tryz.sizeOf0,
  v0 := Tryz.zeroValue0,
  t2 := Tryz.underlying2,
  a2 := Tryz.isAgg2,
  z2 := Tryz.sizeOf2,
  v2 := Tryz.zeroValue2,
  t3 := Tryz.underlying3,
  a3 := Tryz.isAgg3,
  z3 := Tryz.sizeOf3,
  v3 := Tryz.zeroValue3,
  t4 := Tryz.underlying4,
  a4 := Tryz.isAgg4,
  z4 := Tryz.sizeOf4,
  v4 := Tryz.zeroValue4,
  t5 := Tryz.underlying5,
  a5 := Tryz.isAgg5,
  z5 := Tryz.sizeOf5,
  v5 := Tryz.zeroValue5,
  t9 := Tryz.underlying9,
  a9 := Tryz.isAgg9,
  z9 := Tryz.sizeOf9,
  v9 := Tryz.zeroValue9,
  t20 := Tryz.underlying20,
  a20 := Tryz.isAgg20,
  z20 := Tryz.sizeOf20,
  v20 := Tryz.zeroValue20,
  t21 := Tryz.underlying21,
  a21 := Tryz.isAgg21,
  z21 := Tryz.sizeOf21,
  v21 := Tryz.zeroValue21,
  t37 := Tryz.underlying43,
  a37 := Tryz.isAgg43,
  z37 := Tryz.sizeOf43,
  v37 := Tryz.zeroValue43,
  t46 := Tryz.underlying90,
  a46 := Tryz.isAgg90,
  z46 := Tryz.sizeOf90,
  v46 := Tryz.zeroValue90,
  t51 := Tryz.underlying99,
  a51 := Tryz.isAgg99,
  z51 := Tryz.sizeOf99,
  v51 := Tryz.zeroValue99,
  t53 := Tryz.underlying107,
  a53 := Tryz.isAgg107,
  z53 := Tryz.sizeOf107,
  v53 := Tryz.zeroValue107,
  t75 := Tryz.underlying48,
  a75 := Tryz.isAgg48,
  z75 := Tryz.sizeOf48,
  v75 := Tryz.zeroValue48,
  t76 := Tryz.underlying49,
  a76 := Tryz.isAgg49,
  z76 := Tryz.sizeOf49,
  v76 := Tryz.zeroValue49,
  t85 := Tryz.underlying122,
  a85 := Tryz.isAgg122,
  z85 := Tryz.sizeOf122,
  v85 := Tryz.zeroValue122,
  t127 := Tryz.underlying70,
  a127 := Tryz.isAgg70,
  z127 := Tryz.sizeOf70,
  v127 := Tryz.zeroValue70,
  t143 := Tryz.underlying141,
  a143 := Tryz.isAgg141,
  z143 := Tryz.sizeOf141,
  v143 := Tryz.zeroValue141,
  t145 := Tryz.underlying143,
  a145 := Tryz.isAgg143,
  z145 := Tryz.sizeOf143,
  v145 := Tryz.zeroValue143,
  t167 := Tryz.underlying121,
  a167 := Tryz.isAgg121,
  z167 := Tryz.sizeOf121,
  v167 := Tryz.zeroValue121,
  t168 := Tryz.underlying124,
  a168 := Tryz.isAgg124,
  z168 := Tryz.sizeOf124,
  v168 := Tryz.zeroValue124,
  t171 := Tryz.underlying106,
  a171 := Tryz.isAgg106,
  z171 := Tryz.sizeOf106,
  v171 := Tryz.zeroValue106,
  t173 := Tryz.underlying110,
  a173 := Tryz.isAgg110,
  z173 := Tryz.sizeOf110,
  v173 := Tryz.zeroValue110,
  t175 := Tryz.underlying129,
  a175 := Tryz.isAgg129,
  z175 := Tryz.sizeOf129,
  v175 := Tryz.zeroValue129,
  t210 := Tryz.underlying132,
  a210 := Tryz.isAgg132,
  z210 := Tryz.sizeOf132,
  v210 := Tryz.zeroValue132,
  t212 := Tryz.underlying115,
  a212 := Tryz.isAgg115,
  z212 := Tryz.sizeOf115,
  v212 := Tryz.zeroValue115,
  t213 := Tryz.underlying116,
  a213 := Tryz.isAgg116,
  z213 := Tryz.sizeOf116,
  t232 := Tryz.underlying134,
  a232 := Tryz.isAgg134,
  z232 := Tryz.sizeOf134,
  v232 := Tryz.zeroValue134,
  t233 := Tryz.underlying135,
  a233 := Tryz.isAgg135,
  z233 := Tryz.sizeOf135,
  v233 := Tryz.zeroValue135,
  g15 := by kernel_rfl,
  g16 := by kernel_rfl,
  g17 := by kernel_rfl,
  g18 := by kernel_rfl,
  g19 := by kernel_rfl,
  t80 := Tryz.underlying53,
  a80 := Tryz.isAgg53,
  z80 := Tryz.sizeOf53,
  v80 := Tryz.zeroValue53,
  i0 := by kernel_rfl,
  i2 := by kernel_rfl,
  i3 := by kernel_rfl,
  i4 := by kernel_rfl,
  i5 := by kernel_rfl,
  i9 := by kernel_rfl,
  i20 := by kernel_rfl,
  i21 := by kernel_rfl,
  i37 := by kernel_rfl,
  i46 := by kernel_rfl,
  i51 := by kernel_rfl,
  i53 := by kernel_rfl,
  i75 := by kernel_rfl,
  i76 := by kernel_rfl,
  i80 := by kernel_rfl,
  i85 := by kernel_rfl,
  i127 := by kernel_rfl,
  i143 := by kernel_rfl,
  i145 := by kernel_rfl,
  i167 := by kernel_rfl,
  i168 := by kernel_rfl,
  i171 := by kernel_rfl,
  i173 := by kernel_rfl,
  i175 := by kernel_rfl,
  i210 := by kernel_rfl,
  i212 := by kernel_rfl,
  i232 := by kernel_rfl,
  i233 := by kernel_rfl,
  m15 := by kernel_rfl,
  m16 := by kernel_rfl,
  m17 := by kernel_rfl,
  m18 := by kernel_rfl,
  m19 := by kernel_rfl,
  c0 := by kernel_rfl,
  c2 := by kernel_rfl,
  c3 := by kernel_rfl,
  c4 := by kernel_rfl,
  c5 := by kernel_rfl,
  c9 := by kernel_rfl,
  c20 := by kernel_rfl,
  c21 := by kernel_rfl,
  c37 := by kernel_rfl,
  c46 := by kernel_rfl,
  c51 := by kernel_rfl,
  c53 := by kernel_rfl,
  c75 := by kernel_rfl,
  c76 := by kernel_rfl,
  c80 := by kernel_rfl,
  c85 := by kernel_rfl,
  c127 := by kernel_rfl,
  c143 := by kernel_rfl,
  c145 := by kernel_rfl,
  c167 := by kernel_rfl,
  c168 := by kernel_rfl,
  c171 := by kernel_rfl,
  c173 := by kernel_rfl,
  c175 := by kernel_rfl,
  c210 := by kernel_rfl,
  c212 := by kernel_rfl,
  c213 := by kernel_rfl,
  c232 := by kernel_rfl,
  c233 := by kernel_rfl }
def lays146_ren : Go.Shelf.Ren := ⟨fun | 146 => 66 | 221 => 74 | 268 => 83 | 138 => 84 | 143 => 85 | 195 => 95 | 197 => 96 | 218 => 97 | 219 => 48 | 260 => 106 | 217 => 62 | 225 => 63 | 224 => 64 | 267 => 65 | 266 => 72 | 314 => 73 | n => n, fun | 9 => 9 | 31 => 67 | 3 => 3 | 4 => 4 | 0 => 0 | 105 => 119 | 21 => 21 | 5 => 5 | 46 => 90 | 119 => 136 | 139 => 139 | 138 => 138 | 146 => 100 | 51 => 99 | 20 => 20 | n => n, fun | 1 => 0 | 3 => 6 | 4 => 7 | n => n⟩
theorem lays146 : Go.Proofs.LaysM.n146 Tryz.prog lays146_ren := {
  mixed := by kernel_rfl,
  f138 := Tryz.func84.trans (congrArg some (by kernel_rfl)),
  f143 := Tryz.func85.trans (congrArg some (by kernel_rfl)),
  f146 := Tryz.func66.trans (congrArg some (by kernel_rfl)),
  f195 := Tryz.func95.trans (congrArg some (by kernel_rfl)),
  f197 := Tryz.func96.trans (congrArg some (by kernel_rfl)),
  f217 := Tryz.func62.trans (congrArg some (by kernel_rfl)),
  f218 := Tryz.func97.trans (congrArg some (by kernel_rfl)),
  f219 := Tryz.func48.trans (congrArg some (by kernel_rfl)),
  f221 := Tryz.func74.trans (congrArg some (by kernel_rfl)),
  f224 := Tryz.func64.trans (congrArg some (by kernel_rfl)),
  f225 := Tryz.func63.trans (congrArg some (by kernel_rfl)),
  f260 := Tryz.func106.trans (congrArg some (by kernel_rfl)),
  f266 := Tryz.func72.trans (congrArg some (by kernel_rfl)),
  f267 := Tryz.func65.trans (congrArg some (by kernel_rfl)),
  f268 := Tryz.func83.trans (congrArg some (by kernel_rfl)),
  f314 := Tryz.func73.trans (congrArg some (by kernel_rfl)),
  t0 := Tryz.underlying0,
  a0 := Tryz.isAgg0,
  z0 := Tryz.sizeOf0,
  v0 := Tryz.zeroValue0,
  t3 := Tryz.underlying3,
  a3 := Tryz.isAgg3,
  z3 := Tryz.sizeOf3,
  v3 := Tryz.zeroValue3,
  t4 := Tryz.underlying4,
  a4 := Tryz.isAgg4,
  z4 := Tryz.sizeOf4,
  v4 := Tryz.zeroValue4,
  t5 := Tryz.underlying5,
  a5 := Tryz.isAgg5,
  z5 := Tryz.sizeOf5,
  v5 := Tryz.zeroValue5,
  t9 := Tryz.underlying9,
  a9 := Tryz.isAgg9,
  z9 := Tryz.sizeOf9,
  v9 := Tryz.zeroValue9,
  t21 := Tryz.underlying21,
  a21 := Tryz.isAgg21,
  z21 := Tryz.sizeOf21,
  v21 := Tryz.zeroValue21,
  t31 := Tryz.underlying67,
  a31 := Tryz.isAgg67,
  z31 := Tryz.sizeOf67,
  v31 := Tryz.zeroValue67,
  t46 := Tryz.underlying90,
  a46 := Tryz.isAgg90,
  z46 := Tryz.sizeOf90,
  v46 := Tryz.zeroValue90,
  t51 := Tryz.underlying99,
  a51 := Tryz.isAgg99,
  z51 := Tryz.sizeOf99,
  v51 := Tryz.zeroValue99,
  t105 := Tryz.underlying119,
  a105 := Tryz.isAgg119,
  z105 := Tryz.sizeOf119,
  v105 := Tryz.zeroValue119,
  t119 := Tryz.underlying136,
  a119 := Tryz.isAgg136,
  z119 := Tryz.sizeOf136,
  t138 := Tryz.underlying138,
  a138 := Tryz.isAgg138,
  z138 := Tryz.sizeOf138,
  v138 := Tryz.zeroValue138,
  t139 := Tryz.underlying139,
  a139 := Tryz.isAgg139,
  z139 := Tryz.sizeOf139,
  v139 := Tryz.zeroValue139,
  t146 := Tryz.underlying100,
  a146 := Tryz.isAgg100,
  z146 := Tryz.sizeOf100,
  v146 := Tryz.zeroValue100,
  g1 := by kernel_rfl,
  g3 := by kernel_rfl,
  g4 := by kernel_rfl,
  i0 := by kernel_rfl,
  i3 := by kernel_rfl,
  i4 := by kernel_rfl,
  i5 := by kernel_rfl,
  i9 := by kernel_rfl,
  i21 := by kernel_rfl,
  i31 := by kernel_rfl,
  i46 := by kernel_rfl,
  i51 := by kernel_rfl,
  i105 := by kernel_rfl,
  i138 := by kernel_rfl,
  i139 := by kernel_rfl,
  i146 := by kernel_rfl,
  m1 := by kernel_rfl,
  s1_3 := fun w h => Go.Proofs.cell_of_shapedOpen_int (zero := #[.int .i64 0]) (t := 3) h (of_decide_eq_true (by kernel_rfl)) (by kernel_rfl) rfl (by kernel_rfl) (by kernel_rfl) Tryz.underlying3,
  m3 := by kernel_rfl,
  m4 := by kernel_rfl }
def lays147_ren : Go.Shelf.Ren := ⟨fun | 147 => 68 | 221 => 74 | 268 => 83 | 138 => 84 | 143 => 85 | 195 => 95 | 197 => 96 | 218 => 97 | 219 => 48 | 260 => 106 | 217 => 62 | 225 => 63 | 224 => 64 | 267 => 65 | 266 => 72 | 314 => 73 | n => n, fun | 9 => 9 | 3 => 3 | 31 => 67 | 4 => 4 | 0 => 0 | 105 => 119 | 21 => 21 | 5 => 5 | 46 => 90 | 119 => 136 | 139 => 139 | 138 => 138 | 146 => 100 | 51 => 99 | 20 => 20 | n => n, fun | 1 => 0 | 3 => 6 | 4 => 7 | n => n⟩
theorem lays147 : Go.Proofs.LaysM.n147 Tryz.prog lays147_ren := {
  mixed := by kernel_rfl,
  f138 := Tryz.func84.trans (congrArg some (by kernel_rfl)),
  f143 := Tryz.func85.trans (congrArg some (by kernel_rfl)),
  f147 := Tryz.func68.trans (congrArg some (by kernel_rfl)),
  f195 := Tryz.func95.trans (congrArg some (by kernel_rfl)),
  f197 := Tryz.func96.trans (congrArg some (by kernel_rfl)),
  f217 := Tryz.func62.trans (congrArg some (by kernel_rfl)),
  f218 := Tryz.func97.trans (congrArg some (by kernel_rfl)),
  f219 := Tryz.func48.trans (congrArg some (by kernel_rfl)),
  f221 := Tryz.func74.trans (congrArg some (by kernel_rfl)),
  f224 := Tryz.func64.trans (congrArg some (by kernel_rfl)),
  f225 := Tryz.func63.trans (congrArg some (by kernel_rfl)),
  f260 := Tryz.func106.trans (congrArg some (by kernel_rfl)),
  f266 := Tryz.func72.trans (congrArg some (by kernel_rfl)),
  f267 := Tryz.func65.trans (congrArg some (by kernel_rfl)),
  f268 := Tryz.func83.trans (congrArg some (by kernel_rfl)),
  f314 := Tryz.func73.trans (congrArg some (by kernel_rfl)),
  t0 := Tryz.underlying0,
  a0 := Tryz.isAgg0,
  z0 := Tryz.sizeOf0,
  v0 := Tryz.zeroValue0,
  t3 := Tryz.underlying3,
  a3 := Tryz.isAgg3,
  z3 := Tryz.sizeOf3,
  v3 := Tryz.zeroValue3,
  t4 := Tryz.underlying4,
  a4 := Tryz.isAgg4,
  z4 := Tryz.sizeOf4,
  v4 := Tryz.zeroValue4,
  t5 := Tryz.underlying5,
  a5 := Tryz.isAgg5,
  z5 := Tryz.sizeOf5,
  v5 := Tryz.zeroValue5,
  t9 := Tryz.underlying9,
  a9 := Tryz.isAgg9,
  z9 := Tryz.sizeOf9,
  v9 := Tryz.zeroValue9,
  t21 := Tryz.underlying21,
  a21 := Tryz.isAgg21,
  z21 := Tryz.sizeOf21,
  v21 := Tryz.zeroValue21,
  t31 := Tryz.underlying67,
  a31 := Tryz.isAgg67,
  z31 := Tryz.sizeOf67,
  v31 := Tryz.zeroValue67,
  t46 := Tryz.underlying90,
  a46 := Tryz.isAgg90,
  z46 := Tryz.sizeOf90,
  v46 := Tryz.zeroValue90,
  t51 := Tryz.underlying99,
  a51 := Tryz.isAgg99,
  z51 := Tryz.sizeOf99,
  v51 := Tryz.zeroValue99,
  t105 := Tryz.underlying119,
  a105 := Tryz.isAgg119,
  z105 := Tryz.sizeOf119,
  v105 := Tryz.zeroValue119,
  t119 := Tryz.underlying136,
  a119 := Tryz.isAgg136,
  z119 := Tryz.sizeOf136,
  t138 := Tryz.underlying138,
  a138 := Tryz.isAgg138,
  z138 := Tryz.sizeOf138,
  v138 := Tryz.zeroValue138,
  t139 := Tryz.underlying139,
  a139 := Tryz.isAgg139,
  z139 := Tryz.sizeOf139,
  v139 := Tryz.zeroValue139,
  t146 := Tryz.underlying100,
  a146 := Tryz.isAgg100,
  z146 := Tryz.sizeOf100,
  v146 := Tryz.zeroValue100,
  g1 := by kernel_rfl,
  g3 := by kernel_rfl,
  g4 := by kernel_rfl,
  i0 := by kernel_rfl,
  i3 := by kernel_rfl,
  i4 := by kernel_rfl,
  i5 := by kernel_rfl,
  i9 := by kernel_rfl,
  i21 := by kernel_rfl,
  i31 := by kernel_rfl,
  i46 := by kernel_rfl,
  i51 := by kernel_rfl,
  i105 := by kernel_rfl,
  i138 := by kernel_rfl,
  i139 := by kernel_rfl,
  i146 := by kernel_rfl,
  m1 := by kernel_rfl,
  s1_3 := fun w h => Go.Proofs.cell_of_shapedOpen_int (zero := #[.int .i64 0]) (t := 3) h (of_decide_eq_true (by kernel_rfl)) (by kernel_rfl) rfl (by kernel_rfl) (by kernel_rfl) Tryz.underlying3,
  m3 := by kernel_rfl,
  m4 := by kernel_rfl }
def lays145_ren : Go.Shelf.Ren := ⟨fun | 145 => 14 | 220 => 34 | 219 => 48 | 217 => 62 | 225 => 63 | 224 => 64 | 267 => 65 | 266 => 72 | 314 => 73 | n => n, fun | 9 => 9 | 4 => 4 | 59 => 54 | 3 => 3 | 5 => 5 | 46 => 90 | 146 => 100 | 51 => 99 | 20 => 20 | n => n, fun | 1 => 0 | n => n⟩
theorem lays145 : Go.Proofs.LaysM.n145 Tryz.prog lays145_ren := {
  mixed := by kernel_rfl,
  f145 := Tryz.func14.trans (congrArg some (by kernel_rfl)),
  f217 := Tryz.func62.trans (congrArg some (by kernel_rfl)),
  f219 := Tryz.func48.trans (congrArg some (by kernel_rfl)),
  f220 := Tryz.func34.trans (congrArg some (by kernel_rfl)),
  f224 := Tryz.func64.trans (congrArg some (by kernel_rfl)),
  f225 := Tryz.func63.trans (congrArg some (by kernel_rfl)),
  f266 := Tryz.func72.trans (congrArg some (by kernel_rfl)),
  f267 := Tryz.func65.trans (congrArg some (by kernel_rfl)),
  f314 := Tryz.func73.trans (congrArg some (by kernel_rfl)),
  t3 := Tryz.underlying3,
  a3 := Tryz.isAgg3,
  z3 := Tryz.sizeOf3,
  v3 := Tryz.zeroValue3,
  t4 := Tryz.underlying4,
  a4 := Tryz.isAgg4,
  z4 := Tryz.sizeOf4,
  v4 := Tryz.zeroValue4,
  t5 := Tryz.underlying5,
  a5 := Tryz.isAgg5,
  z5 := Tryz.sizeOf5,
  v5 := Tryz.zeroValue5,
  t9 := Tryz.underlying9,
  a9 := Tryz.isAgg9,
  z9 := Tryz.sizeOf9,
  v9 := Tryz.zeroValue9,
  t46 := Tryz.underlying90,
  a46 := Tryz.isAgg90,
  z46 := Tryz.sizeOf90,
  v46 := Tryz.zeroValue90,
  t51 := Tryz.underlying99,
  a51 := Tryz.isAgg99,
  z51 := Tryz.sizeOf99,
  v51 := Tryz.zeroValue99,
  t59 := Tryz.underlying54,
  a59 := Tryz.isAgg54,
  z59 := Tryz.sizeOf54,
  v59 := Tryz.zeroValue54,
  t146 := Tryz.underlying100,
  a146 := Tryz.isAgg100,
  z146 := Tryz.sizeOf100,
  v146 := Tryz.zeroValue100,
  g1 := by kernel_rfl,
  i3 := by kernel_rfl,
  i4 := by kernel_rfl,
  i5 := by kernel_rfl,
  i9 := by kernel_rfl,
  i46 := by kernel_rfl,
  i51 := by kernel_rfl,
  i59 := by kernel_rfl,
  i146 := by kernel_rfl,
  m1 := by kernel_rfl,
  s1_3 := fun w h => Go.Proofs.cell_of_shapedOpen_int (zero := #[.int .i64 0]) (t := 3) h (of_decide_eq_true (by kernel_rfl)) (by kernel_rfl) rfl (by kernel_rfl) (by kernel_rfl) Tryz.underlying3 }
def lays101_ren : Go.Shelf.Ren := ⟨fun | 101 => 77 | 208 => 89 | 206 => 103 | n => n, fun | 9 => 9 | 4 => 4 | 3 => 3 | 20 => 20 | n => n, fun | n => n⟩
theorem lays101 : Go.Proofs.Lays.n101 Tryz.prog lays101_ren := {
  mixed := by kernel_rfl,
  f101 := Tryz.func77.trans (congrArg some (by kernel_rfl)),
  f206 := Tryz.func103.trans (congrArg some (by kernel_rfl)),
  f208 := Tryz.func89.trans (congrArg some (by kernel_rfl)),
  t3 := Tryz.underlying3,
  a3 := Tryz.isAgg3,
  z3 := Tryz.sizeOf3,
  v3 := Tryz.zeroValue3,
  t4 := Tryz.underlying4,
  a4 := Tryz.isAgg4,
  z4 := Tryz.sizeOf4,
  v4 := Tryz.zeroValue4,
  t9 := Tryz.underlying9,
  a9 := Tryz.isAgg9,
  z9 := Tryz.sizeOf9,
  v9 := Tryz.zeroValue9 }
def lays103_ren : Go.Shelf.Ren := ⟨fun | 103 => 76 | 210 => 88 | 206 => 103 | n => n, fun | 9 => 9 | 4 => 4 | 24 => 40 | 3 => 3 | 20 => 20 | n => n, fun | n => n⟩
theorem lays103 : Go.Proofs.Lays.n103 Tryz.prog lays103_ren := {
  mixed := by kernel_rfl,
  f103 := Tryz.func76.trans (congrArg some (by kernel_rfl)),
  f206 := Tryz.func103.trans (congrArg some (by kernel_rfl)),
  f210 := Tryz.func88.trans (congrArg some (by kernel_rfl)),
  t3 := Tryz.underlying3,
  a3 := Tryz.isAgg3,
  z3 := Tryz.sizeOf3,
  v3 := Tryz.zeroValue3,
  t4 := Tryz.underlying4,
  a4 := Tryz.isAgg4,
  z4 := Tryz.sizeOf4,
  v4 := Tryz.zeroValue4,
  t9 := Tryz.underlying9,
  a9 := Tryz.isAgg9,
  z9 := Tryz.sizeOf9,
  v9 := Tryz.zeroValue9,
  t24 := Tryz.underlying40,
  a24 := Tryz.isAgg40,
  z24 := Tryz.sizeOf40,
  v24 := Tryz.zeroValue40 }
def lays156_ren : Go.Shelf.Ren := ⟨fun | 156 => 33 | 165 => 47 | 166 => 10 | 169 => 13 | 240 => 29 | 241 => 61 | 276 => 44 | 277 => 71 | n => n, fun | 31 => 67 | 9 => 9 | 3 => 3 | 4 => 4 | 0 => 0 | 20 => 20 | 72 => 45 | 76 => 49 | 70 => 42 | 37 => 43 | 75 => 48 | 127 => 70 | 164 => 79 | 5 => 5 | 80 => 53 | n => n, fun | n => n⟩
theorem lays156 : Go.Proofs.Lays.n156 Tryz.prog lays156_ren := {
  mixed := by kernel_rfl,
  f156 := Tryz.func33.trans (congrArg some (by kernel_rfl)),
  f165 := Tryz.func47.trans (congrArg some (by kernel_rfl)),
  f166 := Tryz.func10.trans (congrArg some (by kernel_rfl)),
  f169 := Tryz.func13.trans (congrArg some (by kernel_rfl)),
  f240 := Tryz.func29.trans (congrArg some (by kernel_rfl)),
  f241 := Tryz.func61.trans (congrArg some (by kernel_rfl)),
  f276 := Tryz.func44.trans (congrArg some (by kernel_rfl)),
  f277 := Tryz.func71.trans (congrArg some (by kernel_rfl)),
  t0 := Tryz.underlying0,
  a0 := Tryz.isAgg0,
  z0 := Tryz.sizeOf0,
  v0 := Tryz.zeroValue0,
  t3 := Tryz.underlying3,
  a3 := Tryz.isAgg3,
  z3 := Tryz.sizeOf3,
  v3 := Tryz.zeroValue3,
  t4 := Tryz.underlying4,
  a4 := Tryz.isAgg4,
  z4 := Tryz.sizeOf4,
  v4 := Tryz.zeroValue4,
  t9 := Tryz.underlying9,
  a9 := Tryz.isAgg9,
  z9 := Tryz.sizeOf9,
  v9 := Tryz.zeroValue9,
  t20 := Tryz.underlying20,
  a20 := Tryz.isAgg20,
  z20 := Tryz.sizeOf20,
  v20 := Tryz.zeroValue20,
  t31 := Tryz.underlying67,
  a31 := Tryz.isAgg67,
  z31 := Tryz.sizeOf67,
  v31 := Tryz.zeroValue67,
  t37 := Tryz.underlying43,
  a37 := Tryz.isAgg43,
  z37 := Tryz.sizeOf43,
  v37 := Tryz.zeroValue43,
  t70 := Tryz.underlying42,
  a70 := Tryz.isAgg42,
  z70 := Tryz.sizeOf42,
  v70 := Tryz.zeroValue42,
  t72 := Tryz.underlying45,
  a72 := Tryz.isAgg45,
  z72 := Tryz.sizeOf45,
  v72 := Tryz.zeroValue45,
  t75 := Tryz.underlying48,
  a75 := Tryz.isAgg48,
  z75 := Tryz.sizeOf48,
  v75 := Tryz.zeroValue48,
  t76 := Tryz.underlying49,
  a76 := Tryz.isAgg49,
  z76 := Tryz.sizeOf49,
  v76 := Tryz.zeroValue49,
  t127 := Tryz.underlying70,
  a127 := Tryz.isAgg70,
  z127 := Tryz.sizeOf70,
  v127 := Tryz.zeroValue70,
  t164 := Tryz.underlying79,
  a164 := Tryz.isAgg79,
  z164 := Tryz.sizeOf79,
  v164 := Tryz.zeroValue79 }
def lays166_ren : Go.Shelf.Ren := ⟨fun | 166 => 10 | 240 => 29 | 276 => 44 | n => n, fun | 70 => 42 | 9 => 9 | 3 => 3 | 75 => 48 | 0 => 0 | 72 => 45 | 37 => 43 | 4 => 4 | 164 => 79 | 80 => 53 | 5 => 5 | 20 => 20 | n => n, fun | n => n⟩
theorem lays166 : Go.Proofs.Lays.n166 Tryz.prog lays166_ren := {
  mixed := by kernel_rfl,
  f166 := Tryz.func10.trans (congrArg some (by kernel_rfl)),
  f240 := Tryz.func29.trans (congrArg some (by kernel_rfl)),
  f276 := Tryz.func44.trans (congrArg some (by kernel_rfl)),
  t0 := Tryz.underlying0,
  a0 := Tryz.isAgg0,
  z0 := Tryz.sizeOf0,
  v0 := Tryz.zeroValue0,
  t3 := Tryz.underlying3,
  a3 := Tryz.isAgg3,
  z3 := Tryz.sizeOf3,
  v3 := Tryz.zeroValue3,
  t4 := Tryz.underlying4,
  a4 := Tryz.isAgg4,
  z4 := Tryz.sizeOf4,
  v4 := Tryz.zeroValue4,
  t9 := Tryz.underlying9,
  a9 := Tryz.isAgg9,
  z9 := Tryz.sizeOf9,
  v9 := Tryz.zeroValue9,
  t20 := Tryz.underlying20,
  a20 := Tryz.isAgg20,
  z20 := Tryz.sizeOf20,
  v20 := Tryz.zeroValue20,
  t37 := Tryz.underlying43,
  a37 := Tryz.isAgg43,
  z37 := Tryz.sizeOf43,
  v37 := Tryz.zeroValue43,
  t70 := Tryz.underlying42,
  a70 := Tryz.isAgg42,
  z70 := Tryz.sizeOf42,
  v70 := Tryz.zeroValue42,
  t72 := Tryz.underlying45,
  a72 := Tryz.isAgg45,
  z72 := Tryz.sizeOf45,
  v72 := Tryz.zeroValue45,
  t75 := Tryz.underlying48,
  a75 := Tryz.isAgg48,
  z75 := Tryz.sizeOf48,
  v75 := Tryz.zeroValue48,
  t164 := Tryz.underlying79,
  a164 := Tryz.isAgg79,
  z164 := Tryz.sizeOf79,
  v164 := Tryz.zeroValue79 }
def lays167_ren : Go.Shelf.Ren := ⟨fun | 167 => 60 | 240 => 29 | 276 => 44 | n => n, fun | 70 => 42 | 5 => 5 | 75 => 48 | 0 => 0 | 72 => 45 | 37 => 43 | 4 => 4 | 164 => 79 | 80 => 53 | 9 => 9 | 20 => 20 | n => n, fun | n => n⟩
theorem lays167 : Go.Proofs.Lays.n167 Tryz.prog lays167_ren := {
  mixed := by kernel_rfl,
  f167 := Tryz.func60.trans (congrArg some (by kernel_rfl)),
  f240 := Tryz.func29.trans (congrArg some (by kernel_rfl)),
  f276 := Tryz.func44.trans (congrArg some (by kernel_rfl)),
  t0 := Tryz.underlying0,
  a0 := Tryz.isAgg0,
  z0 := Tryz.sizeOf0,
  v0 := Tryz.zeroValue0,
  t4 := Tryz.underlying4,
  a4 := Tryz.isAgg4,
  z4 := Tryz.sizeOf4,
  v4 := Tryz.zeroValue4,
  t5 := Tryz.underlying5,
  a5 := Tryz.isAgg5,
  z5 := Tryz.sizeOf5,
  v5 := Tryz.zeroValue5,
  t9 := Tryz.underlying9,
  a9 := Tryz.isAgg9,
  z9 := Tryz.sizeOf9,
  v9 := Tryz.zeroValue9,
  t20 := Tryz.underlying20,
  a20 := Tryz.isAgg20,
  z20 := Tryz.sizeOf20,
  v20 := Tryz.zeroValue20,
  t37 := Tryz.underlying43,
  a37 := Tryz.isAgg43,
  z37 := Tryz.sizeOf43,
  v37 := Tryz.zeroValue43,
  t70 := Tryz.underlying42,
  a70 := Tryz.isAgg42,
  z70 := Tryz.sizeOf42,
  v70 := Tryz.zeroValue42,
  t72 := Tryz.underlying45,
  a72 := Tryz.isAgg45,
  z72 := Tryz.sizeOf45,
  v72 := Tryz.zeroValue45,
  t75 := Tryz.underlying48,
  a75 := Tryz.isAgg48,
  z75 := Tryz.sizeOf48,
  v75 := Tryz.zeroValue48,
  t164 := Tryz.underlying79,
  a164 := Tryz.isAgg79,
  z164 := Tryz.sizeOf79,
  v164 := Tryz.zeroValue79 }
def lays169_ren : Go.Shelf.Ren := ⟨fun | 169 => 13 | n => n, fun | 70 => 42 | 9 => 9 | 0 => 0 | 72 => 45 | 37 => 43 | 127 => 70 | 3 => 3 | 5 => 5 | 20 => 20 | n => n, fun | n => n⟩
theorem lays169 : Go.Proofs.Lays.n169 Tryz.prog lays169_ren := {
  mixed := by kernel_rfl,
  f169 := Tryz.func13.trans (congrArg some (by kernel_rfl)),
  t0 := Tryz.underlying0,
  a0 := Tryz.isAgg0,
  z0 := Tryz.sizeOf0,
  v0 := Tryz.zeroValue0,
  t3 := Tryz.underlying3,
  a3 := Tryz.isAgg3,
  z3 := Tryz.sizeOf3,
  v3 := Tryz.zeroValue3,
  t9 := Tryz.underlying9,
  a9 := Tryz.isAgg9,
  z9 := Tryz.sizeOf9,
  v9 := Tryz.zeroValue9,
  t37 := Tryz.underlying43,
  a37 := Tryz.isAgg43,
  z37 := Tryz.sizeOf43,
  v37 := Tryz.zeroValue43,
  t70 := Tryz.underlying42,
  a70 := Tryz.isAgg42,
  z70 := Tryz.sizeOf42,
  v70 := Tryz.zeroValue42,
  t72 := Tryz.underlying45,
  a72 := Tryz.isAgg45,
  z72 := Tryz.sizeOf45,
  v72 := Tryz.zeroValue45,
  t127 := Tryz.underlying70,
  a127 := Tryz.isAgg70,
  z127 := Tryz.sizeOf70,
  v127 := Tryz.zeroValue70 }
def lays170_ren : Go.Shelf.Ren := ⟨fun | 170 => 12 | n => n, fun | 70 => 42 | 3 => 3 | 0 => 0 | 72 => 45 | 37 => 43 | 5 => 5 | 20 => 20 | n => n, fun | n => n⟩
theorem lays170 : Go.Proofs.Lays.n170 Tryz.prog lays170_ren := {
  mixed := by kernel_rfl,
  f170 := Tryz.func12.trans (congrArg some (by kernel_rfl)),
  t0 := Tryz.underlying0,
  a0 := Tryz.isAgg0,
  z0 := Tryz.sizeOf0,
  v0 := Tryz.zeroValue0,
  t3 := Tryz.underlying3,
  a3 := Tryz.isAgg3,
  z3 := Tryz.sizeOf3,
  v3 := Tryz.zeroValue3,
  t37 := Tryz.underlying43,
  a37 := Tryz.isAgg43,
  z37 := Tryz.sizeOf43,
  v37 := Tryz.zeroValue43,
  t70 := Tryz.underlying42,
  a70 := Tryz.isAgg42,
  z70 := Tryz.sizeOf42,
  v70 := Tryz.zeroValue42,
  t72 := Tryz.underlying45,
  a72 := Tryz.isAgg45,
  z72 := Tryz.sizeOf45,
  v72 := Tryz.zeroValue45 }
end Go.Proofs.YtkfmncmhagpajaaGreatDoor
set_option linter.unusedSimpArgs false
set_option linter.unusedVariables false
namespace Go.Proofs.YtkfmncmhagpajaaGreatDoor.AM
open Go
inductive PV where
  | v (x : Value)
  | sl (full : Bool) (es : Nat) (rows : List (List PV))
mutual
def PV.R (M : Nat → Prop) (w : World) : PV → Value → Prop
  | .v x, u => u = x ∧ x.oneCell' = true
  | .sl full es rows, u => ∃ (a : Option Addr) (cap : Nat), u = .slice a rows.length cap ∧ rows.length ≤ cap ∧ (full = true → cap = rows.length) ∧
      (a = none → cap = 0) ∧ ∀ ad, a = some ad → cap ≠ 0 → ad.spot = none ∧ ¬ M ad.block ∧ ad.block < w.heap.size ∧ PV.Rows M w ad.block es ad.off rows
def PV.Rows (M : Nat → Prop) (w : World) (b es : Nat) : Nat → List (List PV) → Prop
  | _, [] => True
  | off, r :: rs => r.length = es ∧ PV.Cells M w b off r ∧ PV.Rows M w b es (off + es) rs
def PV.Cells (M : Nat → Prop) (w : World) (b : Nat) : Nat → List PV → Prop
  | _, [] => True
  | off, c :: cs => (∃ u, w.cell? ⟨b, off, none⟩ = some u ∧ PV.R M w c u) ∧ PV.Cells M w b (off + 1) cs
end
structure Ext (B : Nat → Prop) (w w' : World) : Prop where
  size : w.heap.size ≤ w'.heap.size
  same : ∀ b, b < w.heap.size → ¬ B b → w'.heap[b]? = w.heap[b]?
  os : w'.os = w.os
  out : w'.output = w.output
theorem Ext.refl (B : Nat → Prop) (w : World) : Ext B w w := ⟨Nat.le_refl _, fun _ _ _ => rfl, rfl, rfl⟩
theorem Ext.trans {B B' : Nat → Prop} {w w1 w2 : World} (h : Ext B w w1) (h' : Ext B' w1 w2) (hB : ∀ b, b < w.heap.size → B' b → B b) : Ext B w w2 :=
  ⟨Nat.le_trans h.size h'.size, fun b hb hn => by
    rw [h'.same b (Nat.lt_of_lt_of_le hb h.size) (fun hb' => hn (hB b hb hb')), h.same b hb hn], h'.os.trans h.os, h'.out.trans h.out⟩
theorem Ext.weaken {B B' : Nat → Prop} {w w' : World} (h : Ext B w w') (hB : ∀ b, b < w.heap.size → B b → B' b) : Ext B' w w' :=
  ⟨h.size, fun b hb hn => h.same b hb (fun h' => hn (hB b hb h')), h.os, h.out⟩
theorem Ext.cell {B : Nat → Prop} {w w' : World} (h : Ext B w w') {b : Nat} (hb : b < w.heap.size) (hn : ¬ B b) (o : Nat) :
    w'.cell? ⟨b, o, none⟩ = w.cell? ⟨b, o, none⟩ := by
  unfold World.cell?; rw [h.same b hb hn]
mutual
theorem PV.R.mono {M M' : Nat → Prop} {w w' : World} {B : Nat → Prop} (he : Ext B w w') (hB : ∀ b, B b → M b)
    (hM : ∀ b, b < w.heap.size → M' b → M b) : ∀ {x : PV} {u : Value}, x.R M w u → x.R M' w' u
  | .v _, _, h => by simpa only [PV.R] using h
  | .sl full es rows, u, h => by
    simp only [PV.R] at h ⊢
    obtain ⟨a, cap, h1, h2, h3, h4, h5⟩ := h
    refine ⟨a, cap, h1, h2, h3, h4, fun ad had hc => ?_⟩
    obtain ⟨g1, g2, g3, g4⟩ := h5 ad had hc
    exact ⟨g1, fun h' => g2 (hM _ g3 h'), Nat.lt_of_lt_of_le g3 he.size, PV.Rows.mono he hB hM (fun h' => g2 (hB _ h')) g3 g4⟩
theorem PV.Rows.mono {M M' : Nat → Prop} {w w' : World} {B : Nat → Prop} (he : Ext B w w') (hB : ∀ b, B b → M b)
    (hM : ∀ b, b < w.heap.size → M' b → M b) {b es : Nat} (hb : ¬ B b) (hs : b < w.heap.size) : ∀ {off : Nat} {rows : List (List PV)}, PV.Rows M w b es off rows → PV.Rows M' w' b es off rows
  | _, [], _ => by simp only [PV.Rows]
  | off, r :: rs, h => by
    simp only [PV.Rows] at h ⊢
    exact ⟨h.1, PV.Cells.mono he hB hM hb hs h.2.1, PV.Rows.mono he hB hM hb hs h.2.2⟩
theorem PV.Cells.mono {M M' : Nat → Prop} {w w' : World} {B : Nat → Prop} (he : Ext B w w') (hB : ∀ b, B b → M b)
    (hM : ∀ b, b < w.heap.size → M' b → M b) {b : Nat} (hb : ¬ B b) (hs : b < w.heap.size) : ∀ {off : Nat} {cs : List PV}, PV.Cells M w b off cs → PV.Cells M' w' b off cs
  | _, [], _ => by simp only [PV.Cells]
  | off, c :: cs, h => by
    simp only [PV.Cells] at h ⊢
    obtain ⟨⟨u, hu, hr⟩, h2⟩ := h
    exact ⟨⟨u, by rw [he.cell hs hb]; exact hu, PV.R.mono he hB hM hr⟩, PV.Cells.mono he hB hM hb hs h2⟩
end
theorem PV.R.flat {M : Nat → Prop} {w : World} {x : PV} {u : Value} (h : x.R M w u) : u.oneCell' = true := by
  cases x with
  | v x => simp only [PV.R] at h; rw [h.1]; exact h.2
  | sl f es rows => simp only [PV.R] at h; obtain ⟨a, cap, rfl, _⟩ := h; rfl
theorem PV.Cells.get {M : Nat → Prop} {w : World} {b : Nat} : ∀ {off : Nat} {cs : List PV}, PV.Cells M w b off cs → ∀ j c, cs[j]? = some c → ∃ u, w.cell? ⟨b, off + j, none⟩ = some u ∧ c.R M w u
  | _, [], _, j, c, hj => by simp at hj
  | off, c0 :: cs, h, j, c, hj => by
    simp only [PV.Cells] at h
    cases j with
    | zero => simp at hj; subst hj; exact h.1
    | succ j =>
      have := h.2.get j c (by simpa using hj)
      rwa [Nat.add_assoc, Nat.add_comm 1 j] at this
theorem PV.Cells.of_get {M : Nat → Prop} {w : World} {b : Nat} : ∀ {off : Nat} {cs : List PV}, (∀ j c, cs[j]? = some c → ∃ u, w.cell? ⟨b, off + j, none⟩ = some u ∧ c.R M w u) → PV.Cells M w b off cs
  | _, [], _ => by simp only [PV.Cells]
  | off, c0 :: cs, h => by
    simp only [PV.Cells]
    refine ⟨by have := h 0 c0 (by simp); simpa using this, PV.Cells.of_get (fun j c hj => ?_)⟩
    have := h (j + 1) c (by simpa using hj)
    rwa [show off + (j + 1) = off + 1 + j by omega] at this
theorem PV.Cells.drop {M : Nat → Prop} {w : World} {b off : Nat} {cs : List PV} (k : Nat) (h : PV.Cells M w b off cs) : PV.Cells M w b (off + k) (cs.drop k) :=
  PV.Cells.of_get fun j c hj => by
    have := h.get (k + j) c (by simpa using hj)
    rwa [← Nat.add_assoc] at this
theorem PV.Cells.take {M : Nat → Prop} {w : World} {b off : Nat} {cs : List PV} (k : Nat) (h : PV.Cells M w b off cs) : PV.Cells M w b off (cs.take k) :=
  PV.Cells.of_get fun j c hj => by
    refine h.get j c ?_
    rw [List.getElem?_take] at hj
    split at hj
    · exact hj
    · simp at hj
theorem PV.Rows.get {M : Nat → Prop} {w : World} {b es : Nat} : ∀ {off : Nat} {rows : List (List PV)}, PV.Rows M w b es off rows → ∀ i r, rows[i]? = some r → r.length = es ∧ PV.Cells M w b (off + i * es) r
  | _, [], _, i, r, hi => by simp at hi
  | off, r0 :: rs, h, i, r, hi => by
    simp only [PV.Rows] at h
    cases i with
    | zero => simp at hi; subst hi; simpa using ⟨h.1, h.2.1⟩
    | succ i =>
      have := h.2.2.get i r (by simpa using hi)
      rwa [show off + es + i * es = off + (i + 1) * es by rw [Nat.succ_mul]; omega] at this
theorem PV.Rows.of_get {M : Nat → Prop} {w : World} {b es : Nat} : ∀ {off : Nat} {rows : List (List PV)}, (∀ i r, rows[i]? = some r → r.length = es ∧ PV.Cells M w b (off + i * es) r) → PV.Rows M w b es off rows
  | _, [], _ => by simp only [PV.Rows]
  | off, r0 :: rs, h => by
    simp only [PV.Rows]
    have h0 := h 0 r0 (by simp)
    refine ⟨h0.1, by simpa using h0.2, PV.Rows.of_get (fun i r hi => ?_)⟩
    have := h (i + 1) r (by simpa using hi)
    rwa [show off + (i + 1) * es = off + es + i * es by rw [Nat.succ_mul]; omega] at this
theorem PV.Rows.drop {M : Nat → Prop} {w : World} {b es off : Nat} {rows : List (List PV)} (k : Nat) (h : PV.Rows M w b es off rows) : PV.Rows M w b es (off + k * es) (rows.drop k) :=
  PV.Rows.of_get fun i r hi => by
    have := h.get (k + i) r (by simpa using hi)
    rwa [Nat.add_mul, ← Nat.add_assoc] at this
theorem PV.Rows.take {M : Nat → Prop} {w : World} {b es off : Nat} {rows : List (List PV)} (k : Nat) (h : PV.Rows M w b es off rows) : PV.Rows M w b es off (rows.take k) :=
  PV.Rows.of_get fun i r hi => by
    rw [List.getElem?_take] at hi
    split at hi
    · exact h.get i r hi
    · simp at hi
abbrev Name := Nat
inductive AV where
  | p (x : PV)
  | agg (cs : List AV)
  | ref (n : Name) (off : Nat)
  /-- Where the box lies, or nothing. -/
  | sref (n : Name)
  | own (n : Name) (len : Nat)
  | aref (n : Name) (len i off : Nat)
  | eptr (cells : List PV)
  /-- The rows lo to hi of an array of ours. -/
  | view (n : Name) (len lo hi : Nat)
  /-- The first k rows, with no room behind them (x[:k:k]). -/
  | cut (n : Name) (len k : Nat)
  | tup (vs : List AV)
  | clo (f : Fn) (fs : List AV) (caps : List AV)
  /-- A map (m) or an iterator: where it lies. -/
  | oref (m : Bool) (n : Name)
  /-- An error: nil (true), or not. -/
  | err (b : Bool)
  /-- A truth value that is not known. -/
  | ub
  | any
inductive AO where
  | box (cells : List AV)
  | arr (es : Nat) (rows : List (List PV))
  /-- An array of which one row may hold headers of other arrays of ours. -/
  | hole (es : Nat) (pre : List (List PV)) (row : List AV) (post : List (List PV))
  /-- No object: what is known of a value (the header of an array, say, that is kept as pure data). -/
  | fact (a : AV) (x : Value)
  /-- A map, an iterator: as it lies in the heap. -/
  | obj (x : Obj)
def AO.shape : AO → Option (Nat × Nat)
  | .box _ => none
  | .arr es rows => some (es, rows.length)
  | .hole es pre _ post => some (es, pre.length + 1 + post.length)
  | .fact _ _ => none
  | .obj _ => none
structure Loc where
  base : Option Addr
  cap : Nat
def Loc.blk (l : Loc) : Option Nat := if l.cap = 0 then none else l.base.map (·.block)
abbrev Heap := Name → Option AO
def viewV (X : Value) (lo hi es : Nat) : Value := match X with
  | .slice a l c => .slice (if c = lo then a else a.map (·.add (lo * es))) (hi - lo) (c - lo)
  | v => v
mutual
def AV.R (ρ : Name → Loc) (H : Heap) (M : Nat → Prop) (w : World) : AV → Value → Prop
  | .p x, u => x.R M w u
  | .agg cs, u => ∃ us : Array Value, u = .agg us ∧ AV.Rs ρ H M w cs us.toList
  | .ref n off, u => u.oneCell' = true ∧ ∀ cells, H n = some (.box cells) → ∃ b, (ρ n).base = some ⟨b, 0, none⟩ ∧ u = .pointer (some ⟨b, off, none⟩)
  | .sref n, u => u.oneCell' = true ∧ ∀ cells, H n = some (.box cells) → u = .pointer none ∨ ∃ b, (ρ n).base = some ⟨b, 0, none⟩ ∧ u = .pointer (some ⟨b, 0, none⟩)
  | .own n len, u => u.oneCell' = true ∧ ∀ o es k, H n = some o → o.shape = some (es, k) → len ≤ k ∧ (len = k → u = .slice (ρ n).base len (ρ n).cap)
  | .aref n len i off, u => u.oneCell' = true ∧ ∀ o es k, H n = some o → o.shape = some (es, k) → len ≤ k ∧ (len = k → ∃ b, (ρ n).base = some ⟨b, 0, none⟩ ∧ u = .pointer (some ⟨b, i * es + off, none⟩))
  | .view n len lo hi, u => u.oneCell' = true ∧ lo ≤ hi ∧ hi ≤ len ∧ ∀ o es k, H n = some o → o.shape = some (es, k) → len ≤ k ∧ (len = k → u = viewV (.slice (ρ n).base len (ρ n).cap) lo hi es)
  | .cut n len k, u => u.oneCell' = true ∧ k ≤ len ∧ ∀ o es r, H n = some o → o.shape = some (es, r) → len ≤ r ∧ (len = r → u = .slice (ρ n).base k k)
  | .eptr cells, u => ∃ ad : Addr, u = .pointer (some ad) ∧ ad.spot = none ∧ ¬ M ad.block ∧ ad.block < w.heap.size ∧ PV.Cells M w ad.block ad.off cells
  | .tup vs, u => ∃ us : Array Value, u = .tuple us ∧ AV.Ts ρ H M w vs us.toList
  | .clo f fs caps, u => ∃ a c : Array Value, u = .func f a c ∧ AV.Rs ρ H M w fs a.toList ∧ AV.Rs ρ H M w caps c.toList
  | .oref m n, u => u.oneCell' = true ∧ ∀ x, H n = some (.obj x) → ∃ b, (ρ n).base = some ⟨b, 0, none⟩ ∧ u = (if m then .map (some b) else .pointer (some ⟨b, 0, none⟩))
  | .err b, u => u.oneCell' = true ∧ (b = true → u = .nilIface) ∧ (b = false → ∃ t p, u = .iface t p)
  | .ub, u => ∃ q, u = .bool q
  | .any, u => u.oneCell' = true
def AV.Rs (ρ : Name → Loc) (H : Heap) (M : Nat → Prop) (w : World) : List AV → List Value → Prop
  | [], us => us = []
  | x :: xs, us => ∃ u us', us = u :: us' ∧ u.oneCell' = true ∧ AV.R ρ H M w x u ∧ AV.Rs ρ H M w xs us'
def AV.Ts (ρ : Name → Loc) (H : Heap) (M : Nat → Prop) (w : World) : List AV → List Value → Prop
  | [], us => us = []
  | x :: xs, us => ∃ u us', us = u :: us' ∧ AV.R ρ H M w x u ∧ AV.Ts ρ H M w xs us'
end
mutual
def AV.has (n : Name) : AV → Bool
  | .p _ => false
  | .agg cs => AV.hasL n cs
  | .ref m _ => m == n
  | .sref m => m == n
  | .own m _ => m == n
  | .aref m _ _ _ => m == n
  | .view m _ _ _ => m == n
  | .cut m _ _ => m == n
  | .eptr _ => false
  | .tup vs => AV.hasL n vs
  | .clo _ fs caps => AV.hasL n fs || AV.hasL n caps
  | .oref _ m => m == n
  | .err _ => false
  | .ub => false
  | .any => false
def AV.hasL (n : Name) : List AV → Bool
  | [] => false
  | x :: xs => AV.has n x || AV.hasL n xs
end
def AO.has (n : Name) : AO → Bool
  | .box cells => AV.hasL n cells
  | .arr _ _ => false
  | .hole _ _ row _ => AV.hasL n row
  | .fact a _ => a.has n
  | .obj _ => false
def stays : AO → Loc → Option AO → Loc → Prop
  | _, _, none, _ => True
  | .box _, l, some (.box _), l' => l' = l
  | .arr es rows, l, some (.arr es' rows'), l' => es' = es ∧ rows.length ≤ rows'.length ∧ (rows.length = rows'.length → l' = l)
  | .arr es rows, l, some (.hole es' pre _ post), l' => es' = es ∧ rows.length ≤ pre.length + 1 + post.length ∧ (rows.length = pre.length + 1 + post.length → l' = l)
  | .hole es pre _ post, l, some (.arr es' rows'), l' => es' = es ∧ pre.length + 1 + post.length ≤ rows'.length ∧ (pre.length + 1 + post.length = rows'.length → l' = l)
  | .hole es pre _ post, l, some (.hole es' pre' _ post'), l' => es' = es ∧ pre.length + 1 + post.length ≤ pre'.length + 1 + post'.length ∧ (pre.length + 1 + post.length = pre'.length + 1 + post'.length → l' = l)
  | .fact _ _, _, some (.fact _ _), _ => True
  | .obj _, l, some (.obj _), l' => l' = l
  | _, _, _, _ => False
theorem stays_refl (o : AO) (l : Loc) : stays o l (some o) l := by
  cases o <;> simp [stays]
theorem stays_shape {o : AO} {l : Loc} {o' : AO} {l' : Loc} {es k : Nat} (h : stays o l (some o') l') (hs : o'.shape = some (es, k)) : ∃ k0, o.shape = some (es, k0) ∧ k0 ≤ k ∧ (k0 = k → l' = l) := by
  cases o <;> cases o' <;> simp only [stays, AO.shape, reduceCtorEq, Option.some.injEq, Prod.mk.injEq] at h hs ⊢
  all_goals simp_all
def HStep (ρ : Name → Loc) (H : Heap) (ρ' : Name → Loc) (H' : Heap) : Prop :=
  ∀ n o, H n = some o → stays o (ρ n) (H' n) (ρ' n)
mutual
theorem AV.R.step {ρ ρ' : Name → Loc} {H H' : Heap} {M M' B : Nat → Prop} {w w' : World} (he : Ext B w w') (hB : ∀ b, B b → M b)
    (hM : ∀ b, b < w.heap.size → M' b → M b) (hs : HStep ρ H ρ' H') :
    ∀ {x : AV} {u : Value}, (∀ n, x.has n = true → H n = none → H' n = none) → x.R ρ H M w u → x.R ρ' H' M' w' u
  | .p x, u, hn, h => by simp only [AV.R] at h ⊢; exact h.mono he hB hM
  | .agg cs, u, hn, h => by
    simp only [AV.R] at h ⊢
    obtain ⟨us, h1, h2⟩ := h
    exact ⟨us, h1, AV.Rs.step he hB hM hs (fun n h0 => hn n (by simpa only [AV.has] using h0)) h2⟩
  | .ref n off, u, hn, h => by
    simp only [AV.R] at h ⊢
    refine ⟨h.1, fun cells hc => ?_⟩
    cases hH : H n with
    | none => have := hn n (by simp [AV.has]) hH; rw [this] at hc; simp at hc
    | some o =>
      have h1 := hs n o hH
      rw [hc] at h1
      cases o with
      | box cs => simp only [stays] at h1; obtain ⟨b, hb, hu⟩ := h.2 cs hH; exact ⟨b, by rw [h1]; exact hb, hu⟩
      | arr es rows => simp [stays] at h1
      | hole es pre row post => simp [stays] at h1
      | fact a x => simp [stays] at h1
      | obj x => simp [stays] at h1
  | .sref n, u, hn, h => by
    simp only [AV.R] at h ⊢
    refine ⟨h.1, fun cells hc => ?_⟩
    cases hH : H n with
    | none => have := hn n (by simp [AV.has]) hH; rw [this] at hc; simp at hc
    | some o =>
      have h1 := hs n o hH
      rw [hc] at h1
      cases o with
      | box cs => simp only [stays] at h1; exact (h.2 cs hH).imp id fun ⟨b, hb, hu⟩ => ⟨b, by rw [h1]; exact hb, hu⟩
      | arr es rows => simp [stays] at h1
      | hole es pre row post => simp [stays] at h1
      | fact a x => simp [stays] at h1
      | obj x => simp [stays] at h1
  | .own n len, u, hn, h => by
    simp only [AV.R] at h ⊢
    refine ⟨h.1, fun o' es k hc hsh => ?_⟩
    cases hH : H n with
    | none => have := hn n (by simp [AV.has]) hH; rw [this] at hc; simp at hc
    | some o =>
      have h1 := hs n o hH
      rw [hc] at h1
      obtain ⟨k0, q1, q2, q3⟩ := stays_shape h1 hsh
      obtain ⟨g1, g2⟩ := h.2 o es k0 hH q1
      refine ⟨Nat.le_trans g1 q2, fun hl => ?_⟩
      have e : k0 = k := by omega
      rw [q3 e]
      exact g2 (by omega)
  | .aref n len i off, u, hn, h => by
    simp only [AV.R] at h ⊢
    refine ⟨h.1, fun o' es k hc hsh => ?_⟩
    cases hH : H n with
    | none => have := hn n (by simp [AV.has]) hH; rw [this] at hc; simp at hc
    | some o =>
      have h1 := hs n o hH
      rw [hc] at h1
      obtain ⟨k0, q1, q2, q3⟩ := stays_shape h1 hsh
      obtain ⟨g1, g2⟩ := h.2 o es k0 hH q1
      refine ⟨Nat.le_trans g1 q2, fun hl => ?_⟩
      have e : k0 = k := by omega
      rw [q3 e]
      exact g2 (by omega)
  | .view n len lo hi, u, hn, h => by
    simp only [AV.R] at h ⊢
    refine ⟨h.1, h.2.1, h.2.2.1, fun o' es k hc hsh => ?_⟩
    cases hH : H n with
    | none => have := hn n (by simp [AV.has]) hH; rw [this] at hc; simp at hc
    | some o =>
      have h1 := hs n o hH
      rw [hc] at h1
      obtain ⟨k0, q1, q2, q3⟩ := stays_shape h1 hsh
      obtain ⟨g1, g2⟩ := h.2.2.2 o es k0 hH q1
      refine ⟨Nat.le_trans g1 q2, fun hl => ?_⟩
      have e : k0 = k := by omega
      rw [q3 e]
      exact g2 (by omega)
  | .cut n len r, u, hn, h => by
    simp only [AV.R] at h ⊢
    refine ⟨h.1, h.2.1, fun o' es k hc hsh => ?_⟩
    cases hH : H n with
    | none => have := hn n (by simp [AV.has]) hH; rw [this] at hc; simp at hc
    | some o =>
      have h1 := hs n o hH
      rw [hc] at h1
      obtain ⟨k0, q1, q2, q3⟩ := stays_shape h1 hsh
      obtain ⟨g1, g2⟩ := h.2.2 o es k0 hH q1
      refine ⟨Nat.le_trans g1 q2, fun hl => ?_⟩
      have e : k0 = k := by omega
      rw [q3 e]
      exact g2 (by omega)
  | .eptr cells, u, hn, h => by
    simp only [AV.R] at h ⊢
    obtain ⟨ad, h1, h2, h3, h4, h5⟩ := h
    exact ⟨ad, h1, h2, fun h' => h3 (hM _ h4 h'), Nat.lt_of_lt_of_le h4 he.size, h5.mono he hB hM (fun h' => h3 (hB _ h')) h4⟩
  | .tup vs, u, hn, h => by
    simp only [AV.R] at h ⊢
    obtain ⟨us, h1, h2⟩ := h
    exact ⟨us, h1, AV.Ts.step he hB hM hs (fun n h0 => hn n (by simpa only [AV.has] using h0)) h2⟩
  | .clo f fs caps, u, hn, h => by
    simp only [AV.R] at h ⊢
    obtain ⟨a, c, h1, h2, h3⟩ := h
    exact ⟨a, c, h1, AV.Rs.step he hB hM hs (fun n h0 => hn n (by simp only [AV.has, h0, Bool.true_or])) h2,
      AV.Rs.step he hB hM hs (fun n h0 => hn n (by simp only [AV.has, h0, Bool.or_true])) h3⟩
  | .oref m n, u, hn, h => by
    simp only [AV.R] at h ⊢
    refine ⟨h.1, fun x hc => ?_⟩
    cases hH : H n with
    | none => have := hn n (by simp [AV.has]) hH; rw [this] at hc; simp at hc
    | some o =>
      have h1 := hs n o hH
      rw [hc] at h1
      cases o with
      | obj y => simp only [stays] at h1; obtain ⟨b, hb, hu⟩ := h.2 y hH; exact ⟨b, by rw [h1]; exact hb, hu⟩
      | box cs => simp [stays] at h1
      | arr es rows => simp [stays] at h1
      | hole es pre row post => simp [stays] at h1
      | fact a x => simp [stays] at h1
  | .err b, u, hn, h => by simpa only [AV.R] using h
  | .ub, u, hn, h => by simpa only [AV.R] using h
  | .any, u, hn, h => by simpa only [AV.R] using h
theorem AV.Rs.step {ρ ρ' : Name → Loc} {H H' : Heap} {M M' B : Nat → Prop} {w w' : World} (he : Ext B w w') (hB : ∀ b, B b → M b)
    (hM : ∀ b, b < w.heap.size → M' b → M b) (hs : HStep ρ H ρ' H') :
    ∀ {xs : List AV} {us : List Value}, (∀ n, AV.hasL n xs = true → H n = none → H' n = none) → AV.Rs ρ H M w xs us → AV.Rs ρ' H' M' w' xs us
  | [], us, _, h => by simpa only [AV.Rs] using h
  | x :: xs, us, hn, h => by
    simp only [AV.Rs] at h ⊢
    obtain ⟨u, us', h1, h2, h3, h4⟩ := h
    exact ⟨u, us', h1, h2, AV.R.step he hB hM hs (fun n h0 => hn n (by simp only [AV.hasL, h0, Bool.true_or])) h3,
      AV.Rs.step he hB hM hs (fun n h0 => hn n (by simp only [AV.hasL, h0, Bool.or_true])) h4⟩
theorem AV.Ts.step {ρ ρ' : Name → Loc} {H H' : Heap} {M M' B : Nat → Prop} {w w' : World} (he : Ext B w w') (hB : ∀ b, B b → M b)
    (hM : ∀ b, b < w.heap.size → M' b → M b) (hs : HStep ρ H ρ' H') :
    ∀ {xs : List AV} {us : List Value}, (∀ n, AV.hasL n xs = true → H n = none → H' n = none) → AV.Ts ρ H M w xs us → AV.Ts ρ' H' M' w' xs us
  | [], us, _, h => by simpa only [AV.Ts] using h
  | x :: xs, us, hn, h => by
    simp only [AV.Ts] at h ⊢
    obtain ⟨u, us', h1, h3, h4⟩ := h
    exact ⟨u, us', h1, AV.R.step he hB hM hs (fun n h0 => hn n (by simp only [AV.hasL, h0, Bool.true_or])) h3,
      AV.Ts.step he hB hM hs (fun n h0 => hn n (by simp only [AV.hasL, h0, Bool.or_true])) h4⟩
end
theorem AV.Rs.length {ρ : Name → Loc} {H : Heap} {M : Nat → Prop} {w : World} : ∀ {xs : List AV} {us : List Value}, AV.Rs ρ H M w xs us → us.length = xs.length
  | [], us, h => by simp only [AV.Rs] at h; simp [h]
  | x :: xs, us, h => by
    simp only [AV.Rs] at h
    obtain ⟨u, us', rfl, _, _, h4⟩ := h
    simp [h4.length]
theorem AV.Rs.get {ρ : Name → Loc} {H : Heap} {M : Nat → Prop} {w : World} : ∀ {xs : List AV} {us : List Value}, AV.Rs ρ H M w xs us → ∀ (j : Nat) (x : AV), xs[j]? = some x → ∃ u : Value, us[j]? = some u ∧ u.oneCell' = true ∧ x.R ρ H M w u
  | [], us, h, j, x, hj => by simp at hj
  | x0 :: xs, us, h, j, x, hj => by
    simp only [AV.Rs] at h
    obtain ⟨u, us', rfl, h2, h3, h4⟩ := h
    cases j with
    | zero => simp at hj; subst hj; exact ⟨u, by simp, h2, h3⟩
    | succ j => simpa using h4.get j x (by simpa using hj)
theorem AV.Rs.of_get {ρ : Name → Loc} {H : Heap} {M : Nat → Prop} {w : World} : ∀ {xs : List AV} {us : List Value}, us.length = xs.length → (∀ (j : Nat) (x : AV) (u : Value), xs[j]? = some x → us[j]? = some u → u.oneCell' = true ∧ x.R ρ H M w u) → AV.Rs ρ H M w xs us
  | [], us, hl, _ => by simp only [AV.Rs]; exact List.eq_nil_of_length_eq_zero (by simpa using hl)
  | x :: xs, us, hl, h => by
    cases us with
    | nil => simp at hl
    | cons u us =>
      simp only [AV.Rs]
      have h0 := h 0 x u (by simp) (by simp)
      exact ⟨u, us, rfl, h0.1, h0.2, AV.Rs.of_get (by simpa using hl) (fun j x u hx hu => h (j + 1) x u (by simpa using hx) (by simpa using hu))⟩
theorem AV.Rs.append {ρ : Name → Loc} {H : Heap} {M : Nat → Prop} {w : World} : ∀ {xs ys : List AV} {us vs : List Value}, AV.Rs ρ H M w xs us → AV.Rs ρ H M w ys vs → AV.Rs ρ H M w (xs ++ ys) (us ++ vs)
  | [], ys, us, vs, h, h' => by simp only [AV.Rs] at h; subst h; simpa using h'
  | x :: xs, ys, us, vs, h, h' => by
    simp only [AV.Rs] at h
    obtain ⟨u, us', rfl, h2, h3, h4⟩ := h
    simp only [List.cons_append, AV.Rs]
    exact ⟨u, us' ++ vs, rfl, h2, h3, h4.append h'⟩
theorem AV.Rs.drop {ρ : Name → Loc} {H : Heap} {M : Nat → Prop} {w : World} : ∀ {xs : List AV} {us : List Value} (k : Nat), AV.Rs ρ H M w xs us → AV.Rs ρ H M w (xs.drop k) (us.drop k)
  | xs, us, 0, h => by simpa using h
  | [], us, k + 1, h => by simp only [AV.Rs] at h; subst h; simp [AV.Rs]
  | x :: xs, us, k + 1, h => by
    simp only [AV.Rs] at h
    obtain ⟨u, us', rfl, h2, h3, h4⟩ := h
    simpa using h4.drop k
theorem AV.Rs.take {ρ : Name → Loc} {H : Heap} {M : Nat → Prop} {w : World} : ∀ {xs : List AV} {us : List Value} (k : Nat), AV.Rs ρ H M w xs us → AV.Rs ρ H M w (xs.take k) (us.take k)
  | xs, us, 0, h => by simp [AV.Rs]
  | [], us, k + 1, h => by simp only [AV.Rs] at h; subst h; simp [AV.Rs]
  | x :: xs, us, k + 1, h => by
    simp only [AV.Rs] at h
    obtain ⟨u, us', rfl, h2, h3, h4⟩ := h
    simp only [List.take_succ_cons, AV.Rs]
    exact ⟨u, us'.take k, rfl, h2, h3, h4.take k⟩
def pcells (cs : List PV) : List AV := cs.map .p
theorem Rs_of_Cells {ρ : Name → Loc} {H : Heap} {M : Nat → Prop} {w : World} {b : Nat} : ∀ {off : Nat} {cs : List PV}, PV.Cells M w b off cs → ∃ us : List Value, AV.Rs ρ H M w (pcells cs) us ∧ ∀ j u, us[j]? = some u → w.cell? ⟨b, off + j, none⟩ = some u
  | off, [], h => ⟨[], by simp [pcells, AV.Rs], by simp⟩
  | off, c :: cs, h => by
    simp only [PV.Cells] at h
    obtain ⟨⟨u, hu, hr⟩, h2⟩ := h
    obtain ⟨us, hr', hc⟩ := Rs_of_Cells (ρ := ρ) (H := H) h2
    refine ⟨u :: us, ?_, fun j v hj => ?_⟩
    · simp only [pcells, List.map_cons, AV.Rs]
      exact ⟨u, us, rfl, hr.flat, by simpa only [AV.R] using hr, hr'⟩
    · cases j with
      | zero => simp at hj; subst hj; simpa using hu
      | succ j =>
        have := hc j v (by simpa using hj)
        rwa [show off + 1 + j = off + (j + 1) by omega] at this
theorem Cells_of_Rs {ρ : Name → Loc} {H : Heap} {M : Nat → Prop} {w : World} {b off : Nat} {cs : List PV} {us : List Value} (h : AV.Rs ρ H M w (pcells cs) us) (hc : ∀ j u, us[j]? = some u → w.cell? ⟨b, off + j, none⟩ = some u) : PV.Cells M w b off cs :=
  PV.Cells.of_get fun j c hj => by
    obtain ⟨u, hu, _, hr⟩ := h.get j (.p c) (by simp [pcells, hj])
    exact ⟨u, hc j u hu, by simpa only [AV.R] using hr⟩
structure Laid (G : World) : Prop where
  pow : Lib.TabIs Tryz.prog G "internal/strconv.uint64pow10" .u64 Lib.pow10Tab
  esyn : ∃ tp p, G.var? Tryz.prog "strconv.ErrSyntax" = some #[.iface tp p]
  eran : ∃ tp p, G.var? Tryz.prog "strconv.ErrRange" = some #[.iface tp p]
  mlen : ∃ m, G.var? Tryz.prog "internal/bytealg.MaxLen" = some #[.int .i64 m]
open Go
structure AS where
  slot : Nat → Option AV
  heap : Heap
structure Ctx where
  n : Nat
  names : List Name
  pre : Name → AO
  ρ0 : Name → Loc
  w0 : World
  M : Nat → Prop
  G : World
def Ctx.B (Γ : Ctx) (b : Nat) : Prop := ∃ n, n ∈ Γ.names ∧ (Γ.ρ0 n).blk = some b
def ObjAt (ρ : Name → Loc) (H : Heap) (M : Nat → Prop) (w : World) (n : Name) : AO → Prop
  | .box cells => ∃ (b : Nat) (T : TypeId) (cs : Array Value), ρ n = ⟨some ⟨b, 0, none⟩, 1⟩ ∧ M b ∧ w.heap[b]? = some (.cells cs T (0, 0)) ∧ AV.Rs ρ H M w cells cs.toList
  | .arr es rows => 1 ≤ es ∧ rows.length ≤ (ρ n).cap ∧ ((ρ n).cap = 0 ∨ ∃ (b : Nat) (T : TypeId) (cs : Array Value), (ρ n).base = some ⟨b, 0, none⟩ ∧ M b ∧ w.heap[b]? = some (.cells cs T (0, 0)) ∧ (ρ n).cap * es ≤ cs.size ∧ PV.Rows M w b es 0 rows)
  | .hole es pre row post => 1 ≤ es ∧ row.length = es ∧ pre.length + 1 + post.length ≤ (ρ n).cap ∧ ∃ (b : Nat) (T : TypeId) (cs : Array Value), (ρ n).base = some ⟨b, 0, none⟩ ∧ M b ∧ w.heap[b]? = some (.cells cs T (0, 0)) ∧ (ρ n).cap * es ≤ cs.size ∧
      PV.Rows M w b es 0 pre ∧ AV.Rs ρ H M w row ((cs.toList.drop (pre.length * es)).take es) ∧ PV.Rows M w b es ((pre.length + 1) * es) post
  | .fact a x => (ρ n).cap = 0 ∧ AV.R ρ H M w a x
  | .obj x => ∃ b : Nat, ρ n = ⟨some ⟨b, 0, none⟩, 1⟩ ∧ M b ∧ w.heap[b]? = some x
structure Ground (G : World) (w : World) (B : Nat → Prop) : Prop where
  laid : Laid G
  size : G.heap.size ≤ w.heap.size
  same : ∀ b, b < G.heap.size → w.heap[b]? = G.heap[b]?
  out : ∀ b, B b → G.heap.size ≤ b
theorem Ground.var {G w : World} {B : Nat → Prop} (h : Ground G w B) {P : Program} {name : String} {cs : Array Value} (hv : G.var? P name = some cs) : w.var? P name = some cs := by
  unfold World.var? at hv ⊢
  cases hg : P.globalNamed name with
  | none => simp [hg] at hv
  | some g =>
    simp only [hg, Option.bind_some] at hv ⊢
    have hlt : g < G.heap.size := by
      grind
    rw [h.same g hlt]; exact hv
structure Sim (Γ : Ctx) (ρ : Name → Loc) (M : Nat → Prop) (s : AS) (a : Act) (w : World) : Prop where
  n : a.tmps.size = Γ.n
  d : a.defers = []
  slots : ∀ t x, s.slot t = some x → ∃ u, a.tmps[t]? = some u ∧ x.R ρ s.heap M w u
  objs : ∀ n o, s.heap n = some o → ObjAt ρ s.heap M w n o
  inj : ∀ n m o o' b, s.heap n = some o → s.heap m = some o' → (ρ n).blk = some b → (ρ m).blk = some b → n = m
  own0 : ∀ n o b, s.heap n = some o → (ρ n).blk = some b → (n ∈ Γ.names ∧ (Γ.ρ0 n).blk = some b) ∨ Γ.w0.heap.size ≤ b
  keep : ∀ n, n ∈ Γ.names → ∃ o, s.heap n = some o ∧ stays (Γ.pre n) (Γ.ρ0 n) (some o) (ρ n)
  ext : Ext Γ.B Γ.w0 w
  mext : ∀ b, Γ.M b → M b
  msize : ∀ b, M b → b < w.heap.size
  m0 : ∀ b, Γ.M b → b < Γ.w0.heap.size
  ground : Ground Γ.G Γ.w0 Γ.B
theorem stays_trans {o : AO} {l : Loc} {o' : AO} {l' : Loc} {o'' : AO} {l'' : Loc} (h : stays o l (some o') l') (h' : stays o' l' (some o'') l'') : stays o l (some o'') l'' := by
  cases o <;> cases o' <;> cases o'' <;> simp only [stays] at h h' ⊢
  · rw [h', h]
  all_goals grind
def AS.free (s : AS) (n : Name) : Prop := (∀ t x, s.slot t = some x → x.has n = false) ∧ ∀ m o, s.heap m = some o → o.has n = false
theorem ObjAt.blk_lt {ρ : Name → Loc} {H : Heap} {M : Nat → Prop} {w : World} {n : Name} {o : AO} (h : ObjAt ρ H M w n o) (hm : ∀ b, M b → b < w.heap.size) {b : Nat} (hb : (ρ n).blk = some b) : b < w.heap.size ∧ M b := by
  cases o with
  | box cells =>
    obtain ⟨b', T, cs, h1, h2, h3, h4⟩ := h
    rw [h1] at hb
    simp [Loc.blk] at hb
    simp_all
  | arr es rows =>
    obtain ⟨h0, h1, h2⟩ := h
    rcases h2 with h2 | ⟨b', T, cs, h3, h4, h5, h6⟩
    · simp [Loc.blk, h2] at hb
    · unfold Loc.blk at hb
      simp_all
  | hole es pre row post =>
    obtain ⟨_, _, h1, b', T, cs, h3, h4, _⟩ := h
    unfold Loc.blk at hb
    simp_all
  | fact a x => simp [Loc.blk, h.1] at hb
  | obj x =>
    obtain ⟨b', h1, h2, h3⟩ := h
    rw [h1] at hb
    simp [Loc.blk] at hb
    simp_all
theorem PV.Rows.stepB {M M' B : Nat → Prop} {w w' : World} (he : Ext B w w') (hB : ∀ b, B b → M b) (hM : ∀ b, b < w.heap.size → M' b → M b) {b es off : Nat} {rows : List (List PV)} (hbb : w'.heap[b]? = w.heap[b]?)
    (h : PV.Rows M w b es off rows) : PV.Rows M' w' b es off rows :=
  PV.Rows.of_get fun i r hi => by
    obtain ⟨g1, g2⟩ := h.get i r hi
    refine ⟨g1, PV.Cells.of_get fun j c hj => ?_⟩
    obtain ⟨u, hu, hr⟩ := g2.get j c hj
    refine ⟨u, ?_, hr.mono he hB hM⟩
    rw [← hu]; unfold World.cell?; rw [hbb]
theorem ObjAt.step {ρ ρ' : Name → Loc} {H H' : Heap} {M M' B : Nat → Prop} {w w' : World} (he : Ext B w w') (hB : ∀ b, B b → M b)
    (hM : ∀ b, b < w.heap.size → M' b → M b) (hMM : ∀ b, M b → M' b) (hs : HStep ρ H ρ' H') {n : Name} {o : AO}
    (hn : ∀ m, o.has m = true → H m = none → H' m = none) (hρ : ρ' n = ρ n) (hb : ∀ b, (ρ n).blk = some b → w'.heap[b]? = w.heap[b]?)
    (hms : ∀ b, M b → b < w.heap.size)
    (h : ObjAt ρ H M w n o) : ObjAt ρ' H' M' w' n o := by
  cases o with
  | box cells =>
    obtain ⟨b, T, cs, h1, h2, h3, h4⟩ := h
    refine ⟨b, T, cs, by rw [hρ, h1], hMM _ h2, ?_, h4.step he hB hM hs (fun m hm => hn m hm)⟩
    rw [hb b (by rw [h1]; simp [Loc.blk]), h3]
  | arr es rows =>
    obtain ⟨h0, h1, h2⟩ := h
    refine ⟨h0, by rw [hρ]; exact h1, ?_⟩
    rcases h2 with h2 | ⟨b, T, cs, h3, h4, h5, h6, h7⟩
    · simp_all
    · by_cases hc : (ρ n).cap = 0
      · simp_all
      · have hbb := hb b (by simp [Loc.blk, hc, h3])
        refine .inr ⟨b, T, cs, by rw [hρ]; exact h3, hMM _ h4, by rw [hbb]; exact h5, by rw [hρ]; exact h6, ?_⟩
        refine PV.Rows.of_get fun i r hi => ?_
        obtain ⟨g1, g2⟩ := h7.get i r hi
        refine ⟨g1, PV.Cells.of_get fun j c hj => ?_⟩
        obtain ⟨u, hu, hr⟩ := g2.get j c hj
        refine ⟨u, ?_, hr.mono he hB hM⟩
        rw [← hu]; unfold World.cell?; rw [hbb]
  | hole es pre row post =>
    obtain ⟨h0, h0', h1, b, T, cs, h3, h4, h5, h6, h7, h8, h9⟩ := h
    have hbb := hb b (by unfold Loc.blk; rw [if_neg (by omega), h3]; rfl)
    exact ⟨h0, h0', by rw [hρ]; exact h1, b, T, cs, by rw [hρ]; exact h3, hMM _ h4, by rw [hbb]; exact h5, by rw [hρ]; exact h6,
      h7.stepB he hB hM hbb, h8.step he hB hM hs (fun m hm => hn m hm), h9.stepB he hB hM hbb⟩
  | fact a x => exact ⟨by rw [hρ]; exact h.1, h.2.step he hB hM hs (fun m hm => hn m hm)⟩
  | obj x =>
    obtain ⟨b, h1, h2, h3⟩ := h
    exact ⟨b, by rw [hρ, h1], hMM _ h2, by rw [hb b (by rw [h1]; simp [Loc.blk]), h3]⟩
theorem Sim.update {Γ : Ctx} {ρ : Name → Loc} {M : Nat → Prop} {s : AS} {a : Act} {w : World} (h : Sim Γ ρ M s a w)
    {ρ' : Name → Loc} {M' : Nat → Prop} {H' : Heap} {w' : World}
    (he : Ext (fun b => ∃ n o, s.heap n = some o ∧ (ρ n).blk = some b) w w')
    (hM : ∀ b, M b → M' b) (hM' : ∀ b, M' b → M b ∨ w.heap.size ≤ b) (hMs : ∀ b, M' b → b < w'.heap.size)
    (hs : HStep ρ s.heap ρ' H')
    (hkeep : ∀ n, n ∈ Γ.names → H' n ≠ none)
    (hnew : ∀ n, s.heap n = none → H' n ≠ none → s.free n)
    (hobj : ∀ n o, H' n = some o → (s.heap n = some o ∧ ρ' n = ρ n ∧ ∀ b, (ρ n).blk = some b → w'.heap[b]? = w.heap[b]?) ∨
      (ObjAt ρ' H' M' w' n o ∧ ∀ b, (ρ' n).blk = some b → (∃ o', s.heap n = some o' ∧ (ρ n).blk = some b) ∨ Γ.w0.heap.size ≤ b))
    (hinj : ∀ n m o o' b, H' n = some o → H' m = some o' → (ρ' n).blk = some b → (ρ' m).blk = some b → n = m) :
    Sim Γ ρ' M' ⟨s.slot, H'⟩ a w' := by
  have hB : ∀ b, (∃ n o, s.heap n = some o ∧ (ρ n).blk = some b) → M b := fun b ⟨n, o, h1, h2⟩ => ((h.objs n o h1).blk_lt h.msize h2).2
  have hM2 : ∀ b, b < w.heap.size → M' b → M b := fun b hb hm => (hM' b hm).resolve_right (by omega)
  have hfree : ∀ n, s.heap n = none → H' n = none ∨ s.free n := fun n hn => by
    grind
  refine ⟨h.n, h.d, fun t x ht => ?_, fun n o hn => ?_, hinj, fun n o b hn hb => ?_, fun n hn => ?_, ?_, fun b hb => hM b (h.mext b hb), hMs, h.m0, h.ground⟩
  · obtain ⟨u, hu, hr⟩ := h.slots t x ht
    refine ⟨u, hu, hr.step he hB hM2 hs (fun n hx hn => ?_)⟩
    rcases hfree n hn with h1 | h1
    · exact h1
    · have := h1.1 t x ht; rw [this] at hx; simp at hx
  · rcases hobj n o hn with ⟨h1, h2, h3⟩ | ⟨h1, _⟩
    · refine (h.objs n o h1).step he hB hM2 hM hs (fun m hm hmn => ?_) h2 h3 h.msize
      rcases hfree m hmn with h4 | h4
      · exact h4
      · have := h4.2 n o h1; rw [this] at hm; simp at hm
    · exact h1
  · have hsz := h.ext.size
    rcases hobj n o hn with ⟨h1, h2, h3⟩ | ⟨_, h2⟩
    · rw [h2] at hb; exact h.own0 n o b h1 hb
    · rcases h2 b hb with ⟨o', h3, h4⟩ | h3
      · exact h.own0 n o' b h3 h4
      · exact .inr h3
  · obtain ⟨o, h1, h2⟩ := h.keep n hn
    cases hc : H' n with
    | none => exact absurd hc (hkeep n hn)
    | some o' =>
      have h3 := hs n o h1
      rw [hc] at h3
      exact ⟨o', hc, stays_trans h2 h3⟩
  · refine h.ext.trans he (fun b hb hbb => ?_)
    obtain ⟨n, o, h1, h2⟩ := hbb
    rcases h.own0 n o b h1 h2 with h3 | h3
    · exact ⟨n, h3⟩
    · omega
theorem Sim.update1 {Γ : Ctx} {ρ : Name → Loc} {M : Nat → Prop} {s : AS} {a : Act} {w : World} (h : Sim Γ ρ M s a w)
    {n : Name} {l : Loc} {o : AO} {M' : Nat → Prop} {w' : World}
    (he : Ext (fun b => (ρ n).blk = some b ∧ s.heap n ≠ none) w w')
    (hM : ∀ b, M b → M' b) (hM' : ∀ b, M' b → M b ∨ w.heap.size ≤ b) (hMs : ∀ b, M' b → b < w'.heap.size)
    (hs : ∀ o', s.heap n = some o' → stays o' (ρ n) (some o) l)
    (hnew : s.heap n = none → s.free n)
    (hobj : ObjAt (fun m => if m = n then l else ρ m) (fun m => if m = n then some o else s.heap m) M' w' n o)
    (hblk : ∀ b, l.blk = some b → (∃ o', s.heap n = some o' ∧ (ρ n).blk = some b) ∨ w.heap.size ≤ b) :
    Sim Γ (fun m => if m = n then l else ρ m) M' ⟨s.slot, fun m => if m = n then some o else s.heap m⟩ a w' := by
  have hlt : ∀ m o' b, s.heap m = some o' → (ρ m).blk = some b → b < w.heap.size := fun m o' b h1 h2 => ((h.objs m o' h1).blk_lt h.msize h2).1
  refine h.update (he.weaken fun b _ hb => ?_) hM hM' hMs (fun m o' hm => ?_) (fun m hm => ?_) (fun m hm hm' => ?_) (fun m o' hm => ?_) (fun m m' o1 o2 b h1 h2 h3 h4 => ?_)
  · cases hn : s.heap n with
    | none => exact absurd hn hb.2
    | some o' => exact ⟨n, o', hn, hb.1⟩
  · by_cases e : m = n
    · simp_all
    · simp only [e, if_false, hm]; exact stays_refl _ _
  · by_cases e : m = n
    · simp [e]
    · obtain ⟨o', h1, _⟩ := h.keep m hm
      simp [e, h1]
  · simp_all
  · by_cases e : m = n
    · have hblk' := fun b hb => (hblk b hb).imp_right (Nat.le_trans h.ext.size)
      simp_all
    · simp only [e, if_false] at hm
      refine .inl ⟨hm, by simp [e], fun b hb => he.same b (hlt m o' b hm hb) (fun hbb => ?_)⟩
      cases hn : s.heap n with
      | none => exact hbb.2 hn
      | some o2 => exact e (h.inj m n o' o2 b hm hn hb hbb.1)
  · by_cases e : m = n
    · by_cases e' : m' = n
      · rw [e, e']
      · exfalso
        subst e
        simp only [if_true, e', if_false] at h1 h2 h3 h4
        rcases hblk b h3 with ⟨o', g1, g2⟩ | g
        · exact e' (h.inj m' m o2 o' b h2 g1 h4 g2)
        · grind
    · by_cases e' : m' = n
      · exfalso
        subst e'
        simp only [if_true, e, if_false] at h1 h2 h3 h4
        rcases hblk b h4 with ⟨o', g1, g2⟩ | g
        · exact e (h.inj m m' o1 o' b h1 g1 h3 g2)
        · grind
      · simp only [e, e', if_false] at h1 h2 h3 h4
        exact h.inj m m' o1 o2 b h1 h2 h3 h4
theorem Sim.world {Γ : Ctx} {ρ : Name → Loc} {M : Nat → Prop} {s : AS} {a : Act} {w w' : World} (h : Sim Γ ρ M s a w) (he : Ext (fun _ => False) w w') : Sim Γ ρ M s a w' := by
  have := h.update (ρ' := ρ) (M' := M) (H' := s.heap) (w' := w') (he.weaken (fun _ _ hb => hb.elim)) (fun _ hb => hb) (fun _ hb => .inl hb)
    (fun b hb => Nat.lt_of_lt_of_le (h.msize b hb) he.size) (fun n o hn => by rw [hn]; exact stays_refl _ _) (fun n hn => by obtain ⟨o, h1, _⟩ := h.keep n hn; rw [h1]; simp) (fun n hn hn' => absurd hn hn')
    (fun n o hn => .inl ⟨hn, rfl, fun b hb => he.same b ((h.objs n o hn).blk_lt h.msize hb).1 (fun hf => hf)⟩) h.inj
  exact this
def AS.set (s : AS) (dst : Option Nat) (x : AV) : AS := ⟨fun t => if dst = some t then some x else s.slot t, s.heap⟩
theorem Sim.put {Γ : Ctx} {ρ : Name → Loc} {M : Nat → Prop} {s : AS} {a : Act} {w : World} (h : Sim Γ ρ M s a w) {dst : Option Nat} {x : AV} {u : Value}
    (hd : ∀ d, dst = some d → d < Γ.n) (hr : dst ≠ none → x.R ρ s.heap M w u) : Sim Γ ρ M (s.set dst x) (a.put dst u) w := by
  cases dst with
  | none =>
    refine ⟨h.n, h.d, fun t y ht => ?_, h.objs, h.inj, h.own0, h.keep, h.ext, h.mext, h.msize, h.m0, h.ground⟩
    simp only [AS.set, reduceCtorEq, if_false] at ht
    exact h.slots t y ht
  | some d =>
    have hdn := hd d rfl
    refine ⟨by simp [Act.put, h.n], by simp [Act.put, h.d], fun t y ht => ?_, h.objs, h.inj, h.own0, h.keep, h.ext, h.mext, h.msize, h.m0, h.ground⟩
    simp only [AS.set] at ht
    by_cases e : d = t
    · subst e
      simp only [if_true] at ht
      cases ht
      exact ⟨u, by simp [Act.put, Array.getElem?_setIfInBounds, h.n, hdn], hr (by simp)⟩
    · simp only [Option.some.injEq, e, if_false] at ht
      obtain ⟨v, hv, hr'⟩ := h.slots t y ht
      exact ⟨v, by simp [Act.put, Array.getElem?_setIfInBounds, e, hv], hr'⟩
theorem Sim.forget {Γ : Ctx} {ρ : Name → Loc} {M : Nat → Prop} {s : AS} {a : Act} {w : World} (h : Sim Γ ρ M s a w) {s' : AS}
    (hs : ∀ t x, s'.slot t = some x → s.slot t = some x) (hh : ∀ n o, s'.heap n = some o → s.heap n = some o) (hk : ∀ n, n ∈ Γ.names → s'.heap n ≠ none) : Sim Γ ρ M s' a w := by
  have h1 : HStep ρ s.heap ρ s'.heap := fun n o hn => by
    cases hc : s'.heap n with
    | none => cases o <;> simp [stays]
    | some o' => have := hh n o' hc; rw [hn] at this; cases this; exact stays_refl _ _
  have h2 := h.update (ρ' := ρ) (M' := M) (H' := s'.heap) (w' := w) (Ext.refl _ _) (fun _ hb => hb) (fun _ hb => .inl hb) h.msize h1 hk
    (fun n hn hn' => by
      cases hc : s'.heap n with
      | none => exact absurd hc hn'
      | some o => have := hh n o hc; rw [hn] at this; simp at this)
    (fun n o hn => .inl ⟨hh n o hn, rfl, fun _ _ => rfl⟩) (fun n m o o' b g1 g2 => h.inj n m o o' b (hh _ _ g1) (hh _ _ g2))
  exact ⟨h2.n, h2.d, fun t x ht => h2.slots t x (hs t x ht), h2.objs, h2.inj, h2.own0, h2.keep, h2.ext, h2.mext, h2.msize, h2.m0, h2.ground⟩
theorem Sim.congr {Γ : Ctx} {ρ : Name → Loc} {M : Nat → Prop} {s s' : AS} {a : Act} {w : World} (h : Sim Γ ρ M s a w)
    (hs : ∀ t, s'.slot t = s.slot t) (hh : ∀ n, s'.heap n = s.heap n) : Sim Γ ρ M s' a w :=
  h.forget (fun t x ht => by rw [← hs]; exact ht) (fun n o hn => by rw [← hh]; exact hn) (fun n hn => by obtain ⟨o, h1, _⟩ := h.keep n hn; rw [hh, h1]; simp)
structure Eff where
  rd : List (Nat × AV)
  hp : List (Name × AO)
  v : AV
  upd : List (Name × AO)
  nw : List Name := []
def look {α : Type} (k : Nat) : List (Nat × α) → Option α
  | [] => none
  | (j, x) :: r => if j = k then some x else look k r
structure AS.holds (s : AS) (e : Eff) : Prop where
  rd : ∀ t x, (t, x) ∈ e.rd → s.slot t = some x
  hp : ∀ n o, (n, o) ∈ e.hp → s.heap n = some o
  nw : ∀ n, n ∈ e.nw → s.heap n = none ∧ s.free n
def AS.run (s : AS) (dst : Option Nat) (e : Eff) : AS :=
  ⟨fun t => if dst = some t then some e.v else s.slot t, fun n => match look n e.upd with | some o => some o | none => s.heap n⟩
def OpOK (P : Program) (o : Oper) (e : Eff) : Prop :=
  ∀ (Γ : Ctx) (ρ : Name → Loc) (M : Nat → Prop) (s : AS) (a : Act) (w : World) (K : Act → World → Prop) (Q : Exit → Act → World → Prop),
    Sim Γ ρ M s a w → s.holds e → (∀ d, o.dst = some d → d < Γ.n) →
    (∀ ρ' M' a' w', Sim Γ ρ' M' (s.run o.dst e) a' w' → K a' w') → o.wp P a w K Q
def StepOK (P : Program) (ops : Array Oper) (i : Nat) (dst : Option Nat) (e : Eff) : Prop :=
  ∀ (Γ : Ctx) (ρ : Name → Loc) (M : Nat → Prop) (s : AS) (a : Act) (w : World) (K : Act → World → Prop) (Q : Exit → Act → World → Prop),
    Sim Γ ρ M s a w → s.holds e → (∀ d, dst = some d → d < Γ.n) →
    (∀ ρ' M' a' w', Sim Γ ρ' M' (s.run dst e) a' w' → K a' w') → wpOp P ops Q i K a w
section
variable {P : Program} {ops : Array Oper} {i : Nat}
theorem StepOK.plain {o : Oper} {e : Eff} (hi : ops[i]? = some o) (hg : o.guard = none) (h : OpOK P o e) : StepOK P ops i o.dst e := by
  intro Γ ρ M s a w K Q hsim hh hd hK
  unfold wpOp
  simp only [hi, Region.wanted, hg, if_true]
  exact .inl (h Γ ρ M s a w K Q hsim hh hd hK)
theorem yielded_of {Γ : Ctx} {ρ : Name → Loc} {M : Nat → Prop} {s : AS} {a : Act} {w : World} (hsim : Sim Γ ρ M s a w) {j g : Nat} {oj : Oper} {b : Bool}
    (hj : ops[j]? = some oj) (hg : oj.dst = some g) (hs : s.slot g = some (.p (.v (.bool b)))) : yielded ops a.tmps j = some b := by
  obtain ⟨u, hu, hr⟩ := hsim.slots g _ hs
  simp only [AV.R, PV.R] at hr
  obtain ⟨rfl, _⟩ := hr
  simp [yielded, hj, hg, hu]
theorem StepOK.guarded {o oj : Oper} {e : Eff} {j g : Nat} {b : Bool} (hi : ops[i]? = some o) (hg : o.guard = some (j, b)) (hj : ops[j]? = some oj) (hjd : oj.dst = some g)
    (hrd : (g, AV.p (.v (.bool b))) ∈ e.rd) (h : OpOK P o e) : StepOK P ops i o.dst e := by
  intro Γ ρ M s a w K Q hsim hh hd hK
  unfold wpOp
  have := yielded_of hsim hj hjd (hh.rd _ _ hrd)
  simp only [hi, Region.wanted, hg, this, beq_self_eq_true, if_true]
  exact .inl (h Γ ρ M s a w K Q hsim hh hd hK)
theorem StepOK.skipped {o oj : Oper} {j g : Nat} {b : Bool} (hi : ops[i]? = some o) (hg : o.guard = some (j, b)) (hj : ops[j]? = some oj) (hjd : oj.dst = some g) :
    StepOK P ops i o.dst ⟨[(g, .p (.v (.bool (!b))))], [], .tup [], [], []⟩ := by
  intro Γ ρ M s a w K Q hsim hh hd hK
  unfold wpOp
  have := yielded_of hsim hj hjd (hh.rd g (.p (.v (.bool (!b)))) (by simp))
  have hne : (some (!b) == some b) = false := by cases b <;> rfl
  simp only [hi, Region.wanted, hg, this, hne, if_false, Bool.false_eq_true]
  have h1 := hsim.put (dst := o.dst) (x := .tup []) (u := undef) hd (fun _ => by simp only [AV.R, undef, AV.Ts]; exact ⟨#[], rfl, rfl⟩)
  exact hK ρ M _ w (h1.congr (fun t => rfl) (fun n => by simp [AS.run, AS.set, look]))
theorem StepOK.skipped2 {o oj : Oper} {j g : Nat} {b : Bool} (hi : ops[i]? = some o) (hg : o.guard = some (j, b)) (hj : ops[j]? = some oj) (hjd : oj.dst = some g) :
    StepOK P ops i o.dst ⟨[(g, .tup [])], [], .tup [], [], []⟩ := by
  intro Γ ρ M s a w K Q hsim hh hd hK
  unfold wpOp
  have hy : yielded ops a.tmps j = none := by
    obtain ⟨u, hu, hr⟩ := hsim.slots g _ (hh.rd g (.tup []) (by simp))
    simp only [AV.R, AV.Ts] at hr
    obtain ⟨us, rfl, _⟩ := hr
    simp [yielded, hj, hjd, hu]
  have hne : ((none : Option Bool) == some b) = false := rfl
  simp only [hi, Region.wanted, hg, hy, hne, if_false, Bool.false_eq_true]
  have h1 := hsim.put (dst := o.dst) (x := .tup []) (u := undef) hd (fun _ => by simp only [AV.R, undef, AV.Ts]; exact ⟨#[], rfl, rfl⟩)
  exact hK ρ M _ w (h1.congr (fun t => rfl) (fun n => by simp [AS.run, AS.set, look]))
end
def AWp (P : Program) (Γ : Ctx) (c : Code) (s : AS) (Q : Exit → AS → Prop) : Prop :=
  ∀ (ρ : Name → Loc) (M : Nat → Prop) (a : Act) (w : World), Sim Γ ρ M s a w →
    c.wp P (fun e a' w' => ∃ s' ρ' M', Q e s' ∧ Sim Γ ρ' M' s' a' w') a w
def mk (ts : List (Nat × AV)) (hs : List (Name × AO)) : AS := ⟨fun t => look t ts, fun n => look n hs⟩
abbrev Row := Option Nat × Eff
def StepsM (P : Program) (ops : Array Oper) (m : Nat) : Nat → List Row → Prop
  | i, [] => m = i
  | i, (d, e) :: r => StepOK P ops i d e ∧ StepsM P ops m (i + 1) r
def StepsOK (P : Program) (ops : Array Oper) (i : Nat) (l : List Row) : Prop := StepsM P ops ops.size i l
def keys {α : Type} (l : List (Nat × α)) : List Nat := l.map (·.1)
def freeIn (n : Name) (ts : List (Nat × AV)) (hs : List (Name × AO)) : Bool := ts.all (fun p => !p.2.has n) && hs.all (fun p => !p.2.has n)
def putT (ts : List (Nat × AV)) (d : Option Nat) (e : Eff) : List (Nat × AV) := match d with | some d => (d, e.v) :: ts | none => ts
def dstOK (n : Nat) : Option Nat → Bool
  | some d => Nat.blt d n
  | none => true
def newOK (e : Eff) (ts : List (Nat × AV)) (hs : List (Name × AO)) : Bool := e.nw.all fun n => (look n hs).isNone && freeIn n ts hs && (keys e.upd).contains n
def got (n : Nat) : List Row → List (Nat × AV) → List (Name × AO) → List (Option AV) × List (Option AO) × Bool × List (Nat × AV) × List (Name × AO)
  | [], ts, hs => ([], [], true, ts, hs)
  | (d, e) :: r, ts, hs =>
    match got n r (putT ts d e) (e.upd ++ hs) with
    | (a, b, c, ts', hs') => (e.rd.map (fun p => look p.1 ts) ++ a, e.hp.map (fun p => look p.1 hs) ++ b, dstOK n d && newOK e ts hs && c, ts', hs')
def wantS : List Row → List (Option AV)
  | [] => []
  | (_, e) :: r => e.rd.map (fun p => some p.2) ++ wantS r
def wantH : List Row → List (Option AO)
  | [] => []
  | (_, e) :: r => e.hp.map (fun p => some p.2) ++ wantH r
theorem look_append {α : Type} (k : Nat) : ∀ (l l' : List (Nat × α)), look k (l ++ l') = match look k l with | some x => some x | none => look k l'
  | [], l' => rfl
  | (j, x) :: r, l' => by
    simp only [List.cons_append, look]
    split
    · rfl
    · exact look_append k r l'
theorem look_mem {α : Type} {k : Nat} {x : α} : ∀ {l : List (Nat × α)}, look k l = some x → (k, x) ∈ l
  | [], h => by simp [look] at h
  | (j, y) :: r, h => by
    simp only [look] at h
    split at h
    · rename_i e; cases h; subst e; simp
    · exact List.mem_cons_of_mem _ (look_mem h)
theorem look_none {α : Type} {k : Nat} : ∀ {l : List (Nat × α)}, k ∉ keys l → look k l = none
  | [], _ => rfl
  | (j, y) :: r, h => by
    simp only [keys, List.map_cons, List.mem_cons, not_or] at h
    simp only [look]
    rw [if_neg (fun e => h.1 e.symm)]
    exact look_none h.2
theorem map_eq_all {α β : Type} {f g : α → β} : ∀ {l : List α}, l.map f = l.map g → ∀ x ∈ l, f x = g x
  | [], _, x, hx => by simp at hx
  | y :: r, h, x, hx => by
    simp only [List.map_cons, List.cons.injEq] at h
    rcases List.mem_cons.1 hx with rfl | hx
    · exact h.1
    · exact map_eq_all h.2 x hx
theorem free_of {n : Name} {ts : List (Nat × AV)} {hs : List (Name × AO)} (h : freeIn n ts hs = true) : (mk ts hs).free n := by
  simp only [freeIn, Bool.and_eq_true, List.all_eq_true] at h
  refine ⟨fun t x ht => ?_, fun m o hm => ?_⟩
  · have := h.1 _ (look_mem ht); simpa using this
  · have := h.2 _ (look_mem hm); simpa using this
theorem mk_run (ts : List (Nat × AV)) (hs : List (Name × AO)) (d : Option Nat) (e : Eff) : (mk ts hs).run d e = mk (putT ts d e) (e.upd ++ hs) := by
  unfold AS.run mk
  congr 1
  · funext t
    cases d with
    | none => simp [putT]
    | some d => simp [putT, look]
  · funext n
    rw [look_append]
    split <;> simp [*]
theorem append_split {α : Type} {a a' b b' : List α} (h : a ++ b = a' ++ b') (hl : a.length = a'.length) : a = a' ∧ b = b' :=
  List.append_inj h hl
theorem got_len (n : Nat) : ∀ (L : List Row) (ts : List (Nat × AV)) (hs : List (Name × AO)), (got n L ts hs).1.length = (wantS L).length ∧ (got n L ts hs).2.1.length = (wantH L).length
  | [], ts, hs => by simp [got, wantS, wantH]
  | (d, e) :: r, ts, hs => by
    obtain ⟨h1, h2⟩ := got_len n r (putT ts d e) (e.upd ++ hs)
    simp only [got, wantS, wantH, List.length_append, List.length_map]
    exact ⟨by rw [h1], by rw [h2]⟩
def RD (E : Nat → Row) (D : Nat → Bool) (s : AS) : Nat → AS
  | 0 => s
  | k + 1 => if D k then (RD E D s k).run (E k).1 (E k).2 else RD E D s k
theorem run_slot (s : AS) (r : Row) (t : Nat) : (s.run r.1 r.2).slot t = if r.1 = some t then some r.2.v else s.slot t := rfl
theorem run_heap (s : AS) (r : Row) (n : Nat) : (s.run r.1 r.2).heap n = match look n r.2.upd with | some o => some o | none => s.heap n := rfl
theorem RD_slot_same {E : Nat → Row} {D D' : Nat → Bool} {s : AS} {t : Nat} : ∀ (k : Nat), (∀ j, j < k → (E j).1 = some t → D j = D' j) → (RD E D s k).slot t = (RD E D' s k).slot t
  | 0, _ => rfl
  | k + 1, h => by
    have ih := RD_slot_same (s := s) k (fun j hj => h j (by omega))
    have hk := h k (by omega)
    simp only [RD]
    by_cases ht : (E k).1 = some t
    · rw [hk ht]; split
      · rw [run_slot, run_slot, if_pos ht, if_pos ht]
      · exact ih
    · have e1 : ∀ b : Bool, ∀ x : AS, (if b then x.run (E k).1 (E k).2 else x).slot t = x.slot t := by
        intro b x; split <;> simp [run_slot, ht]
      rw [e1, e1, ih]
theorem RD_heap_same {E : Nat → Row} {D D' : Nat → Bool} {s : AS} {m : Nat} : ∀ (k : Nat), (∀ j, j < k → look m (E j).2.upd ≠ none → D j = D' j) → (RD E D s k).heap m = (RD E D' s k).heap m
  | 0, _ => rfl
  | k + 1, h => by
    have ih := RD_heap_same (s := s) k (fun j hj => h j (by omega))
    have hk := h k (by omega)
    simp only [RD]
    by_cases ht : look m (E k).2.upd = none
    · have e1 : ∀ b : Bool, ∀ x : AS, (if b then x.run (E k).1 (E k).2 else x).heap m = x.heap m := by
        intro b x; split <;> simp [run_heap, ht]
      rw [e1, e1, ih]
    · rw [hk ht]; split
      · cases hl : look m (E k).2.upd with
        | none => exact absurd hl ht
        | some o => simp [run_heap, hl]
      · exact ih
theorem RD_slot_cut {E : Nat → Row} {D : Nat → Bool} {s : AS} {t i : Nat} : ∀ (k : Nat), i ≤ k → (∀ j, i ≤ j → j < k → (E j).1 = some t → D j = false) → (RD E D s k).slot t = (RD E D s i).slot t
  | 0, hk, _ => by have : i = 0 := by omega
                   subst this; rfl
  | k + 1, hk, h => by
    by_cases e : i = k + 1
    · subst e; rfl
    · have ih := RD_slot_cut (s := s) (D := D) k (by omega) (fun j hj hj' => h j hj (by omega))
      simp only [RD]
      by_cases ht : (E k).1 = some t
      · rw [h k (by omega) (by omega) ht]; simpa using ih
      · split
        · rw [run_slot, if_neg ht]; exact ih
        · exact ih
theorem RD_heap_cut {E : Nat → Row} {D : Nat → Bool} {s : AS} {m i : Nat} : ∀ (k : Nat), i ≤ k → (∀ j, i ≤ j → j < k → look m (E j).2.upd ≠ none → D j = false) → (RD E D s k).heap m = (RD E D s i).heap m
  | 0, hk, _ => by have : i = 0 := by omega
                   subst this; rfl
  | k + 1, hk, h => by
    by_cases e : i = k + 1
    · subst e; rfl
    · have ih := RD_heap_cut (s := s) (D := D) k (by omega) (fun j hj hj' => h j hj (by omega))
      simp only [RD]
      by_cases ht : look m (E k).2.upd = none
      · split
        · rw [run_heap, ht]; exact ih
        · exact ih
      · rw [h k (by omega) (by omega) ht]; simpa using ih
theorem RD_slot_from {E : Nat → Row} {D : Nat → Bool} {s : AS} {t : Nat} {x : AV} : ∀ (k : Nat), (RD E D s k).slot t = some x → s.slot t = some x ∨ ∃ j, j < k ∧ D j = true ∧ x = (E j).2.v
  | 0, h => .inl h
  | k + 1, h => by
    simp only [RD] at h
    by_cases hd : D k = true
    · simp only [hd, if_true, run_slot] at h
      split at h
      · cases h; exact .inr ⟨k, by omega, hd, rfl⟩
      · rcases RD_slot_from k h with h' | ⟨j, h1, h2⟩
        · exact .inl h'
        · exact .inr ⟨j, by omega, h2⟩
    · simp only [hd, if_false, Bool.false_eq_true] at h
      rcases RD_slot_from k h with h' | ⟨j, h1, h2⟩
      · exact .inl h'
      · exact .inr ⟨j, by omega, h2⟩
theorem RD_heap_from {E : Nat → Row} {D : Nat → Bool} {s : AS} {m : Nat} {o : AO} : ∀ (k : Nat), (RD E D s k).heap m = some o → s.heap m = some o ∨ ∃ j, j < k ∧ D j = true ∧ look m (E j).2.upd = some o
  | 0, h => .inl h
  | k + 1, h => by
    simp only [RD] at h
    by_cases hd : D k = true
    · simp only [hd, if_true, run_heap] at h
      split at h
      · rename_i o' ho'; cases h; exact .inr ⟨k, by omega, hd, ho'⟩
      · rcases RD_heap_from k h with h' | ⟨j, h1, h2⟩
        · exact .inl h'
        · exact .inr ⟨j, by omega, h2⟩
    · simp only [hd, if_false, Bool.false_eq_true] at h
      rcases RD_heap_from k h with h' | ⟨j, h1, h2⟩
      · exact .inl h'
      · exact .inr ⟨j, by omega, h2⟩
def Eff.has (n : Name) (e : Eff) : Bool := e.v.has n || e.upd.any fun p => p.2.has n
structure Apart (x y : Row) : Prop where
  d1 : ∀ t, x.1 = some t → t ∉ keys y.2.rd
  d2 : ∀ t, y.1 = some t → t ∉ keys x.2.rd
  dd : ∀ t, x.1 = some t → y.1 ≠ some t
  h1 : ∀ n, n ∈ keys x.2.upd → n ∉ keys y.2.hp
  h2 : ∀ n, n ∈ keys y.2.upd → n ∉ keys x.2.hp
  hh : ∀ n, n ∈ keys x.2.upd → n ∉ keys y.2.upd
  c1 : ∀ n, n ∈ x.2.nw → y.2.has n = false
def apartB (x y : Row) : Bool :=
  (match x.1 with | some t => !(keys y.2.rd).contains t | none => true) && (match y.1 with | some t => !(keys x.2.rd).contains t | none => true) &&
  (match x.1, y.1 with | some t, some u => !(Nat.beq t u) | _, _ => true) &&
  (keys x.2.upd).all (fun n => !(keys y.2.hp).contains n && !(keys y.2.upd).contains n) && x.2.nw.all (fun n => !y.2.has n) &&
  (keys y.2.upd).all (fun n => !(keys x.2.hp).contains n)
theorem apart_of {x y : Row} (h : apartB x y = true) : Apart x y := by
  unfold apartB at h
  simp only [Bool.and_eq_true, List.all_eq_true, Bool.not_eq_true', List.contains_eq_mem, decide_eq_false_iff_not] at h
  obtain ⟨⟨⟨⟨⟨g1, g2⟩, g3⟩, g4⟩, g6⟩, g5⟩ := h
  refine ⟨fun t ht => ?_, fun t ht => ?_, fun t ht ht' => ?_, fun n hn => (g4 n hn).1, fun n hn => g5 n hn, fun n hn => (g4 n hn).2, fun n hn => g6 n hn⟩
  · simp_all
  · simp_all
  · simp_all
def maskOf (o : Oper) (prev : List Nat) : Nat :=
  o.after.toList.foldl (fun s e => if Region.binds .any e then s ||| 2 ^ e.on ||| prev.getD e.on 0 else s) 0
def masks : List Oper → List Nat → List Nat
  | [], acc => acc
  | o :: r, acc => masks r (acc ++ [maskOf o acc])
theorem maskOf_sound {D : Nat → Bool} {prev : List Nat} (hp : ∀ i j, D i = true → (prev.getD i 0).testBit j = true → D j = true) :
    ∀ (l : List Edge) (s : Nat), (∀ e ∈ l, Region.binds .any e = true → D e.on = true) → (∀ j, s.testBit j = true → D j = true) →
    ∀ j, (l.foldl (fun s e => if Region.binds .any e then s ||| 2 ^ e.on ||| prev.getD e.on 0 else s) s).testBit j = true → D j = true
  | [], s, _, hs, j, hj => hs j hj
  | e :: l, s, hl, hs, j, hj => by
    simp only [List.foldl_cons] at hj
    refine maskOf_sound hp l _ (fun e' he' => hl e' (List.mem_cons_of_mem _ he')) (fun k hk => ?_) j hj
    split at hk
    · rename_i hb
      have hD := hl e (by simp) hb
      simp only [Nat.testBit_or, Bool.or_eq_true, Nat.testBit_two_pow, decide_eq_true_eq] at hk
      rcases hk with (h1 | h1) | h1
      · exact hs k h1
      · rw [← h1]; exact hD
      · exact hp e.on k hD h1
    · exact hs k hk
theorem masks_sound {D : Nat → Bool} : ∀ (l : List Oper) (acc : List Nat),
    (∀ i o, l[i]? = some o → D (acc.length + i) = true → ∀ e ∈ o.after.toList, Region.binds .any e = true → D e.on = true) →
    (∀ i j, D i = true → (acc.getD i 0).testBit j = true → D j = true) →
    ∀ i j, D i = true → ((masks l acc).getD i 0).testBit j = true → D j = true
  | [], acc, _, hacc => hacc
  | o :: r, acc, hl, hacc => by
    simp only [masks]
    refine masks_sound r _ (fun i o' ho' hD => ?_) (fun i j hD hj => ?_)
    · refine hl (i + 1) o' (by simpa using ho') ?_
      rw [List.length_append, List.length_singleton] at hD
      rwa [show acc.length + (i + 1) = acc.length + 1 + i by omega]
    · rcases Nat.lt_trichotomy i acc.length with h1 | h1 | h1
      · rw [List.getD_eq_getElem?_getD, List.getElem?_append_left h1, ← List.getD_eq_getElem?_getD] at hj
        exact hacc i j hD hj
      · subst h1
        simp only [List.getD_eq_getElem?_getD, List.getElem?_append_right (Nat.le_refl _), Nat.sub_self, List.getElem?_cons_zero, Option.getD_some] at hj
        have h0 := hl 0 o (by simp)
        simp only [Nat.add_zero] at h0
        exact maskOf_sound hacc _ 0 (h0 hD) (fun j hj => by simp at hj) j hj
      · simp only [List.getD_eq_getElem?_getD] at hj
        rw [List.getElem?_eq_none (by simp; omega)] at hj
        simp at hj
open Go
def noRow : Row := (none, ⟨[], [], .any, [], []⟩)
def innerOK (i : Nat) (x : Row) : Nat → List (Row × Nat) → Bool
  | _, [] => true
  | j, (y, m) :: r => (m.testBit i || apartB x y) && innerOK i x (j + 1) r
def pairsOK : Nat → List (Row × Nat) → Bool
  | _, [] => true
  | i, (x, _) :: r => innerOK i x (i + 1) r && pairsOK (i + 1) r
def newsOK (ts : List (Nat × AV)) (hs : List (Name × AO)) : List Row → List Row → Bool
  | [], _ => true
  | y :: r, past => y.2.nw.all (fun n => past.all (fun x => !x.2.has n) && freeIn n ts hs && (keys y.2.upd).contains n) && newsOK ts hs r (past ++ [y])
def edgesOK : Nat → List Oper → Bool
  | _, [] => true
  | i, o :: r => o.after.toList.all (fun e => !Region.binds .any e || Nat.blt e.on i) && edgesOK (i + 1) r
def indep (ops : Array Oper) (L : List Row) (ts : List (Nat × AV)) (hs : List (Name × AO)) : Bool :=
  edgesOK 0 ops.toList && pairsOK 0 (L.zip (masks ops.toList [])) && newsOK ts hs L []
theorem innerOK_get {i : Nat} {x : Row} : ∀ {j : Nat} {l : List (Row × Nat)}, innerOK i x j l = true → ∀ (k : Nat) (y : Row) (m : Nat), l[k]? = some (y, m) → m.testBit i = true ∨ Apart x y
  | _, [], _, k, y, m, hk => by simp at hk
  | j, (y0, m0) :: r, h, k, y, m, hk => by
    simp only [innerOK, Bool.and_eq_true, Bool.or_eq_true] at h
    cases k with
    | zero => simp at hk; obtain ⟨rfl, rfl⟩ := hk; exact h.1.imp id apart_of
    | succ k => exact innerOK_get h.2 k y m (by simpa using hk)
theorem pairsOK_get : ∀ {i0 : Nat} {l : List (Row × Nat)}, pairsOK i0 l = true → ∀ (i j : Nat) (x : Row) (mx : Nat) (y : Row) (m : Nat), i < j → l[i]? = some (x, mx) → l[j]? = some (y, m) → m.testBit (i0 + i) = true ∨ Apart x y
  | _, [], _, i, j, x, mx, y, m, _, hi, _ => by simp at hi
  | i0, (x0, m0) :: r, h, i, j, x, mx, y, m, hij, hi, hj => by
    simp only [pairsOK, Bool.and_eq_true] at h
    cases j with
    | zero => omega
    | succ j =>
      cases i with
      | zero =>
        simp at hi; obtain ⟨rfl, rfl⟩ := hi
        exact innerOK_get h.1 j y m (by simpa using hj)
      | succ i =>
        have := pairsOK_get h.2 i j x mx y m (by omega) (by simpa using hi) (by simpa using hj)
        rwa [show i0 + (i + 1) = i0 + 1 + i by omega]
theorem newsOK_get {ts : List (Nat × AV)} {hs : List (Name × AO)} : ∀ {L past : List Row}, newsOK ts hs L past = true → ∀ i y, L[i]? = some y → ∀ n ∈ y.2.nw,
    (∀ x ∈ past ++ L.take i, x.2.has n = false) ∧ freeIn n ts hs = true ∧ n ∈ keys y.2.upd
  | [], _, _, i, y, hi, _, _ => by simp at hi
  | y0 :: r, past, h, i, y, hi, n, hn => by
    simp only [newsOK, Bool.and_eq_true, List.all_eq_true] at h
    cases i with
    | zero =>
      simp at hi; subst hi
      have := h.1 n hn
      simp only [Bool.and_eq_true, List.all_eq_true, List.contains_eq_mem, decide_eq_true_eq, Bool.not_eq_true'] at this
      simp only [List.take_zero, List.append_nil]
      exact ⟨this.1.1, this.1.2, this.2⟩
    | succ i =>
      have := newsOK_get h.2 i y (by simpa using hi) n hn
      simpa [List.append_assoc] using this
theorem edgesOK_get : ∀ {i0 : Nat} {l : List Oper}, edgesOK i0 l = true → ∀ i o, l[i]? = some o → ∀ e ∈ o.after.toList, Region.binds .any e = true → e.on < i0 + i
  | _, [], _, i, o, hi, _, _, _ => by simp at hi
  | i0, o0 :: r, h, i, o, hi, e, he, hb => by
    simp only [edgesOK, Bool.and_eq_true, List.all_eq_true] at h
    cases i with
    | zero =>
      simp at hi; subst hi
      have := h.1 e he
      simp only [hb, Bool.not_true, Bool.false_or] at this
      have h2 : e.on < i0 := Nat.le_of_ble_eq_true this
      omega
    | succ i =>
      have := edgesOK_get h.2 i o (by simpa using hi) e he hb
      omega
theorem stepsM_get {P : Program} {ops : Array Oper} {m : Nat} : ∀ {i0 : Nat} {L : List Row}, StepsM P ops m i0 L → (∀ i y, L[i]? = some y → StepOK P ops (i0 + i) y.1 y.2) ∧ m = i0 + L.length
  | i0, [], h => by simp only [StepsM] at h; exact ⟨fun i y hi => by simp at hi, by simp [h]⟩
  | i0, (d, e) :: r, h => by
    simp only [StepsM] at h
    obtain ⟨g1, g2⟩ := stepsM_get h.2
    refine ⟨fun i y hi => ?_, by simp; omega⟩
    cases i with
    | zero => simp at hi; subst hi; simpa using h.1
    | succ i => have := g1 i y (by simpa using hi); rwa [show i0 + (i + 1) = i0 + 1 + i by omega]
def rowAt (L : List Row) (i : Nat) : Row := L.getD i noRow
def allRun (L : List Row) (s : AS) : AS := L.foldl (fun s r => s.run r.1 r.2) s
theorem got_get {n : Nat} : ∀ {L : List Row} {ts : List (Nat × AV)} {hs : List (Name × AO)}, (got n L ts hs).1 = wantS L → (got n L ts hs).2.1 = wantH L → (got n L ts hs).2.2.1 = true →
    (∀ i y, L[i]? = some y → (∀ t x, (t, x) ∈ y.2.rd → (allRun (L.take i) (mk ts hs)).slot t = some x) ∧ (∀ m o, (m, o) ∈ y.2.hp → (allRun (L.take i) (mk ts hs)).heap m = some o) ∧ (∀ d, y.1 = some d → d < n) ∧ ∀ m, m ∈ y.2.nw → (allRun (L.take i) (mk ts hs)).heap m = none) ∧
    allRun L (mk ts hs) = mk (got n L ts hs).2.2.2.1 (got n L ts hs).2.2.2.2
  | [], ts, hs, _, _, _ => ⟨fun i y hi => by simp at hi, rfl⟩
  | (d, e) :: r, ts, hs, h1, h2, h3 => by
    have hl := got_len n r (putT ts d e) (e.upd ++ hs)
    simp only [got, wantS, wantH] at h1 h2 h3 ⊢
    obtain ⟨h1a, h1b⟩ := append_split h1 (by simp)
    obtain ⟨h2a, h2b⟩ := append_split h2 (by simp)
    simp only [Bool.and_eq_true] at h3
    obtain ⟨g1, g2⟩ := got_get h1b h2b h3.2
    refine ⟨fun i y hi => ?_, ?_⟩
    · cases i with
      | zero =>
        simp at hi; subst hi
        simp only [List.take_zero, allRun, List.foldl_nil]
        refine ⟨fun t x hx => map_eq_all h1a _ hx, fun m o hm => map_eq_all h2a _ hm, fun d' hd' => ?_, fun m hm => ?_⟩
        · have h4 := h3.1.1
          rw [show d = some d' from hd'] at h4
          exact Nat.le_of_ble_eq_true h4
        · have h4 := h3.1.2
          simp only [newOK, List.all_eq_true, Bool.and_eq_true, Option.isNone_iff_eq_none] at h4
          exact (h4 m hm).1.1
      | succ i =>
        have := g1 i y (by simpa using hi)
        simp only [List.take_succ_cons, allRun, List.foldl_cons, mk_run] at this ⊢
        exact this
    · simp only [allRun, List.foldl_cons, mk_run] at g2 ⊢
      exact g2
theorem RD_all {L : List Row} {s : AS} : ∀ (k : Nat), k ≤ L.length → RD (rowAt L) (fun _ => true) s k = allRun (L.take k) s
  | 0, _ => by simp [RD, allRun]
  | k + 1, hk => by
    have ih := RD_all (L := L) (s := s) k (by omega)
    have hlt : k < L.length := by omega
    simp only [RD, if_true, ih]
    rw [List.take_succ_eq_append_getElem hlt]
    have e : rowAt L k = L[k] := by rw [rowAt, List.getD_eq_getElem?_getD, List.getElem?_eq_getElem hlt]; rfl
    rw [e]
    simp only [allRun, List.foldl_append, List.foldl_cons, List.foldl_nil]
def cnt (f : Nat → Bool) : Nat → Nat
  | 0 => 0
  | k + 1 => (if f k then 1 else 0) + cnt f k
theorem cnt_le {f g : Nat → Bool} (h : ∀ i, g i = true → f i = true) : ∀ k, cnt g k ≤ cnt f k
  | 0 => Nat.le_refl _
  | k + 1 => by
    have := cnt_le h k
    simp only [cnt]
    have h2 := h k
    cases hg : g k <;> cases hf : f k <;> simp_all <;> omega
theorem cnt_lt {f g : Nat → Bool} (h : ∀ i, g i = true → f i = true) {i : Nat} (hf : f i = true) (hg : g i = false) : ∀ k, i < k → cnt g k < cnt f k
  | 0, hk => by omega
  | k + 1, hk => by
    simp only [cnt]
    have h1 := cnt_le h k
    by_cases e : i = k
    · subst e; simp [hf, hg]; omega
    · have := cnt_lt h hf hg k (by omega)
      have h2 := h k
      cases hg' : g k <;> cases hf' : f k <;> simp_all <;> omega
theorem cnt_zero {f : Nat → Bool} : ∀ k, cnt f k = 0 → ∀ i, i < k → f i = false
  | 0, _, i, hi => by omega
  | k + 1, h, i, hi => by
    simp only [cnt] at h
    by_cases e : i = k
    · subst e; cases hf : f i <;> simp_all
    · exact cnt_zero k (by omega) i (by omega)
section
variable {P : Program} {ops : Array Oper} {Γ : Ctx} {n : Nat} {L : List Row} {ts : List (Nat × AV)} {hs : List (Name × AO)}
theorem keys_of_mem {α : Type} {l : List (Nat × α)} {k : Nat} {x : α} (h : (k, x) ∈ l) : k ∈ keys l := List.mem_map.2 ⟨_, h, rfl⟩
theorem keys_of_look {α : Type} {l : List (Nat × α)} {k : Nat} (h : look k l ≠ none) : k ∈ keys l := by
  rcases Classical.em (k ∈ keys l) with h' | h'
  · exact h'
  · exact absurd (look_none h') h
theorem zip_get {α β : Type} {l : List α} {l' : List β} {i : Nat} {x : α} {y : β} (h : l[i]? = some x) (h' : l'[i]? = some y) : (l.zip l')[i]? = some (x, y) := by
  grind
theorem masks_len : ∀ (l : List Oper) (acc : List Nat), (masks l acc).length = acc.length + l.length
  | [], acc => by simp [masks]
  | o :: r, acc => by simp only [masks]; rw [masks_len r]; simp; omega
theorem ready_none {listed : Array Bool} (hls : listed.size = ops.size) (hall : ∀ i, i < ops.size → listed.getD i false = true) : Region.ready .any ops listed = [] := by
  unfold Region.ready
  simp_all
theorem wpAny_all {Q : Exit → Act → World → Prop} {listed : Array Bool} {a : Act} {w : World} (hls : listed.size = ops.size) (hall : ∀ i, i < ops.size → listed.getD i false = true) (hq : Q .normal a w) : ∀ fuel, wpAny P .any ops Q fuel listed a w
  | 0 => ⟨ready_none hls hall, hq⟩
  | fuel + 1 => ⟨fun _ => hq, fun i hi => by rw [ready_none hls hall] at hi; simp at hi⟩
theorem any_orderX (c : Bool) (hn : Γ.n = n) {Q : Exit → Act → World → Prop} (hsteps : ∀ i y, L[i]? = some y → (c = true → i + 1 < L.length) → StepOK P ops i y.1 y.2) (hsize : ops.size = L.length) (h1 : (got n L ts hs).1 = wantS L) (h2 : (got n L ts hs).2.1 = wantH L) (h3 : (got n L ts hs).2.2.1 = true)
    (hind : indep ops L ts hs = true)
    (hlast : c = true → 0 < L.length ∧ L[L.length - 1]? = some noRow ∧ (∀ j, j < L.length - 1 → ((masks ops.toList []).getD (L.length - 1) 0).testBit j = true) ∧
      ∀ ρ M a w K, Sim Γ ρ M (mk (got n L ts hs).2.2.2.1 (got n L ts hs).2.2.2.2) a w → (∀ a' w', Q .normal a' w' → K a' w') → wpOp P ops Q (L.length - 1) K a w)
    (hQ : c = false → ∀ ρ' M' a' w', Sim Γ ρ' M' (mk (got n L ts hs).2.2.2.1 (got n L ts hs).2.2.2.2) a' w' → Q .normal a' w') :
    ∀ (fuel : Nat) (listed : Array Bool) (a : Act) (w : World) (ρ : Name → Loc) (M : Nat → Prop), listed.size = ops.size → (c = true → listed.getD (L.length - 1) false = false) →
      (∀ i o, ops[i]? = some o → listed.getD i false = true → ∀ e ∈ o.after.toList, Region.binds .any e = true → listed.getD e.on false = true) →
      cnt (fun i => !listed.getD i false) ops.size ≤ fuel →
      Sim Γ ρ M (RD (rowAt L) (fun i => listed.getD i false) (mk ts hs) L.length) a w → wpAny P .any ops Q fuel listed a w := by
  obtain ⟨hgot, hend⟩ := got_get h1 h2 h3
  simp only [indep, Bool.and_eq_true] at hind
  obtain ⟨⟨hedge, hpair⟩, hnews⟩ := hind
  have hedge' := fun i o (hi : ops[i]? = some o) => by simpa using edgesOK_get hedge i o (by simpa using hi)
  have hallL : RD (rowAt L) (fun _ => true) (mk ts hs) L.length = allRun L (mk ts hs) := by
    rw [RD_all (L := L) (s := mk ts hs) L.length (Nat.le_refl _), List.take_length]
  have hfin : ∀ (listed : Array Bool) a w ρ M, (∀ i, i < ops.size → listed.getD i false = true) → (c = true → listed.getD (L.length - 1) false = false) →
      Sim Γ ρ M (RD (rowAt L) (fun i => listed.getD i false) (mk ts hs) L.length) a w → Q .normal a w := by
    intro listed a w ρ M hall hlst hsim
    cases c with
    | true =>
      obtain ⟨g1, _⟩ := hlast rfl
      rw [hall (L.length - 1) (by omega)] at hlst
      exact absurd (hlst rfl) (by simp)
    | false =>
    refine hQ rfl ρ M a w (hsim.congr (fun t => ?_) (fun m => ?_))
    · rw [← hend, ← hallL]
      exact RD_slot_same _ (fun j hj _ => by rw [hall j (by omega)])
    · rw [← hend, ← hallL]
      exact RD_heap_same _ (fun j hj _ => by rw [hall j (by omega)])
  have hnone : ∀ listed : Array Bool, listed.size = ops.size → Region.ready .any ops listed = [] → ∀ i, i < ops.size → listed.getD i false = true := by
    intro listed hls hr i
    induction i using Nat.strongRecOn with
    | _ i ih =>
      intro hi
      cases hl : listed.getD i false with
      | true => rfl
      | false =>
        exfalso
        have hmem : i ∈ Region.ready .any ops listed := by
          unfold Region.ready
          simp only [List.mem_filter, List.mem_range]
          refine ⟨hi, ?_⟩
          have hl2 : listed.getD i true = false := by
            have hi' : i < listed.size := by omega
            simp [Array.getD, hi'] at hl ⊢
            exact hl
          rw [hl2]
          simp only [Bool.not_false, Bool.true_and, Array.getElem?_eq_getElem hi, Option.map_some, Option.getD_some]
          rw [Array.all_eq_true']
          intro e he
          cases hb : Region.binds .any e with
          | false => simp
          | true =>
            have := hedge' i ops[i] (Array.getElem?_eq_getElem hi) e he hb
            simp only [Bool.not_true, Bool.false_or]
            exact ih e.on this (by omega)
        rw [hr] at hmem
        simp at hmem
  intro fuel
  induction fuel with
  | zero =>
    intro listed a w ρ M hls hlst hdown hcnt hsim
    have hall : ∀ i, i < ops.size → listed.getD i false = true := fun i hi => by
      have := cnt_zero _ (Nat.le_zero.1 hcnt) i hi
      simpa using this
    refine ⟨?_, hfin listed a w ρ M hall hlst hsim⟩
    unfold Region.ready
    rw [List.filter_eq_nil_iff]
    intro i hi
    have hi' := List.mem_range.1 hi
    have h5 := hall i hi'
    have : listed.getD i true = true := by
      have hi2 : i < listed.size := by omega
      simp [Array.getD, hi2] at h5 ⊢
      exact h5
    simp [this]
  | succ fuel ih =>
    intro listed a w ρ M hls hlst hdown hcnt hsim
    refine ⟨fun hr => hfin listed a w ρ M (hnone listed hls hr) hlst hsim, fun i hi => ?_⟩
    unfold Region.ready at hi
    simp only [List.mem_filter, List.mem_range] at hi
    obtain ⟨hilt, hi2⟩ := hi
    have hio := Array.getElem?_eq_getElem hilt
    simp only [Bool.and_eq_true, Bool.not_eq_true', hio, Option.map_some, Option.getD_some] at hi2
    obtain ⟨hl1, hready⟩ := hi2
    have hnl : listed.getD i false = false := by
      have hi' : i < listed.size := by omega
      simp [Array.getD, hi'] at hl1 ⊢
      exact hl1
    rw [Array.all_eq_true'] at hready
    have hiL : i < L.length := by omega
    have hLi : L[i]? = some (rowAt L i) := by rw [rowAt, List.getD_eq_getElem?_getD, List.getElem?_eq_getElem hiL]; rfl
    have hLj : ∀ j, j < L.length → L[j]? = some (rowAt L j) := fun j hj => by rw [rowAt, List.getD_eq_getElem?_getD, List.getElem?_eq_getElem hj]; rfl
    let D' : Nat → Bool := fun j => listed.getD j false || decide (j = i)
    have hmask : ∀ k j, D' k = true → ((masks ops.toList []).getD k 0).testBit j = true → D' j = true := by
      refine masks_sound ops.toList [] (fun k o ho hD e he hb => ?_) (fun k j _ hj => by simp at hj)
      simp only [List.length_nil, Nat.zero_add] at hD
      have ho' : ops[k]? = some o := by simpa using ho
      by_cases e' : k = i
      · subst e'
        rw [hio] at ho'; cases ho'
        have := hready e (by simpa using he)
        simp only [hb, Bool.not_true, Bool.false_or] at this
        show (listed.getD e.on false || decide (e.on = _)) = true
        rw [this]; rfl
      · have : listed.getD k false = true := by simpa [D', e'] using hD
        show (listed.getD e.on false || decide (e.on = i)) = true
        rw [hdown k o ho' this e he hb]; rfl
    have hmask0 : ∀ k j, listed.getD k false = true → ((masks ops.toList []).getD k 0).testBit j = true → listed.getD j false = true := by
      refine masks_sound ops.toList [] (fun k o ho hD e he hb => ?_) (fun k j _ hj => by simp at hj)
      simp only [List.length_nil, Nat.zero_add] at hD
      exact hdown k o (by simpa using ho) hD e he hb
    have hord : ∀ j, j < L.length → j ≠ i → (j < i ∧ listed.getD j false = true) ∨ (i < j ∧ listed.getD j false = false) ∨ (Apart (rowAt L i) (rowAt L j) ∧ i < j) ∨ (Apart (rowAt L j) (rowAt L i) ∧ j < i) := by
      intro j hj hji
      have hm : ∀ k, k < L.length → (masks ops.toList [])[k]? = some ((masks ops.toList []).getD k 0) := fun k hk => by
        have : k < (masks ops.toList []).length := by rw [masks_len]; simp; omega
        rw [List.getD_eq_getElem?_getD, List.getElem?_eq_getElem this]; rfl
      rcases Nat.lt_or_gt_of_ne hji with hlt | hgt
      · rcases pairsOK_get hpair j i _ _ _ _ hlt (zip_get (hLj j hj) (hm j hj)) (zip_get hLi (hm i hiL)) with hb | hb
        · have := hmask i j (by simp [D']) (by simpa using hb)
          simp only [D', hji, decide_false, Bool.or_false] at this
          exact .inl ⟨hlt, this⟩
        · exact .inr (.inr (.inr ⟨hb, hlt⟩))
      · rcases pairsOK_get hpair i j _ _ _ _ hgt (zip_get hLi (hm i hiL)) (zip_get (hLj j hj) (hm j hj)) with hb | hb
        · refine .inr (.inl ⟨hgt, ?_⟩)
          cases hlj : listed.getD j false with
          | false => rfl
          | true =>
            have := hmask0 j i hlj (by simpa using hb)
            rw [hnl] at this; simp at this
        · exact .inr (.inr (.inl ⟨hb, hgt⟩))
    obtain ⟨hrd, hhp, hdst, hnw⟩ := hgot i _ hLi
    have hRDi := RD_all (L := L) (s := mk ts hs) i (by omega)
    have hholds : (RD (rowAt L) (fun i => listed.getD i false) (mk ts hs) L.length).holds (rowAt L i).2 := by
      refine ⟨fun t x hx => ?_, fun m o hm => ?_, fun m hm => ?_⟩
      · have hk := keys_of_mem hx
        rw [RD_slot_cut (i := i) L.length (by omega) (fun j hj1 hj2 hw => ?_), RD_slot_same (D' := fun _ => true) i (fun j hj hw => ?_), hRDi]
        · exact hrd t x hx
        · rcases hord j (by omega) (by omega) with h | h | h | h
          · exact h.2
          · omega
          · omega
          · exact absurd hk (h.1.d1 t hw)
        · by_cases e : j = i
          · subst e; exact hnl
          · rcases hord j hj2 e with h | h | h | h
            · omega
            · exact h.2
            · exact absurd hk (h.1.d2 t hw)
            · omega
      · have hk := keys_of_mem hm
        rw [RD_heap_cut (i := i) L.length (by omega) (fun j hj1 hj2 hw => ?_), RD_heap_same (D' := fun _ => true) i (fun j hj hw => ?_), hRDi]
        · exact hhp m o hm
        · rcases hord j (by omega) (by omega) with h | h | h | h
          · exact h.2
          · omega
          · omega
          · exact absurd hk (h.1.h1 m (keys_of_look hw))
        · by_cases e : j = i
          · subst e; exact hnl
          · rcases hord j hj2 e with h | h | h | h
            · omega
            · exact h.2
            · exact absurd hk (h.1.h2 m (keys_of_look hw))
            · omega
      · obtain ⟨hpast, hfree, hk⟩ := newsOK_get hnews i _ hLi m hm
        refine ⟨?_, ?_⟩
        · rw [RD_heap_cut (i := i) L.length (by omega) (fun j hj1 hj2 hw => ?_), RD_heap_same (D' := fun _ => true) i (fun j hj hw => ?_), hRDi]
          · exact hnw m hm
          · rcases hord j (by omega) (by omega) with h | h | h | h
            · exact h.2
            · omega
            · omega
            · exact absurd hk (h.1.hh m (keys_of_look hw))
          · by_cases e : j = i
            · subst e; exact hnl
            · rcases hord j hj2 e with h | h | h | h
              · omega
              · exact h.2
              · exact absurd (keys_of_look hw) (h.1.hh m hk)
              · omega
        · skip
          have hf := free_of hfree
          have hE : ∀ j, j < L.length → listed.getD j false = true → (rowAt L j).2.has m = false := by
            intro j hj hlj
            have hji : j ≠ i := fun e => by subst e; rw [hnl] at hlj; simp at hlj
            rcases Nat.lt_or_gt_of_ne hji with hlt | hgt
            · refine hpast _ ?_
              simp only [List.nil_append]
              refine List.mem_iff_getElem.2 ⟨j, by simp; omega, ?_⟩
              rw [List.getElem_take, rowAt, List.getD_eq_getElem?_getD, List.getElem?_eq_getElem (by omega)]; rfl
            · rcases hord j hj hji with h | h | h | h
              · omega
              · rw [h.2] at hlj; simp at hlj
              · exact h.1.c1 m hm
              · omega
          refine ⟨fun t x ht => ?_, fun m' o' hm' => ?_⟩
          · rcases RD_slot_from _ ht with h | ⟨j, hj, hlj, rfl⟩
            · exact hf.1 t x h
            · have := hE j hj hlj
              simp only [Eff.has, Bool.or_eq_false_iff] at this
              exact this.1
          · rcases RD_heap_from _ hm' with h | ⟨j, hj, hlj, h⟩
            · exact hf.2 m' o' h
            · have := hE j hj hlj
              simp only [Eff.has, Bool.or_eq_false_iff] at this
              have h8 := this.2
              rw [List.any_eq_false] at h8
              have := h8 _ (look_mem h)
              simpa using this
    have hget : ∀ j, (listed.setIfInBounds i true).getD j false = D' j := by
      intro j
      have hi' : i < listed.size := by omega
      by_cases e : j = i
      · subst e; simp [D', Array.getD, hi']
      · simp only [D', e, decide_false, Bool.or_false, Array.getD_eq_getD_getElem?]
        rw [Array.getElem?_setIfInBounds_ne (fun h => e h.symm)]
    by_cases hc : c = true ∧ i = L.length - 1
    · -- the last, said by itself
      obtain ⟨hc, hil⟩ := hc
      obtain ⟨g1, g2, g3, g4⟩ := hlast hc
      rw [← hil] at g2 g3 g4
      have hno : rowAt L i = noRow := by rw [hLi] at g2; exact Option.some.inj g2
      have hoth : ∀ j, j < L.length → j ≠ i → listed.getD j false = true := fun j hj hji => by
        have := hmask i j (by simp [D']) (g3 j (by omega))
        simpa only [D', hji, decide_false, Bool.or_false] using this
      refine g4 ρ M a w _ (hsim.congr (fun t => ?_) (fun m => ?_)) (fun a' w' hq => wpAny_all (by simpa using hls) (fun j hj => ?_) hq fuel)
      · rw [← hend, ← hallL]
        refine (RD_slot_same _ (fun j hj hw => ?_)).symm
        by_cases e : j = i
        · subst e; rw [hno] at hw; simp [noRow] at hw
        · rw [hoth j hj e]
      · rw [← hend, ← hallL]
        refine (RD_heap_same _ (fun j hj hw => ?_)).symm
        by_cases e : j = i
        · subst e; rw [hno] at hw; simp [noRow, look] at hw
        · rw [hoth j hj e]
      · rw [hget]
        by_cases e : j = i
        · simp [D', e]
        · simp only [D', hoth j (by omega) e, Bool.true_or]
    have hstep := hsteps i _ hLi (fun hc' => by
      have : i ≠ L.length - 1 := fun e => hc ⟨hc', e⟩
      omega)
    refine hstep Γ ρ M _ a w _ Q hsim hholds (fun d hd => by rw [hn]; exact hdst d hd) (fun ρ' M' a' w' hsim' => ?_)
    refine ih _ a' w' ρ' M' (by simpa using hls) (fun hc' => ?_) (fun k o ho hk e he hb => ?_) ?_ (hsim'.congr (fun t => ?_) (fun m => ?_))
    · rw [hget]
      have hne : L.length - 1 ≠ i := fun e => hc ⟨hc', e.symm⟩
      simp only [D', hlst hc', hne, decide_false, Bool.or_false]
    · rw [hget] at hk ⊢
      by_cases e' : k = i
      · subst e'
        rw [hio] at ho; cases ho
        have := hready e (by simpa using he)
        simp only [hb, Bool.not_true, Bool.false_or] at this
        show (listed.getD e.on false || decide (e.on = _)) = true
        rw [this]; rfl
      · have : listed.getD k false = true := by simpa [D', e'] using hk
        show (listed.getD e.on false || decide (e.on = i)) = true
        rw [hdown k o ho this e he hb]; rfl
    · have : cnt (fun j => !(listed.setIfInBounds i true).getD j false) ops.size < cnt (fun j => !listed.getD j false) ops.size := by
        refine cnt_lt (i := i) (fun j hj => ?_) (by simp [hnl]) (by simp [hget, D']) _ hilt
        rw [hget] at hj
        simp only [D', Bool.not_or, Bool.and_eq_true] at hj
        exact hj.1
      omega
    · -- the slots
      have hrun := run_slot (RD (rowAt L) (fun i => listed.getD i false) (mk ts hs) L.length) (rowAt L i) t
      rw [hrun]
      have hD : (fun j => (listed.setIfInBounds i true).getD j false) = D' := funext hget
      rw [hD]
      by_cases hw : (rowAt L i).1 = some t
      · rw [if_pos hw, RD_slot_cut (i := i + 1) L.length (by omega) (fun j hj1 hj2 hwj => ?_)]
        · simp only [RD, D', decide_true, Bool.or_true, if_true]
          rw [run_slot, if_pos hw]
        · rcases hord j hj2 (by omega) with h | h | h | h
          · omega
          · simp only [D', h.2, Bool.false_or, decide_eq_false_iff_not]; omega
          · exact absurd hwj (h.1.dd t hw)
          · omega
      · rw [if_neg hw]
        refine RD_slot_same _ (fun j hj hwj => ?_)
        by_cases e : j = i
        · subst e; exact absurd hwj hw
        · simp [D', e]
    · have hrun := run_heap (RD (rowAt L) (fun i => listed.getD i false) (mk ts hs) L.length) (rowAt L i) m
      rw [hrun]
      have hD : (fun j => (listed.setIfInBounds i true).getD j false) = D' := funext hget
      rw [hD]
      cases hw : look m (rowAt L i).2.upd with
      | some o =>
        rw [RD_heap_cut (i := i + 1) L.length (by omega) (fun j hj1 hj2 hwj => ?_)]
        · simp only [RD, D', decide_true, Bool.or_true, if_true]
          rw [run_heap, hw]
        · rcases hord j hj2 (by omega) with h | h | h | h
          · omega
          · simp only [D', h.2, Bool.false_or, decide_eq_false_iff_not]; omega
          · exact absurd (keys_of_look hwj) (h.1.hh m (keys_of_look (by rw [hw]; simp)))
          · omega
      | none =>
        refine RD_heap_same _ (fun j hj hwj => ?_)
        by_cases e : j = i
        · subst e; exact absurd hw hwj
        · simp [D', e]
theorem any_order (hn : Γ.n = n) (hst : StepsOK P ops 0 L) (h1 : (got n L ts hs).1 = wantS L) (h2 : (got n L ts hs).2.1 = wantH L) (h3 : (got n L ts hs).2.2.1 = true)
    (hind : indep ops L ts hs = true) {Q : Exit → Act → World → Prop}
    (hQ : ∀ ρ' M' a' w', Sim Γ ρ' M' (mk (got n L ts hs).2.2.2.1 (got n L ts hs).2.2.2.2) a' w' → Q .normal a' w')
    (fuel : Nat) (listed : Array Bool) (a : Act) (w : World) (ρ : Name → Loc) (M : Nat → Prop) (hls : listed.size = ops.size)
    (hdown : ∀ i o, ops[i]? = some o → listed.getD i false = true → ∀ e ∈ o.after.toList, Region.binds .any e = true → listed.getD e.on false = true)
    (hcnt : cnt (fun i => !listed.getD i false) ops.size ≤ fuel)
    (hsim : Sim Γ ρ M (RD (rowAt L) (fun i => listed.getD i false) (mk ts hs) L.length) a w) : wpAny P .any ops Q fuel listed a w := by
  obtain ⟨hsteps, hsize⟩ := stepsM_get hst
  exact any_orderX false hn (fun i y hi _ => by have := hsteps i y hi; rwa [Nat.zero_add] at this) (by omega) h1 h2 h3 hind (fun h => by simp at h) (fun _ => hQ) fuel listed a w ρ M hls (fun h => by simp at h) hdown hcnt hsim
theorem got_noRow (n : Nat) : ∀ (L : List Row) (ts : List (Nat × AV)) (hs : List (Name × AO)), got n (L ++ [noRow]) ts hs = got n L ts hs
  | [], ts, hs => by simp [got, noRow, putT, dstOK, newOK]
  | (d, e) :: r, ts, hs => by simp only [List.cons_append, got, got_noRow n r]
theorem wantS_noRow : ∀ (L : List Row), wantS (L ++ [noRow]) = wantS L
  | [] => by simp [wantS, noRow]
  | (d, e) :: r => by simp only [List.cons_append, wantS, wantS_noRow r]
theorem wantH_noRow : ∀ (L : List Row), wantH (L ++ [noRow]) = wantH L
  | [] => by simp [wantH, noRow]
  | (d, e) :: r => by simp only [List.cons_append, wantH, wantH_noRow r]
end
theorem Sim.drew {Γ : Ctx} {ρ : Name → Loc} {M : Nat → Prop} {s : AS} {a : Act} {w : World} (h : Sim Γ ρ M s a w) : Sim Γ ρ M s a { w with drawn := w.drawn + 1 } :=
  h.world ⟨Nat.le_refl _, fun _ _ _ => rfl, rfl, rfl⟩
section code
variable {P : Program} {Γ : Ctx} {s : AS} {Q : Exit → AS → Prop}
def nextQ (N : AS → Prop) (Q : Exit → AS → Prop) : Exit → AS → Prop
  | .normal, s => N s
  | e, s => Q e s
def blockQ (id : Nat) (Q : Exit → AS → Prop) : Exit → AS → Prop
  | .exit k, s => if k = id then Q .normal s else Q (.exit k) s
  | e, s => Q e s
theorem AWp.mono {c : Code} {Q' : Exit → AS → Prop} (h : AWp P Γ c s Q) (hq : ∀ e s, Q e s → Q' e s) : AWp P Γ c s Q' :=
  fun ρ M a w hs => wp_mono (h ρ M a w hs) fun e a' w' ⟨s', ρ', M', h1, h2⟩ => ⟨s', ρ', M', hq _ _ h1, h2⟩
theorem AWp.skip (h : Q .normal s) : AWp P Γ .skip s Q := fun ρ M a w hs => wp_skip ⟨s, ρ, M, h, hs⟩
theorem AWp.exit {id : Nat} (h : Q (.exit id) s) : AWp P Γ (.exit id) s Q := fun ρ M a w hs => wp_exit ⟨s, ρ, M, h, hs⟩
theorem AWp.ret (h : Q .ret s) : AWp P Γ .ret s Q := fun ρ M a w hs => wp_ret ⟨s, ρ, M, h, hs⟩
theorem AWp.label {l : Nat} (h : Q .normal s) : AWp P Γ (.label l) s Q := fun ρ M a w hs => wp_label ⟨s, ρ, M, h, hs⟩
theorem AWp.seq {x y : Code} (h : AWp P Γ x s (nextQ (fun s' => AWp P Γ y s' Q) Q)) : AWp P Γ (.seq x y) s Q := by
  intro ρ M a w hs
  refine wp_seq (wp_mono (h ρ M a w hs) fun e a' w' ⟨s', ρ', M', h1, h2⟩ => ?_)
  cases e <;> simp only [nextQ] at h1 <;> simp only [Exit.then]
  · exact h1 ρ' M' a' w' h2
  all_goals grind
theorem AWp.block {id : Nat} {c : Code} (h : AWp P Γ c s (blockQ id Q)) : AWp P Γ (.block id c) s Q := by
  intro ρ M a w hs
  refine wp_block (wp_mono (h ρ M a w hs) fun e a' w' ⟨s', ρ', M', h1, h2⟩ => ?_)
  cases e with
  | exit k =>
    simp only [blockQ] at h1
    simp only [Exit.inBlock]
    grind
  | _ => exact ⟨s', ρ', M', h1, h2⟩
theorem eval_bool {ρ : Name → Loc} {M : Nat → Prop} {a : Act} {w : World} {t : Nat} {b : Bool} (hs : Sim Γ ρ M s a w) (h : s.slot t = some (.p (.v (.bool b)))) : a.eval (.tmp t) = .bool b := by
  obtain ⟨u, hu, hr⟩ := hs.slots t _ h
  simp only [AV.R, PV.R] at hr
  simp [Act.eval, Array.getD_eq_getD_getElem?, hu, hr.1]
theorem AWp.cond {t : Nat} {x y : Code} (b : Bool) (hc : s.slot t = some (.p (.v (.bool b)))) (ht : b = true → AWp P Γ x s Q) (hf : b = false → AWp P Γ y s Q) : AWp P Γ (.cond (.tmp t) x y) s Q :=
  fun ρ M a w hs => wp_cond_split (eval_bool hs hc) (fun hb => ht hb ρ M a w hs) (fun hb => hf hb ρ M a w hs)
theorem AWp.loop {c : Code} (I : Nat → AS → Prop) (h0 : ∃ m, I m s) (round : ∀ m s, I m s → AWp P Γ c s (nextQ (fun s' => ∃ m', m' < m ∧ I m' s') Q)) : AWp P Γ (.loop c) s Q := by
  intro ρ M a w hs b k cs
  have key : ∀ m s ρ M a w, I m s → Sim Γ ρ M s a w →
      ∃ e a' w', (∃ s' ρ' M', Q e s' ∧ Sim Γ ρ' M' s' a' w') ∧ Arrives P (lone (b.at a (.code c :: .inLoop c :: k)) cs w) b k cs e a' w' := by
    intro m
    induction m using Nat.strongRecOn with
    | _ m ih =>
      intro s ρ M a w hI hs
      obtain ⟨e, a₁, w₁, ⟨s', ρ', M', h1, h2⟩, harr⟩ := round m s hI ρ M a w hs b (.inLoop c :: k) cs
      cases e with
      | normal =>
        simp only [nextQ] at h1
        obtain ⟨m', hlt, hI'⟩ := h1
        obtain ⟨e₂, a₂, w₂, hq₂, harr₂⟩ := ih m' hlt s' ρ' M' a₁ w₁ hI' h2
        exact ⟨e₂, a₂, w₂, hq₂, .of_steps (Steps.trans harr (.one step_inLoop)) harr₂⟩
      | exit id => exact ⟨_, a₁, w₁, ⟨s', ρ', M', h1, h2⟩, .pass (x := .inLoop c) rfl (fun _ _ => .inl (by simp)) harr⟩
      | goto l => exact ⟨_, a₁, w₁, ⟨s', ρ', M', h1, h2⟩, .pass (x := .inLoop c) rfl (fun _ _ => .inl (by simp)) harr⟩
      | ret => exact ⟨_, a₁, w₁, ⟨s', ρ', M', h1, h2⟩, .pass (x := .inLoop c) rfl (fun _ _ => .inl (by simp)) harr⟩
      | panic ch => exact ⟨_, a₁, w₁, ⟨s', ρ', M', h1, h2⟩, .pass (x := .inLoop c) rfl (fun _ _ => .inl (by simp)) harr⟩
      | outgrown => exact ⟨_, a₁, w₁, ⟨s', ρ', M', h1, h2⟩, .pass (x := .inLoop c) rfl (fun _ _ => .inl (by simp)) harr⟩
  obtain ⟨m, hm⟩ := h0
  obtain ⟨e, a', w', hq, harr⟩ := key m s ρ M a w hm hs
  exact ⟨e, a', w', hq, .of_steps (.one step_loop) harr⟩
end code
def constCell : Value → AV
  | .slice none 0 0 => .p (.sl true 0 [])
  | c => .p (.v c)
def constAV : Value → Option AV
  | .agg cs => if cs.toList.all (fun c => c.oneCell') then some (.agg (cs.toList.map constCell)) else none
  | c => if c.oneCell' then some (constCell c) else none
def evalO (rd : List (Nat × AV)) : Operand → Option AV
  | .tmp t => look t rd
  | .const c => constAV c
  | .global g => some (.p (.v (.pointer (some ⟨g, 0, none⟩))))
  | .func f => some (.p (.v (.func (.func f) #[] #[])))
def evalL (rd : List (Nat × AV)) : List Operand → Option (List AV)
  | [] => some []
  | x :: r => match evalO rd x, evalL rd r with
    | some y, some ys => some (y :: ys)
    | _, _ => none
section
variable {ρ : Name → Loc} {H : Heap} {M : Nat → Prop} {w : World}
theorem constCell_R {c : Value} (h : c.oneCell' = true) : (constCell c).R ρ H M w c := by
  unfold constCell
  split
  · simp only [AV.R, PV.R]; exact ⟨none, 0, by simp⟩
  · simp only [AV.R, PV.R]; exact ⟨trivial, h⟩
theorem constCells_R : ∀ {cs : List Value}, (∀ c ∈ cs, c.oneCell' = true) → AV.Rs ρ H M w (cs.map constCell) cs
  | [], _ => by simp [AV.Rs]
  | c :: cs, h => by
    simp only [List.map_cons, AV.Rs]
    exact ⟨c, cs, rfl, h c (by simp), constCell_R (h c (by simp)), constCells_R (fun c hc => h c (by simp [hc]))⟩
theorem constAV_R {c : Value} {x : AV} (h : constAV c = some x) : x.R ρ H M w c := by
  unfold constAV at h
  split at h
  · rename_i cs
    split at h
    · rename_i hall
      cases h
      simp only [AV.R]
      exact ⟨cs, rfl, constCells_R (List.all_eq_true.1 hall)⟩
    · simp at h
  · split at h
    · rename_i hc; cases h; exact constCell_R hc
    · simp at h
theorem evalO_R {Γ : Ctx} {s : AS} {a : Act} {e : Eff} (hs : Sim Γ ρ M s a w) (hh : s.holds e) {x : Operand} {y : AV} (h : evalO e.rd x = some y) : y.R ρ s.heap M w (a.eval x) := by
  cases x with
  | tmp t =>
    obtain ⟨u, hu, hr⟩ := hs.slots t y (hh.rd t y (look_mem h))
    simpa [Act.eval, Array.getD_eq_getD_getElem?, hu] using hr
  | const c => exact constAV_R h
  | global g => simp only [evalO, Option.some.injEq] at h; subst h; simp only [AV.R, PV.R]; exact ⟨rfl, rfl⟩
  | func f => simp only [evalO, Option.some.injEq] at h; subst h; simp only [AV.R, PV.R]; exact ⟨rfl, rfl⟩
theorem evalL_R {Γ : Ctx} {s : AS} {a : Act} {e : Eff} (hs : Sim Γ ρ M s a w) (hh : s.holds e) : ∀ {xs : List Operand} {ys : List AV}, evalL e.rd xs = some ys → AV.Ts ρ s.heap M w ys (xs.map a.eval)
  | [], ys, h => by simp only [evalL, Option.some.injEq] at h; subst h; simp [AV.Ts]
  | x :: r, ys, h => by
    simp only [evalL] at h
    split at h
    · rename_i y ys' h1 h2
      cases h
      simp only [List.map_cons, AV.Ts]
      exact ⟨_, _, rfl, evalO_R hs hh h1, evalL_R hs hh h2⟩
    · simp at h
end
def lookH (l : List (Name × AO)) : Heap := fun n => look n l
def newM (M : Nat → Prop) (ρ : Name → Loc) (h : List (Name × AO)) : Nat → Prop := fun b => M b ∨ ∃ n o, look n h = some o ∧ (ρ n).blk = some b
structure After (ρ : Name → Loc) (M : Nat → Prop) (w : World) (pre : List (Name × AO)) (u : Value) (v : AV) (h : List (Name × AO)) (ρ' : Name → Loc) (w' : World) : Prop where
  val : v.R ρ' (lookH h) (newM M ρ' h) w' u
  objs : ∀ n o, look n h = some o → ObjAt ρ' (lookH h) (newM M ρ' h) w' n o
  inj : ∀ n m o o' b, look n h = some o → look m h = some o' → (ρ' n).blk = some b → (ρ' m).blk = some b → n = m
  own : ∀ n o b, look n h = some o → (ρ' n).blk = some b → (∃ o', look n pre = some o' ∧ (ρ n).blk = some b) ∨ w.heap.size ≤ b
  ext : Ext (fun b => ∃ n o, look n pre = some o ∧ (ρ n).blk = some b) w w'
  keep : ∀ n o, look n pre = some o → ∃ o', look n h = some o' ∧ stays o (ρ n) (some o') (ρ' n)
def Spec (P : Program) (f : FuncId) (args : List AV) (pre : List (Name × AO)) (post : AV → List (Name × AO) → Prop) : Prop :=
  ∀ (G : World) (ρ : Name → Loc) (M : Nat → Prop) (w : World) (us : List Value), Ground G w (fun b => ∃ n o, look n pre = some o ∧ (ρ n).blk = some b) → (∀ b, M b → b < w.heap.size) → AV.Ts ρ (lookH pre) M w args us →
    (∀ n o, look n pre = some o → ObjAt ρ (lookH pre) M w n o) →
    (∀ n m o o' b, look n pre = some o → look m pre = some o' → (ρ n).blk = some b → (ρ m).blk = some b → n = m) →
    Calls P f us.toArray w fun e w' => ∃ u v h ρ', e = .returned u ∧ post v h ∧ After ρ M w pre u v h ρ' w'
abbrev SpecIs (P : Program) (f : FuncId) (args : List AV) (pre : List (Name × AO)) (v : AV) (h : List (Name × AO)) : Prop := Spec P f args pre fun v' h' => v' = v ∧ h' = h
def argSlots : Nat → List AV → List (Nat × AV)
  | _, [] => []
  | i, x :: r => (i, x) :: argSlots (i + 1) r
theorem argSlots_get : ∀ {i : Nat} {l : List AV} {t : Nat} {x : AV}, look t (argSlots i l) = some x → i ≤ t ∧ l[t - i]? = some x
  | i, [], t, x, h => by simp [argSlots, look] at h
  | i, y :: r, t, x, h => by
    simp only [argSlots, look] at h
    split at h
    · rename_i e; subst e; cases h; exact ⟨Nat.le_refl _, by simp⟩
    · obtain ⟨h1, h2⟩ := argSlots_get h
      refine ⟨by omega, ?_⟩
      rw [show t - i = (t - (i + 1)) + 1 by omega]; simpa using h2
theorem AV.Ts.get {ρ : Name → Loc} {H : Heap} {M : Nat → Prop} {w : World} : ∀ {xs : List AV} {us : List Value}, AV.Ts ρ H M w xs us → us.length = xs.length ∧ ∀ (j : Nat) (x : AV), xs[j]? = some x → ∃ u : Value, us[j]? = some u ∧ x.R ρ H M w u
  | [], us, h => by simp only [AV.Ts] at h; subst h; simp
  | x0 :: xs, us, h => by
    simp only [AV.Ts] at h
    obtain ⟨u, us', rfl, h3, h4⟩ := h
    obtain ⟨g1, g2⟩ := AV.Ts.get h4
    refine ⟨by simp [g1], fun j x hj => ?_⟩
    cases j with
    | zero => simp at hj; subst hj; exact ⟨u, by simp, h3⟩
    | succ j => simpa using g2 j x (by simpa using hj)
def aggT (P : Program) (T : TypeId) : Bool := match P.underlying T with | some (.struct _) => true | some (.array _ _) => true | some _ => false | none => false
def flatT (P : Program) (T : TypeId) : Bool := match P.underlying T with | some (.struct _) => false | some (.array _ _) => false | some _ => true | none => false
def sizeT (P : Program) (T : TypeId) : Option Nat := (P.info? T).map (·.size)
theorem run_isAgg_true {P : Program} {T : TypeId} (h : aggT P T = true) (w : World) : (isAgg T).run P w = .ok true w := by
  unfold aggT at h
  unfold isAgg underlying
  cases hu : P.underlying T with
  | none => simp [hu] at h
  | some d => cases d <;> simp_all
theorem run_isAgg_false {P : Program} {T : TypeId} (h : flatT P T = true) (w : World) : (isAgg T).run P w = .ok false w := by
  unfold flatT at h
  unfold isAgg underlying
  cases hu : P.underlying T with
  | none => simp [hu] at h
  | some d => cases d <;> simp_all
theorem run_sizeOf {P : Program} {T : TypeId} {k : Nat} (h : sizeT P T = some k) (w : World) : (sizeOf T).run P w = .ok k w := by
  unfold sizeT at h
  unfold sizeOf typeInfo
  cases hu : P.info? T with
  | none => simp [hu] at h
  | some i => simp [hu] at h ⊢; simp [h]
theorem run_loadVar_agg {P : Program} {w : World} {T : TypeId} {a : Addr} {us : List Value} (hT : aggT P T = true) (hz : sizeT P T = some us.length) (h : ∀ j v, us[j]? = some v → w.cell? (a.add j) = some v) :
    (loadVar T a).run P w = .ok (.agg us.toArray) w := by
  unfold loadVar
  simp only [Sem.run_bind, run_isAgg_true hT, Result.andThen, if_true, run_sizeOf hz, run_loadCells_list w a us h]
  rfl
theorem run_loadVar_flat {P : Program} {w : World} {T : TypeId} {a : Addr} {u : Value} (hT : flatT P T = true) (h : w.cell? a = some u) :
    (loadVar T a).run P w = .ok u w := by
  unfold loadVar
  simp only [Sem.run_bind, run_isAgg_false hT, Result.andThen, if_false, Bool.false_eq_true, run_load, h]
theorem addr_add (b o j : Nat) : (Addr.add ⟨b, o, none⟩ j) = ⟨b, o + j, none⟩ := by
  unfold Addr.add; split
  · simp_all
  · rfl
theorem box_cells {ρ : Name → Loc} {H : Heap} {M : Nat → Prop} {w : World} {n : Name} {cells : List AV} (h : ObjAt ρ H M w n (.box cells)) :
    ∃ (b : Nat) (us : List Value), ρ n = ⟨some ⟨b, 0, none⟩, 1⟩ ∧ AV.Rs ρ H M w cells us ∧ ∀ j v, us[j]? = some v → w.cell? ⟨b, j, none⟩ = some v := by
  obtain ⟨b, T, cs, h1, h2, h3, h4⟩ := h
  refine ⟨b, cs.toList, h1, h4, fun j v hj => ?_⟩
  simp [World.cell?, h3]
  simpa using hj
def Res1 (P : Program) (s : AS) : ResultVar → AV → Prop
  | .tmp t, v => s.slot t = some v
  | .cell t T, v => ∃ n cells, s.slot t = some (.ref n 0) ∧ s.heap n = some (.box cells) ∧ ((aggT P T = true ∧ sizeT P T = some cells.length ∧ v = .agg cells) ∨ (flatT P T = true ∧ cells = [v]))
def Res1s (P : Program) (s : AS) : List ResultVar → List AV → Prop
  | [], vs => vs = []
  | r :: rs, vs => ∃ v vs', vs = v :: vs' ∧ Res1 P s r v ∧ Res1s P s rs vs'
def Res (P : Program) (s : AS) (rs : Array ResultVar) (v : AV) : Prop := if rs.size = 1 then Res1s P s rs.toList [v] else ∃ vs, v = .tup vs ∧ Res1s P s rs.toList vs
def resOf (tmps : Array Value) : ResultVar → Sem Value
  | .tmp t => pure (tmps.getD t undef)
  | .cell a t => do loadVar t (← asAddr (tmps.getD a undef))
theorem run_res1 {P : Program} {Γ : Ctx} {ρ : Name → Loc} {M : Nat → Prop} {s : AS} {a : Act} {w : World} (hs : Sim Γ ρ M s a w) {r : ResultVar} {v : AV} (h : Res1 P s r v) :
    ∃ u, (resOf a.tmps r).run P w = .ok u w ∧ v.R ρ s.heap M w u := by
  cases r with
  | tmp t =>
    obtain ⟨u, hu, hr⟩ := hs.slots t v h
    exact ⟨u, by simp [resOf, Array.getD_eq_getD_getElem?, hu], hr⟩
  | cell t T =>
    obtain ⟨n, cells, h1, h2, h3⟩ := h
    obtain ⟨u, hu, hr⟩ := hs.slots t _ h1
    simp only [AV.R] at hr
    obtain ⟨b, hb, rfl⟩ := hr.2 cells h2
    obtain ⟨b', us, g1, g2, g3⟩ := box_cells (hs.objs n _ h2)
    have e : b' = b := by rw [g1] at hb; simpa using hb
    subst e
    rcases h3 with ⟨hT, hz, rfl⟩ | ⟨hT, rfl⟩
    · refine ⟨.agg us.toArray, ?_, by simp only [AV.R]; exact ⟨us.toArray, rfl, by simpa using g2⟩⟩
      simp only [resOf, Array.getD_eq_getD_getElem?, hu, Option.getD_some, asAddr, Sem.run_bind]
      exact run_loadVar_agg hT (by rw [hz, g2.length]) (fun j v hj => by rw [addr_add, Nat.zero_add]; exact g3 j v hj)
    · simp only [AV.Rs] at g2
      obtain ⟨u, us', rfl, _, k3, k4⟩ := g2
      refine ⟨u, ?_, k3⟩
      simp only [resOf, Array.getD_eq_getD_getElem?, hu, Option.getD_some, asAddr, Sem.run_bind]
      exact run_loadVar_flat hT (g3 0 u (by simp))
theorem run_res1s {P : Program} {Γ : Ctx} {ρ : Name → Loc} {M : Nat → Prop} {s : AS} {a : Act} {w : World} (hs : Sim Γ ρ M s a w) : ∀ {rs : List ResultVar} {vs : List AV}, Res1s P s rs vs →
    ∃ us, (rs.mapM (resOf a.tmps)).run P w = .ok us w ∧ AV.Ts ρ s.heap M w vs us
  | [], vs, h => by
    simp only [Res1s] at h; subst h
    exact ⟨[], by simp, by simp [AV.Ts]⟩
  | r :: rs, vs, h => by
    simp only [Res1s] at h
    obtain ⟨v, vs', rfl, h1, h2⟩ := h
    obtain ⟨u, g1, g2⟩ := run_res1 hs h1
    obtain ⟨us, g3, g4⟩ := run_res1s hs h2
    refine ⟨u :: us, ?_, by simp only [AV.Ts]; exact ⟨u, us, rfl, g2, g4⟩⟩
    rw [List.mapM_cons]
    simp [g1, g3, Result.andThen]
theorem results_eq (fn : Func) (tmps : Array Value) : results fn tmps = (do let vs ← fn.results.mapM (resOf tmps); pure (if h : vs.size = 1 then vs[0] else .tuple vs)) := by
  rfl
theorem run_results {P : Program} {Γ : Ctx} {ρ : Name → Loc} {M : Nat → Prop} {s : AS} {a : Act} {w : World} (hs : Sim Γ ρ M s a w) {fn : Func} {v : AV} (h : Res P s fn.results v) :
    ∃ u, (results fn a.tmps).run P w = .ok u w ∧ v.R ρ s.heap M w u := by
  rw [results_eq]
  have key : ∀ vs, Res1s P s fn.results.toList vs → ∃ us, (fn.results.mapM (resOf a.tmps)).run P w = .ok us.toArray w ∧ AV.Ts ρ s.heap M w vs us := fun vs hv => by
    obtain ⟨us, g1, g2⟩ := run_res1s hs hv
    refine ⟨us, ?_, g2⟩
    rw [Array.mapM_eq_mapM_toList]
    simp_all
  unfold Res at h
  split at h
  · rename_i hsz
    obtain ⟨us, g1, g2⟩ := key _ h
    simp only [AV.Ts] at g2
    obtain ⟨u, us', rfl, g3, rfl⟩ := g2
    simp_all
  · rename_i hsz
    obtain ⟨vs, rfl, h⟩ := h
    have hl : ∀ (rs : List ResultVar) (vs : List AV), Res1s P s rs vs → vs.length = rs.length := by
      intro rs
      induction rs with
      | nil => intro vs h; simp only [Res1s] at h; simp [h]
      | cons r rs ih => intro vs h; simp only [Res1s] at h; obtain ⟨v, vs', rfl, _, h2⟩ := h; simp [ih _ h2]
    obtain ⟨us, g1, g2⟩ := key _ h
    have hlen := g2.get.1
    refine ⟨.tuple us.toArray, ?_, by simp only [AV.R]; exact ⟨us.toArray, rfl, by simpa using g2⟩⟩
    have h1 : ¬ us.length = 1 := by rw [hlen, hl _ _ h]; simpa using hsz
    simp_all
theorem Spec.intro {P : Program} {f : FuncId} {fn : Func} {c : Code} {args : List AV} {pre : List (Name × AO)} {post : AV → List (Name × AO) → Prop}
    (hf : P.funcs[f]? = some fn) (hb : fn.body = some c) (hlen : Nat.ble args.length fn.ntmps = true)
    (h : ∀ Γ : Ctx, Γ.n = fn.ntmps → Γ.names = keys pre → AWp P Γ c (mk (argSlots 0 args) pre) fun e s' => (e = .normal ∨ e = .ret) ∧
      ∃ v h', Res P s' fn.results v ∧ (∀ n o, look n h' = some o → s'.heap n = some o) ∧ (∀ n, n ∈ keys pre → look n h' ≠ none) ∧ post v h') : Spec P f args pre post := by
  intro G ρ M w us hG hM hargs hobjs hinj
  have hlen' := Nat.le_of_ble_eq_true hlen
  obtain ⟨hul, hug⟩ := hargs.get
  let Γ : Ctx := { n := fn.ntmps, names := keys pre, pre := fun n => (look n pre).getD (.box []), ρ0 := ρ, w0 := w, M := M, G := G }
  have hsome : ∀ n, n ∈ keys pre → ∃ o, look n pre = some o := by
    intro n hn
    rcases Classical.em (look n pre = none) with h' | h'
    · exfalso
      have : ∀ (l : List (Name × AO)), n ∈ keys l → look n l ≠ none := by
        intro l
        induction l with
        | nil => intro h; simp [keys] at h
        | cons p r ih =>
          intro h
          obtain ⟨k, y⟩ := p
          simp only [keys, List.map_cons, List.mem_cons] at h
          simp only [look]
          split
          · simp
          · rename_i hne
            rcases h with h | h
            · exact absurd h.symm hne
            · exact ih h
      exact this pre hn h'
    · cases hc : look n pre with
      | none => exact absurd hc h'
      | some o => exact ⟨o, rfl⟩
  have hsim : Sim Γ ρ M (mk (argSlots 0 args) pre) { tmps := us.toArray ++ Array.replicate (fn.ntmps - us.toArray.size) undef, defers := [] } w := by
    refine ⟨by simp [Γ]; omega, rfl, fun t x ht => ?_, hobjs, hinj, fun n o b hn hb => .inl ⟨?_, hb⟩, fun n hn => ?_, Ext.refl _ _, fun b hb => hb, hM, hM, ⟨hG.laid, hG.size, hG.same, fun b ⟨n, hn, hb⟩ => by obtain ⟨o, ho⟩ := hsome n hn; exact hG.out b ⟨n, o, ho, hb⟩⟩⟩
    · obtain ⟨_, h2⟩ := argSlots_get ht
      obtain ⟨u, hu, hr⟩ := hug t x (by simpa using h2)
      refine ⟨u, ?_, hr⟩
      grind
    · exact keys_of_look (by change look n pre = some o at hn; rw [hn]; simp)
    · obtain ⟨o, ho⟩ := hsome n hn
      exact ⟨o, ho, by simp only [Γ, ho, Option.getD_some]; exact stays_refl _ _⟩
  refine calls_of_wp hf hb (wp_mono (h Γ rfl rfl ρ M _ w hsim) fun e a' w' ⟨s', ρ', M', ⟨he, v, h', h1, h2, h3, h4⟩, hs'⟩ => ?_)
  have hfin : ∃ u, (results fn a'.tmps).run P w' = .ok u w' ∧ ∃ u' v h ρ', Ending.returned u = .returned u' ∧ post v h ∧ After ρ M w pre u' v h ρ' w' := by
    obtain ⟨u, hu, hr⟩ := run_results hs' h1
    refine ⟨u, hu, u, v, h', ρ', rfl, h4, ?_⟩
    have hM' : ∀ b, newM M ρ' h' b → M' b := by
      intro b hb
      rcases hb with hb | ⟨n, o, g1, g2⟩
      · exact hs'.mext b hb
      · exact ((hs'.objs n o (h2 n o g1)).blk_lt hs'.msize g2).2
    have hstep : HStep ρ' s'.heap ρ' (lookH h') := by
      intro n o hn
      cases hc : lookH h' n with
      | none => cases o <;> simp [stays]
      | some o' => have := h2 n o' hc; rw [hn] at this; cases this; exact stays_refl _ _
    have hnone : ∀ n, s'.heap n = none → lookH h' n = none := fun n hn => by
      cases hc : lookH h' n with
      | none => rfl
      | some o' => have := h2 n o' hc; rw [hn] at this; simp at this
    refine ⟨hr.step (Ext.refl (fun _ => False) _) (fun _ hb => hb.elim) (fun b _ hb => hM' b hb) hstep (fun n _ => hnone n), fun n o hn => ?_, fun n m o o' b g1 g2 => hs'.inj n m o o' b (h2 _ _ g1) (h2 _ _ g2), fun n o b g1 g2 => ?_, ?_, fun n o hn => ?_⟩
    · -- objects
      have hobj := hs'.objs n o (h2 n o hn)
      cases o with
      | box cells =>
        obtain ⟨b, T, cs, k1, k2, k3, k4⟩ := hobj
        exact ⟨b, T, cs, k1, .inr ⟨n, _, hn, by rw [k1]; simp [Loc.blk]⟩, k3, k4.step (Ext.refl (fun _ => False) _) (fun _ hb => hb.elim) (fun b _ hb => hM' b hb) hstep (fun m _ => hnone m)⟩
      | arr es rows =>
        obtain ⟨k0, k1, k2⟩ := hobj
        refine ⟨k0, k1, ?_⟩
        by_cases hc : (ρ' n).cap = 0
        · exact .inl hc
        · rcases k2 with k2 | ⟨b, T, cs, k3, k4, k5, k6, k7⟩
          · exact .inl k2
          · refine .inr ⟨b, T, cs, k3, .inr ⟨n, _, hn, by simp [Loc.blk, hc, k3]⟩, k5, k6, ?_⟩
            refine PV.Rows.of_get fun i r hi => ?_
            obtain ⟨g1, g2⟩ := k7.get i r hi
            refine ⟨g1, PV.Cells.of_get fun j c hj => ?_⟩
            obtain ⟨u, hu, hr⟩ := g2.get j c hj
            exact ⟨u, hu, hr.mono (Ext.refl (fun _ => False) _) (fun _ hb => hb.elim) (fun b _ hb => hM' b hb)⟩
      | hole es pre row post =>
        obtain ⟨k0, k0', k1, b, T, cs, k3, k4, k5, k6, k7, k8, k9⟩ := hobj
        exact ⟨k0, k0', k1, b, T, cs, k3, .inr ⟨n, _, hn, by unfold Loc.blk; rw [if_neg (by omega), k3]; rfl⟩, k5, k6, k7.stepB (Ext.refl (fun _ => False) _) (fun _ hb => hb.elim) (fun b _ hb => hM' b hb) rfl,
          k8.step (Ext.refl (fun _ => False) _) (fun _ hb => hb.elim) (fun b _ hb => hM' b hb) hstep (fun m _ => hnone m), k9.stepB (Ext.refl (fun _ => False) _) (fun _ hb => hb.elim) (fun b _ hb => hM' b hb) rfl⟩
      | fact a x => exact ⟨hobj.1, hobj.2.step (Ext.refl (fun _ => False) _) (fun _ hb => hb.elim) (fun b _ hb => hM' b hb) hstep (fun m _ => hnone m)⟩
      | obj x =>
        obtain ⟨b, k1, k2, k3⟩ := hobj
        exact ⟨b, k1, .inr ⟨n, _, hn, by rw [k1]; simp [Loc.blk]⟩, k3⟩
    · rcases hs'.own0 n o b (h2 n o g1) g2 with ⟨k1, k2⟩ | k1
      · grind
      · exact .inr k1
    · exact hs'.ext.weaken (fun b _ ⟨n, k1, k2⟩ => by obtain ⟨o', ho'⟩ := hsome n k1; exact ⟨n, o', ho', k2⟩)
    · obtain ⟨o1, k1, k2⟩ := hs'.keep n (keys_of_look (by rw [hn]; simp))
      cases hc : look n h' with
      | none => exact absurd hc (h3 n (keys_of_look (by rw [hn]; simp)))
      | some o2 =>
        grind
  rcases he with rfl | rfl
  · exact ⟨hs'.d, hfin⟩
  · exact ⟨hs'.d, hfin⟩
open Go
section
variable {P : Program} {o : Oper} {rd : List (Nat × AV)}
theorem OpOK.quiet {hp : List (Name × AO)} {v : AV}
    (h : ∀ (Γ : Ctx) (ρ : Name → Loc) (M : Nat → Prop) (s : AS) (a : Act) (w : World), Sim Γ ρ M s a w → s.holds ⟨rd, hp, v, [], []⟩ → ∃ u, (execOp a.eval o).run P w = .ok (.value u) w ∧ v.R ρ s.heap M w u) : OpOK P o ⟨rd, hp, v, [], []⟩ := by
  intro Γ ρ M s a w K Q hs hh hd hK
  obtain ⟨u, h1, h2⟩ := h Γ ρ M s a w hs hh
  unfold Oper.wp
  rw [h1, Oper.upon_value]
  exact hK ρ M _ w ((hs.put hd (fun _ => h2)).congr (fun t => rfl) (fun n => rfl))
theorem OpOK.move {x : Operand} {v : AV} (ho : o.op = .move x) (hx : evalO rd x = some v) : OpOK P o ⟨rd, [], v, [], []⟩ :=
  OpOK.quiet fun Γ ρ M s a w hs hh => ⟨a.eval x, by simp [execOp, ho], evalO_R hs hh hx⟩
theorem OpOK.assign {x : Operand} {v : AV} (ho : o.op = .assign x) (hx : evalO rd x = some v) : OpOK P o ⟨rd, [], v, [], []⟩ :=
  OpOK.quiet fun Γ ρ M s a w hs hh => ⟨a.eval x, by simp [execOp, ho], evalO_R hs hh hx⟩
theorem eval_v {Γ : Ctx} {ρ : Name → Loc} {M : Nat → Prop} {s : AS} {a : Act} {w : World} {e : Eff} (hs : Sim Γ ρ M s a w) (hh : s.holds e) {x : Operand} {c : Value} (h : evalO e.rd x = some (.p (.v c))) : a.eval x = c := by
  have := evalO_R hs hh h
  simp only [AV.R, PV.R] at this
  exact this.1
theorem OpOK.pickT {c x y : Operand} {v : AV} (ho : o.op = .pick c x y) (hc : evalO rd c = some (.p (.v (.bool true)))) (hx : evalO rd x = some v) : OpOK P o ⟨rd, [], v, [], []⟩ :=
  OpOK.quiet fun Γ ρ M s a w hs hh => ⟨a.eval x, by simp [execOp, ho, eval_v hs hh hc, asBool], evalO_R hs hh hx⟩
theorem OpOK.pickF {c x y : Operand} {v : AV} (ho : o.op = .pick c x y) (hc : evalO rd c = some (.p (.v (.bool false)))) (hy : evalO rd y = some v) : OpOK P o ⟨rd, [], v, [], []⟩ :=
  OpOK.quiet fun Γ ρ M s a w hs hh => ⟨a.eval y, by simp [execOp, ho, eval_v hs hh hc, asBool], evalO_R hs hh hy⟩
theorem OpOK.bin {op : BinOp} {T T' : TypeId} {x y : Operand} {c d r : Value} (ho : o.op = .binOp op T x y T') (hx : evalO rd x = some (.p (.v c))) (hy : evalO rd y = some (.p (.v d)))
    (hg : eqGuard op T x y c d = pure ()) (hr : ∀ w : World, (binOp op T c d).run P w = .ok r w) (h1 : r.oneCell' = true) : OpOK P o ⟨rd, [], .p (.v r), [], []⟩ :=
  OpOK.quiet fun Γ ρ M s a w hs hh => ⟨r, by simp [execOp, ho, eval_v hs hh hx, eval_v hs hh hy, hg, hr], by simp only [AV.R, PV.R]; exact ⟨trivial, h1⟩⟩
section ints
variable {T T' : TypeId} {x y : Operand} {k : IntKind} {a b r : Int}
theorem OpOK.add (ho : o.op = .binOp .add T x y T') (hx : evalO rd x = some (.p (.v (.int k a)))) (hy : evalO rd y = some (.p (.v (.int k b)))) (hr : k.wrap (a + b) = r) : OpOK P o ⟨rd, [], .p (.v (.int k r)), [], []⟩ :=
  OpOK.bin ho hx hy rfl (fun w => by simp [binOp, Op.intArith, hr]) rfl
theorem OpOK.sub (ho : o.op = .binOp .sub T x y T') (hx : evalO rd x = some (.p (.v (.int k a)))) (hy : evalO rd y = some (.p (.v (.int k b)))) (hr : k.wrap (a - b) = r) : OpOK P o ⟨rd, [], .p (.v (.int k r)), [], []⟩ :=
  OpOK.bin ho hx hy rfl (fun w => by simp [binOp, Op.intArith, hr]) rfl
theorem OpOK.mul (ho : o.op = .binOp .mul T x y T') (hx : evalO rd x = some (.p (.v (.int k a)))) (hy : evalO rd y = some (.p (.v (.int k b)))) (hr : k.wrap (a * b) = r) : OpOK P o ⟨rd, [], .p (.v (.int k r)), [], []⟩ :=
  OpOK.bin ho hx hy rfl (fun w => by simp [binOp, Op.intArith, hr]) rfl
theorem OpOK.quo (ho : o.op = .binOp .quo T x y T') (hx : evalO rd x = some (.p (.v (.int k a)))) (hy : evalO rd y = some (.p (.v (.int k b)))) (hb : b ≠ 0) (hr : k.wrap (a.tdiv b) = r) : OpOK P o ⟨rd, [], .p (.v (.int k r)), [], []⟩ :=
  OpOK.bin ho hx hy rfl (fun w => by simp [binOp, Op.intDiv, hr, hb]) rfl
theorem OpOK.rem (ho : o.op = .binOp .rem T x y T') (hx : evalO rd x = some (.p (.v (.int k a)))) (hy : evalO rd y = some (.p (.v (.int k b)))) (hb : b ≠ 0) (hr : a.tmod b = r) : OpOK P o ⟨rd, [], .p (.v (.int k r)), [], []⟩ :=
  OpOK.bin ho hx hy rfl (fun w => by simp [binOp, Op.intDiv, hr, hb]) rfl
theorem OpOK.shr {n : Nat} (ho : o.op = .binOp .shr T x y T') (hx : evalO rd x = some (.p (.v (.int k a)))) (hy : evalO rd y = some (.p (.v (.int k b)))) (hb : b = (n : Int)) : OpOK P o ⟨rd, [], .p (.v (.int k (a.fdiv (2 ^ (min n k.bits))))), [], []⟩ :=
  OpOK.bin ho hx hy rfl (fun w => by subst hb; have h : ¬ ((n : Int) < 0) := by omega
                                     simp [binOp, Op.shift, h]) rfl
variable {q : Bool}
theorem OpOK.lss (ho : o.op = .binOp .lss T x y T') (hx : evalO rd x = some (.p (.v (.int k a)))) (hy : evalO rd y = some (.p (.v (.int k b)))) (hr : decide (a < b) = q) : OpOK P o ⟨rd, [], .p (.v (.bool q)), [], []⟩ :=
  OpOK.bin ho hx hy rfl (fun w => by simp only [binOp, ne_eq, not_true_eq_false, if_false, Op.intCmp, hr]; rfl) rfl
theorem OpOK.leq (ho : o.op = .binOp .leq T x y T') (hx : evalO rd x = some (.p (.v (.int k a)))) (hy : evalO rd y = some (.p (.v (.int k b)))) (hr : decide (a ≤ b) = q) : OpOK P o ⟨rd, [], .p (.v (.bool q)), [], []⟩ :=
  OpOK.bin ho hx hy rfl (fun w => by simp only [binOp, ne_eq, not_true_eq_false, if_false, Op.intCmp, hr]; rfl) rfl
theorem OpOK.gtr (ho : o.op = .binOp .gtr T x y T') (hx : evalO rd x = some (.p (.v (.int k a)))) (hy : evalO rd y = some (.p (.v (.int k b)))) (hr : decide (b < a) = q) : OpOK P o ⟨rd, [], .p (.v (.bool q)), [], []⟩ :=
  OpOK.bin ho hx hy rfl (fun w => by simp only [binOp, ne_eq, not_true_eq_false, if_false, Op.intCmp, gt_iff_lt, hr]; rfl) rfl
theorem OpOK.geq (ho : o.op = .binOp .geq T x y T') (hx : evalO rd x = some (.p (.v (.int k a)))) (hy : evalO rd y = some (.p (.v (.int k b)))) (hr : decide (b ≤ a) = q) : OpOK P o ⟨rd, [], .p (.v (.bool q)), [], []⟩ :=
  OpOK.bin ho hx hy rfl (fun w => by simp only [binOp, ne_eq, not_true_eq_false, if_false, Op.intCmp, ge_iff_le, hr]; rfl) rfl
theorem OpOK.eqlI (ho : o.op = .binOp .eql T x y T') (hx : evalO rd x = some (.p (.v (.int k a)))) (hy : evalO rd y = some (.p (.v (.int k b)))) (hr : decide (a = b) = q) : OpOK P o ⟨rd, [], .p (.v (.bool q)), [], []⟩ :=
  OpOK.bin ho hx hy (eqGuard_at_int ..) (fun w => by rw [← hr]; simp only [binOp, ne_eq, not_true_eq_false, if_false, Op.intCmp]; rfl) rfl
theorem OpOK.neqI (ho : o.op = .binOp .neq T x y T') (hx : evalO rd x = some (.p (.v (.int k a)))) (hy : evalO rd y = some (.p (.v (.int k b)))) (hr : decide (a ≠ b) = q) : OpOK P o ⟨rd, [], .p (.v (.bool q)), [], []⟩ :=
  OpOK.bin ho hx hy (eqGuard_at_int ..) (fun w => by rw [← hr]; simp only [binOp, ne_eq, not_true_eq_false, if_false, Op.intCmp, decide_not, bne]; rfl) rfl
theorem OpOK.not {b : Bool} (ho : o.op = .unOp .not T x) (hx : evalO rd x = some (.p (.v (.bool b)))) (hr : (!b) = q) : OpOK P o ⟨rd, [], .p (.v (.bool q)), [], []⟩ :=
  OpOK.quiet fun Γ ρ M s a w hs hh => ⟨.bool q, by simp [execOp, ho, eval_v hs hh hx, Op.unary, hr], by simp only [AV.R, PV.R]; exact ⟨trivial, rfl⟩⟩
theorem OpOK.neg (ho : o.op = .unOp .neg T x) (hx : evalO rd x = some (.p (.v (.int k a)))) (hr : k.wrap (0 - a) = r) : OpOK P o ⟨rd, [], .p (.v (.int k r)), [], []⟩ :=
  OpOK.quiet fun Γ ρ M s a w hs hh => ⟨.int k r, by simp only [execOp, ho, eval_v hs hh hx, Op.unary, Op.intArith, hr]; rfl, by simp only [AV.R, PV.R]; exact ⟨trivial, rfl⟩⟩
end ints
def fieldOff (P : Program) (S : TypeId) (i : Nat) : Option Nat :=
  match P.underlying S with
  | some (.struct fields) => match fields[i]? with
    | some f => match sizeT P f.type with
      | some (_ + 1) => some f.offset
      | _ => none
    | none => none
  | _ => none
theorem run_fieldAt {S : TypeId} {i fo : Nat} (h : fieldOff P S i = some fo) (b k : Nat) (w : World) :
    (Instr.fieldAt S (.pointer (some ⟨b, k, none⟩)) i).run P w = .ok (.pointer (some ⟨b, k + fo, none⟩)) w := by
  unfold fieldOff at h
  cases hu : P.underlying S with
  | none => simp [hu] at h
  | some d =>
    cases d with
    | struct fields =>
      simp only [hu] at h
      cases hf : fields[i]? with
      | none => simp [hf] at h
      | some f =>
        simp only [hf] at h
        cases hz : sizeT P f.type with
        | none => simp [hz] at h
        | some z =>
          cases z with
          | zero => simp [hz] at h
          | succ z =>
            simp only [hz, Option.some.injEq] at h
            subst h
            simp [Instr.fieldAt, run_underlying hu, hf, Instr.sureAddr, fieldPlace, run_sizeOf hz, addr_add]
    | _ => simp [hu] at h
theorem OpOK.fieldRef {S : TypeId} {x : Operand} {i fo k k' : Nat} {n : Name} (ho : o.op = .fieldAddr S x i) (hx : evalO rd x = some (.ref n k)) (hf : fieldOff P S i = some fo) (hk : k + fo = k') {cells : List AV} :
    OpOK P o ⟨rd, [(n, .box cells)], .ref n k', [], []⟩ :=
  OpOK.quiet fun Γ ρ M s a w hs hh => by
    subst hk
    have hr := evalO_R hs hh hx
    simp only [AV.R] at hr
    obtain ⟨b, hb, hu⟩ := hr.2 cells (hh.hp n _ (by simp))
    refine ⟨.pointer (some ⟨b, k + fo, none⟩), by simp [execOp, ho, hu, run_fieldAt hf], ?_⟩
    simp only [AV.R]
    exact ⟨rfl, fun _ _ => ⟨b, hb, rfl⟩⟩
theorem OpOK.fieldPtr {S : TypeId} {x : Operand} {i fo : Nat} {cells sub : List PV} (ho : o.op = .fieldAddr S x i) (hx : evalO rd x = some (.eptr cells)) (hf : fieldOff P S i = some fo) (hsub : cells.drop fo = sub) :
    OpOK P o ⟨rd, [], .eptr sub, [], []⟩ :=
  OpOK.quiet fun Γ ρ M s a w hs hh => by
    have hr := evalO_R hs hh hx
    simp only [AV.R] at hr
    obtain ⟨⟨b, off, spot⟩, hu, hsp, hM, hlt, hc⟩ := hr
    simp only at hsp; subst hsp
    refine ⟨.pointer (some ⟨b, off + fo, none⟩), by simp [execOp, ho, hu, run_fieldAt hf], ?_⟩
    simp only [AV.R]
    exact ⟨_, rfl, rfl, hM, hlt, by rw [← hsub]; exact hc.drop fo⟩
theorem OpOK.fieldElemSh {S : TypeId} {x : Operand} {i fo len j k k' : Nat} {n : Name} (ho : o.op = .fieldAddr S x i) (hx : evalO rd x = some (.aref n len j k)) (hf : fieldOff P S i = some fo) (hk : k + fo = k') {ob : AO} {es kk : Nat} (hsh : ob.shape = some (es, kk)) (hl : Nat.beq len kk = true) :
    OpOK P o ⟨rd, [(n, ob)], .aref n len j k', [], []⟩ :=
  OpOK.quiet fun Γ ρ M s a w hs hh => by
    subst hk
    have hr := evalO_R hs hh hx
    simp only [AV.R] at hr
    have hl' := Nat.eq_of_beq_eq_true hl
    have hn := hh.hp n _ (by simp : (n, ob) ∈ _)
    obtain ⟨h1, h2⟩ := hr.2 ob es kk hn hsh
    obtain ⟨b, hb, hu⟩ := h2 hl'
    refine ⟨.pointer (some ⟨b, j * es + (k + fo), none⟩), by simp [execOp, ho, hu, run_fieldAt hf, Nat.add_assoc], ?_⟩
    simp only [AV.R]
    refine ⟨rfl, fun o' es' k' hc hs' => ?_⟩
    rw [hn] at hc; cases hc
    rw [hsh] at hs'; cases hs'
    exact ⟨h1, fun _ => ⟨b, hb, rfl⟩⟩
theorem OpOK.fieldElem {S : TypeId} {x : Operand} {i fo len j k k' : Nat} {n : Name} (ho : o.op = .fieldAddr S x i) (hx : evalO rd x = some (.aref n len j k)) (hf : fieldOff P S i = some fo) (hk : k + fo = k') {es : Nat} {rows : List (List PV)} (hl : Nat.beq len rows.length = true) :
    OpOK P o ⟨rd, [(n, .arr es rows)], .aref n len j k', [], []⟩ := OpOK.fieldElemSh ho hx hf hk rfl hl
theorem OpOK.nilCheckRef {x : Operand} {n : Name} {k : Nat} (ho : o.op = .nilCheck x) (hx : evalO rd x = some (.ref n k)) {cells : List AV} : OpOK P o ⟨rd, [(n, .box cells)], .ref n k, [], []⟩ :=
  OpOK.quiet fun Γ ρ M s a w hs hh => by
    have hr := evalO_R hs hh hx
    have hr' := hr
    simp only [AV.R] at hr'
    obtain ⟨b, hb, hu⟩ := hr'.2 cells (hh.hp n _ (by simp))
    exact ⟨.pointer (some ⟨b, k, none⟩), by simp [execOp, ho, hu], by rw [← hu]; exact hr⟩
theorem OpOK.nilCheckPtr {x : Operand} {cells : List PV} (ho : o.op = .nilCheck x) (hx : evalO rd x = some (.eptr cells)) : OpOK P o ⟨rd, [], .eptr cells, [], []⟩ :=
  OpOK.quiet fun Γ ρ M s a w hs hh => by
    have hr := evalO_R hs hh hx
    have hr' := hr
    simp only [AV.R] at hr'
    obtain ⟨ad, hu, _⟩ := hr'
    exact ⟨.pointer (some ad), by simp [execOp, ho, hu], by rw [← hu]; exact hr⟩
theorem OpOK.nilCheckSh {x : Operand} {n : Name} {len j k es kk : Nat} {ob : AO} (ho : o.op = .nilCheck x) (hx : evalO rd x = some (.aref n len j k)) (hsh : ob.shape = some (es, kk)) (hl : Nat.beq len kk = true) : OpOK P o ⟨rd, [(n, ob)], .aref n len j k, [], []⟩ :=
  OpOK.quiet fun Γ ρ M s a w hs hh => by
    have hr := evalO_R hs hh hx
    have hr' := hr
    simp only [AV.R] at hr'
    obtain ⟨b, hb, hu⟩ := (hr'.2 ob es kk (hh.hp n _ (by simp)) hsh).2 (Nat.eq_of_beq_eq_true hl)
    exact ⟨.pointer (some ⟨b, j * es + k, none⟩), by simp [execOp, ho, hu], by rw [← hu]; exact hr⟩
theorem OpOK.nilCheckElem {x : Operand} {n : Name} {len j k es : Nat} {rows : List (List PV)} (ho : o.op = .nilCheck x) (hx : evalO rd x = some (.aref n len j k)) (hl : Nat.beq len rows.length = true) : OpOK P o ⟨rd, [(n, .arr es rows)], .aref n len j k, [], []⟩ :=
  OpOK.nilCheckSh ho hx rfl hl
theorem OpOK.loadBoxAgg {T : TypeId} {x : Operand} {n : Name} {k z : Nat} {cells sub : List AV} (ho : o.op = .load T x) (hx : evalO rd x = some (.ref n k)) (hT : aggT P T = true) (hz : sizeT P T = some z)
    (hsub : (cells.drop k).take z = sub) (hl : sub.length = z) : OpOK P o ⟨rd, [(n, .box cells)], .agg sub, [], []⟩ :=
  OpOK.quiet fun Γ ρ M s a w hs hh => by
    have hr := evalO_R hs hh hx
    simp only [AV.R] at hr
    have hn := hh.hp n _ (by simp : (n, AO.box cells) ∈ _)
    obtain ⟨b, hb, hu⟩ := hr.2 cells hn
    obtain ⟨b', us, g1, g2, g3⟩ := box_cells (hs.objs n _ hn)
    have e : b' = b := by rw [g1] at hb; simpa using hb
    subst e
    have g4 := (g2.drop k).take z
    rw [hsub] at g4
    refine ⟨.agg ((us.drop k).take z).toArray, ?_, by simp only [AV.R]; exact ⟨_, rfl, by simpa using g4⟩⟩
    have := run_loadVar_agg (P := P) (w := w) (a := ⟨b', k, none⟩) (us := (us.drop k).take z) hT (by rw [hz, g4.length, hl]) (fun j v hj => by
      rw [addr_add]
      refine g3 (k + j) v ?_
      rw [List.getElem?_take] at hj
      split at hj
      · simpa using hj
      · simp at hj)
    simp [execOp, ho, hu, Instr.loadAt, Instr.sureAddr, this]
theorem OpOK.loadBox {T : TypeId} {x : Operand} {n : Name} {k : Nat} {cells : List AV} {c : AV} (ho : o.op = .load T x) (hx : evalO rd x = some (.ref n k)) (hT : flatT P T = true)
    (hc : cells[k]? = some c) : OpOK P o ⟨rd, [(n, .box cells)], c, [], []⟩ :=
  OpOK.quiet fun Γ ρ M s a w hs hh => by
    have hr := evalO_R hs hh hx
    simp only [AV.R] at hr
    have hn := hh.hp n _ (by simp : (n, AO.box cells) ∈ _)
    obtain ⟨b, hb, hu⟩ := hr.2 cells hn
    obtain ⟨b', us, g1, g2, g3⟩ := box_cells (hs.objs n _ hn)
    have e : b' = b := by rw [g1] at hb; simpa using hb
    subst e
    obtain ⟨u, k1, k2, k3⟩ := g2.get k c hc
    exact ⟨u, by simp [execOp, ho, hu, Instr.loadAt, Instr.sureAddr, run_loadVar_flat hT (g3 k u k1)], k3⟩
theorem OpOK.loadPtrAgg {T : TypeId} {x : Operand} {z : Nat} {cells sub : List PV} {sub' : List AV} (ho : o.op = .load T x) (hx : evalO rd x = some (.eptr cells)) (hT : aggT P T = true) (hz : sizeT P T = some z)
    (hsub : cells.take z = sub) (hl : sub.length = z) (hs' : pcells sub = sub') : OpOK P o ⟨rd, [], .agg sub', [], []⟩ :=
  OpOK.quiet fun Γ ρ M s a w hs hh => by
    subst hs'
    have hr := evalO_R hs hh hx
    simp only [AV.R] at hr
    obtain ⟨⟨b, off, spot⟩, hu, hsp, hM, hlt, hc⟩ := hr
    simp only at hsp; subst hsp
    have hc' := hc.take z
    rw [hsub] at hc'
    obtain ⟨us, g1, g2⟩ := Rs_of_Cells (ρ := ρ) (H := s.heap) hc'
    refine ⟨.agg us.toArray, ?_, by simp only [AV.R]; exact ⟨_, rfl, by simpa using g1⟩⟩
    have := run_loadVar_agg (P := P) (w := w) (a := ⟨b, off, none⟩) (us := us) hT (by rw [hz, g1.length]; simp [pcells, hl]) (fun j v hj => by rw [addr_add]; exact g2 j v hj)
    simp [execOp, ho, hu, Instr.loadAt, Instr.sureAddr, this]
theorem OpOK.loadPtr {T : TypeId} {x : Operand} {cells : List PV} {c : PV} (ho : o.op = .load T x) (hx : evalO rd x = some (.eptr cells)) (hT : flatT P T = true)
    (hc0 : cells[0]? = some c) : OpOK P o ⟨rd, [], .p c, [], []⟩ :=
  OpOK.quiet fun Γ ρ M s a w hs hh => by
    have hr := evalO_R hs hh hx
    simp only [AV.R] at hr
    obtain ⟨⟨b, off, spot⟩, hu, hsp, hM, hlt, hc⟩ := hr
    simp only at hsp; subst hsp
    obtain ⟨u, k1, k2⟩ := hc.get 0 c hc0
    simp only [Nat.add_zero] at k1
    exact ⟨u, by simp [execOp, ho, hu, Instr.loadAt, Instr.sureAddr, run_loadVar_flat hT k1], by simpa only [AV.R] using k2⟩
theorem arr_row {ρ : Name → Loc} {H : Heap} {M : Nat → Prop} {w : World} {n : Name} {es : Nat} {rows : List (List PV)} (h : ObjAt ρ H M w n (.arr es rows)) {b : Nat} (hb : (ρ n).base = some ⟨b, 0, none⟩) {i : Nat} {row : List PV} (hi : rows[i]? = some row) :
    row.length = es ∧ PV.Cells M w b (i * es) row := by
  obtain ⟨h0, h1, h2⟩ := h
  have hlt : i < rows.length := by
    grind
  rcases h2 with h2 | ⟨b', T, cs, h3, h4, h5, h6, h7⟩
  · omega
  · rw [hb] at h3
    simp at h3; subst h3
    have := h7.get i row hi
    simpa using this
theorem OpOK.loadElemAgg {T : TypeId} {x : Operand} {n : Name} {len i k z es : Nat} {rows : List (List PV)} {row sub : List PV} (ho : o.op = .load T x) (hx : evalO rd x = some (.aref n len i k)) (hT : aggT P T = true) (hz : sizeT P T = some z)
    (hlen : Nat.beq len rows.length = true) (hi : rows[i]? = some row) (hsub : (row.drop k).take z = sub) (hl : sub.length = z) {sub' : List AV} (hs' : pcells sub = sub') : OpOK P o ⟨rd, [(n, .arr es rows)], .agg sub', [], []⟩ :=
  OpOK.quiet fun Γ ρ M s a w hs hh => by
    subst hs'
    have hr := evalO_R hs hh hx
    simp only [AV.R] at hr
    have hn := hh.hp n _ (by simp : (n, AO.arr es rows) ∈ _)
    obtain ⟨b, hb, hu⟩ := (hr.2 _ es rows.length hn rfl).2 (Nat.eq_of_beq_eq_true hlen)
    obtain ⟨_, hc⟩ := arr_row (hs.objs n _ hn) hb hi
    have hc' := (hc.drop k).take z
    rw [hsub] at hc'
    obtain ⟨us, g1, g2⟩ := Rs_of_Cells (ρ := ρ) (H := s.heap) hc'
    refine ⟨.agg us.toArray, ?_, by simp only [AV.R]; exact ⟨_, rfl, by simpa using g1⟩⟩
    have := run_loadVar_agg (P := P) (w := w) (a := ⟨b, i * es + k, none⟩) (us := us) hT (by rw [hz, g1.length]; simp [pcells, hl]) (fun j v hj => by rw [addr_add]; exact g2 j v hj)
    simp [execOp, ho, hu, Instr.loadAt, Instr.sureAddr, this]
theorem OpOK.loadElem {T : TypeId} {x : Operand} {n : Name} {len i k es : Nat} {rows : List (List PV)} {row : List PV} {c : PV} (ho : o.op = .load T x) (hx : evalO rd x = some (.aref n len i k)) (hT : flatT P T = true)
    (hlen : Nat.beq len rows.length = true) (hi : rows[i]? = some row) (hc0 : row[k]? = some c) : OpOK P o ⟨rd, [(n, .arr es rows)], .p c, [], []⟩ :=
  OpOK.quiet fun Γ ρ M s a w hs hh => by
    have hr := evalO_R hs hh hx
    simp only [AV.R] at hr
    have hn := hh.hp n _ (by simp : (n, AO.arr es rows) ∈ _)
    obtain ⟨b, hb, hu⟩ := (hr.2 _ es rows.length hn rfl).2 (Nat.eq_of_beq_eq_true hlen)
    obtain ⟨_, hc⟩ := arr_row (hs.objs n _ hn) hb hi
    obtain ⟨u, k1, k2⟩ := hc.get k c hc0
    exact ⟨u, by simp [execOp, ho, hu, Instr.loadAt, Instr.sureAddr, run_loadVar_flat hT k1], by simpa only [AV.R] using k2⟩
def elemT (P : Program) (T : TypeId) : Option TypeId := match P.underlying T with | some (.slice e) => some e | _ => none
theorem elemT_spec {T e : TypeId} (h : elemT P T = some e) : P.underlying T = some (.slice e) := by
  unfold elemT at h
  grind
theorem OpOK.indexP {T e : TypeId} {x y : Operand} {f : Bool} {es i : Nat} {rows : List (List PV)} {row : List PV} {k : IntKind} {j : Int} (ho : o.op = .indexAddr T x y) (hT : elemT P T = some e) (hz : sizeT P e = some es)
    (hx : evalO rd x = some (.p (.sl f es rows))) (hy : evalO rd y = some (.p (.v (.int k j)))) (hj : j = (i : Int)) (hi : rows[i]? = some row) : OpOK P o ⟨rd, [], .eptr row, [], []⟩ :=
  OpOK.quiet fun Γ ρ M s a w hs hh => by
    have hr := evalO_R hs hh hx
    simp only [AV.R, PV.R] at hr
    obtain ⟨ad, cap, hu, h2, h3, h4, h5⟩ := hr
    have hlt : i < rows.length := by
      grind
    cases ad with
    | none => have := h4 rfl; omega
    | some ad =>
      obtain ⟨g1, g2, g3, g4⟩ := h5 ad rfl (by omega)
      obtain ⟨b, off, spot⟩ := ad
      simp only at g1; subst g1
      refine ⟨.pointer (some ⟨b, off + i * es, none⟩), ?_, ?_⟩
      · simp [execOp, ho, hu, eval_v hs hh hy, Instr.indexAt, asIntOf, run_underlying (elemT_spec hT), hj, hlt, run_sizeOf hz, addr_add]
      · simp only [AV.R]
        exact ⟨_, rfl, rfl, g2, g3, (g4.get i row hi).2⟩
theorem OpOK.indexOwn {T e : TypeId} {x y : Operand} {n : Name} {len es i : Nat} {rows : List (List PV)} {k : IntKind} {j : Int} (ho : o.op = .indexAddr T x y) (hT : elemT P T = some e) (hz : sizeT P e = some es)
    (hx : evalO rd x = some (.own n len)) (hlen : Nat.beq len rows.length = true) (hy : evalO rd y = some (.p (.v (.int k j)))) (hj : j = (i : Int)) (hi : i < rows.length) : OpOK P o ⟨rd, [(n, .arr es rows)], .aref n len i 0, [], []⟩ :=
  OpOK.quiet fun Γ ρ M s a w hs hh => by
    have hr := evalO_R hs hh hx
    simp only [AV.R] at hr
    have hn := hh.hp n _ (by simp : (n, AO.arr es rows) ∈ _)
    have hle := Nat.eq_of_beq_eq_true hlen
    have hu := (hr.2 _ es rows.length hn rfl).2 hle
    obtain ⟨h0, h1, h2⟩ := hs.objs n _ hn
    rcases h2 with h2 | ⟨b, T', cs, h3, h4, h5, h6, h7⟩
    · omega
    · refine ⟨.pointer (some ⟨b, i * es, none⟩), ?_, ?_⟩
      · simp [execOp, ho, hu, h3, eval_v hs hh hy, Instr.indexAt, asIntOf, run_underlying (elemT_spec hT), hj, hle, hi, run_sizeOf hz, addr_add]
      · simp only [AV.R]
        refine ⟨rfl, fun o' es' k' hc hs' => ?_⟩
        rw [hn] at hc; cases hc
        cases hs'
        exact ⟨by omega, fun _ => ⟨b, h3, by simp⟩⟩
theorem OpOK.lenP {T e : TypeId} {x : Operand} {ats : Array TypeId} {f : Bool} {es : Nat} {rows : List (List PV)} {r : Int} (ho : o.op = .call { callee := .builtin .len, args := #[x], argTypes := ats }) (hat : ats[0]? = some T) (hT : elemT P T = some e)
    (hx : evalO rd x = some (.p (.sl f es rows))) (hr : (rows.length : Int) = r) : OpOK P o ⟨rd, [], .p (.v (.int .i64 r)), [], []⟩ :=
  OpOK.quiet fun Γ ρ M s a w hs hh => by
    have hr' := evalO_R hs hh hx
    simp only [AV.R, PV.R] at hr'
    obtain ⟨ad, cap, hu, h2, h3, h4, h5⟩ := hr'
    refine ⟨.int .i64 r, ?_, by simp only [AV.R, PV.R]; exact ⟨trivial, rfl⟩⟩
    simp [execOp, ho, resolve, invoke, builtin, Builtin.len_, hat, hu, run_underlying (elemT_spec hT), goInt, hr]
theorem OpOK.lenOwn {T e : TypeId} {x : Operand} {ats : Array TypeId} {n : Name} {len es : Nat} {rows : List (List PV)} {r : Int} (ho : o.op = .call { callee := .builtin .len, args := #[x], argTypes := ats }) (hat : ats[0]? = some T) (hT : elemT P T = some e)
    (hx : evalO rd x = some (.own n len)) (hlen : Nat.beq len rows.length = true) (hr : (rows.length : Int) = r) : OpOK P o ⟨rd, [(n, .arr es rows)], .p (.v (.int .i64 r)), [], []⟩ :=
  OpOK.quiet fun Γ ρ M s a w hs hh => by
    have hr' := evalO_R hs hh hx
    simp only [AV.R] at hr'
    have hle := Nat.eq_of_beq_eq_true hlen
    have hu := (hr'.2 (.arr es rows) es rows.length (hh.hp n _ (by simp)) rfl).2 hle
    refine ⟨.int .i64 r, ?_, by simp only [AV.R, PV.R]; exact ⟨trivial, rfl⟩⟩
    simp [execOp, ho, resolve, invoke, builtin, Builtin.len_, hat, hu, run_underlying (elemT_spec hT), goInt, hle, hr]
theorem OpOK.extract {x : Operand} {i : Nat} {vs : List AV} {v : AV} (ho : o.op = .extract x i) (hx : evalO rd x = some (.tup vs)) (hv : vs[i]? = some v) : OpOK P o ⟨rd, [], v, [], []⟩ :=
  OpOK.quiet fun Γ ρ M s a w hs hh => by
    have hr := evalO_R hs hh hx
    simp only [AV.R] at hr
    obtain ⟨us, hu, h2⟩ := hr
    obtain ⟨u, g1, g2⟩ := h2.get.2 i v hv
    have g3 : us[i]? = some u := by simpa using g1
    refine ⟨u, ?_, g2⟩
    simp only [execOp, ho, hu, Instr.extract]
    simp [g3]
end
theorem Ext.alloc (w : World) (o : Obj) : Ext (fun _ => False) w (w.alloc o) :=
  ⟨by simp, fun b hb _ => by
    show (w.heap.push o)[b]? = w.heap[b]?
    rw [Array.getElem?_push, if_neg (Nat.ne_of_lt hb)], rfl, rfl⟩
theorem Ext.drew (w : World) : Ext (fun _ => False) w w.drew := ⟨Nat.le_refl _, fun _ _ _ => rfl, rfl, rfl⟩
theorem heap_alloc_new (w : World) (o : Obj) : (w.alloc o).heap[w.heap.size]? = some o := by
  show (w.heap.push o)[w.heap.size]? = some o
  simp
def cellsAV : AV → Option (List AV)
  | .agg cs => some cs
  | .tup _ => none
  | x => some [x]
section
variable {ρ : Name → Loc} {H : Heap} {M : Nat → Prop} {w : World}
theorem flat_cells {u : Value} (h : u.oneCell' = true) : u.cells = #[u] := by cases u <;> first | rfl | (simp [Value.oneCell'] at h)
theorem cellsAV_R {x : AV} {cs : List AV} {u : Value} (h : cellsAV x = some cs) (hr : x.R ρ H M w u) : AV.Rs ρ H M w cs u.cells.toList := by
  have single : ∀ y : AV, y.R ρ H M w u → u.oneCell' = true → AV.Rs ρ H M w [y] u.cells.toList := fun y hy h1 => by
    rw [flat_cells h1]; simp only [AV.Rs]; exact ⟨u, [], rfl, h1, hy, rfl⟩
  cases x with
  | agg cs' => simp only [cellsAV, Option.some.injEq] at h; subst h; simp only [AV.R] at hr; obtain ⟨us, rfl, h2⟩ := hr; exact h2
  | tup vs => simp [cellsAV] at h
  | p y => simp only [cellsAV, Option.some.injEq] at h; subst h; exact single _ hr (by simp only [AV.R] at hr; exact hr.flat)
  | ref n k => simp only [cellsAV, Option.some.injEq] at h; subst h; exact single _ hr (by simp only [AV.R] at hr; exact hr.1)
  | sref n => simp only [cellsAV, Option.some.injEq] at h; subst h; exact single _ hr (by simp only [AV.R] at hr; exact hr.1)
  | own n k => simp only [cellsAV, Option.some.injEq] at h; subst h; exact single _ hr (by simp only [AV.R] at hr; exact hr.1)
  | aref n a b c => simp only [cellsAV, Option.some.injEq] at h; subst h; exact single _ hr (by simp only [AV.R] at hr; exact hr.1)
  | view n a b c => simp only [cellsAV, Option.some.injEq] at h; subst h; exact single _ hr (by simp only [AV.R] at hr; exact hr.1)
  | cut n a b => simp only [cellsAV, Option.some.injEq] at h; subst h; exact single _ hr (by simp only [AV.R] at hr; exact hr.1)
  | eptr cells => simp only [cellsAV, Option.some.injEq] at h; subst h; exact single _ hr (by simp only [AV.R] at hr; obtain ⟨ad, rfl, _⟩ := hr; rfl)
  | clo f a b => simp only [cellsAV, Option.some.injEq] at h; subst h; exact single _ hr (by simp only [AV.R] at hr; obtain ⟨a, c, rfl, _⟩ := hr; rfl)
  | oref b n => simp only [cellsAV, Option.some.injEq] at h; subst h; exact single _ hr (by simp only [AV.R] at hr; exact hr.1)
  | err b => simp only [cellsAV, Option.some.injEq] at h; subst h; exact single _ hr (by simp only [AV.R] at hr; exact hr.1)
  | ub => simp only [cellsAV, Option.some.injEq] at h; subst h; exact single _ hr (by simp only [AV.R] at hr; obtain ⟨q, rfl⟩ := hr; rfl)
  | any => simp only [cellsAV, Option.some.injEq] at h; subst h; exact single _ hr (by simpa only [AV.R] using hr)
theorem hasL_cells {x : AV} {cs : List AV} {n : Name} (h : cellsAV x = some cs) (hn : x.has n = false) : AV.hasL n cs = false := by
  cases x <;> simp only [cellsAV, Option.some.injEq, reduceCtorEq] at h <;> subst h <;> simp_all [AV.has, AV.hasL]
end
theorem has_const {c : Value} {x : AV} (h : constAV c = some x) (n : Name) : x.has n = false := by
  have hc : ∀ c : Value, (constCell c).has n = false := fun c => by unfold constCell; split <;> rfl
  have hcs : ∀ l : List Value, AV.hasL n (l.map constCell) = false := fun l => by
    induction l with
    | nil => rfl
    | cons y l ih => simp [AV.hasL, hc, ih]
  unfold constAV at h
  split at h
  · split at h
    · cases h; simp only [AV.has]; exact hcs _
    · simp at h
  · grind
theorem evalO_free {s : AS} {e : Eff} (hh : s.holds e) {x : Operand} {y : AV} (h : evalO e.rd x = some y) {n : Name} (hn : s.free n) : y.has n = false := by
  cases x with
  | tmp t => exact hn.1 t y (hh.rd t y (look_mem h))
  | const c => exact has_const h n
  | global g => simp only [evalO, Option.some.injEq] at h; subst h; rfl
  | func f => simp only [evalO, Option.some.injEq] at h; subst h; rfl
theorem Sim.mkBox {Γ : Ctx} {ρ : Name → Loc} {M : Nat → Prop} {s : AS} {a : Act} {w : World} (h : Sim Γ ρ M s a w) {n : Name} (hn : s.heap n = none) (hf : s.free n) {cells : List AV} {us : List Value}
    (hr : AV.Rs ρ s.heap M w cells us) (hc : AV.hasL n cells = false) (T : TypeId) :
    Sim Γ (fun m => if m = n then ⟨some ⟨w.heap.size, 0, none⟩, 1⟩ else ρ m) (fun b => M b ∨ b = w.heap.size) ⟨s.slot, fun m => if m = n then some (.box cells) else s.heap m⟩ a (w.alloc (.cells us.toArray T)) := by
  have he := Ext.alloc w (.cells us.toArray T)
  refine h.update1 (he.weaken fun _ _ hb => hb.elim) (fun b hb => .inl hb) (fun b hb => hb.imp id (fun e => by omega)) (fun b hb => ?_) (fun o' ho' => by rw [hn] at ho'; simp at ho') (fun _ => hf) ?_ (fun b hb => .inr ?_)
  · rcases hb with hb | hb
    · have := h.msize b hb; simp; omega
    · simp [hb]
  · refine ⟨w.heap.size, T, us.toArray, by simp, .inr rfl, heap_alloc_new w _, ?_⟩
    refine AV.Rs.step (B := fun _ => False) he (fun _ hb => hb.elim) (fun b hb hb' => hb'.resolve_right (by omega)) (fun m o hm => ?_) (fun m hm hmn => ?_) (by simpa using hr)
    · by_cases e : m = n
      · simp_all
      · simp only [e, if_false, hm]; exact stays_refl _ _
    · grind
  · simp [Loc.blk] at hb; omega
section
variable {P : Program} {o : Oper} {rd : List (Nat × AV)}
def zeroAV (P : Program) (T : TypeId) : Option (List AV) := match P.info? T with
  | some i => match i.zero with
    | some z => if z.cells.toList.all (fun c => c.oneCell') then some (z.cells.toList.map constCell) else none
    | none => none
  | none => none
theorem zeroAV_spec {T : TypeId} {cs : List AV} (h : zeroAV P T = some cs) : ∃ i z, P.info? T = some i ∧ i.zero = some z ∧ (∀ c ∈ z.cells.toList, c.oneCell' = true) ∧ cs = z.cells.toList.map constCell := by
  unfold zeroAV at h
  grind
theorem run_zeroValue {T : TypeId} {i : TypeInfo} {z : Value} (hi : P.info? T = some i) (hz : i.zero = some z) (w : World) : (zeroValue T).run P w = .ok z w := by
  simp [zeroValue, typeInfo, hi, hz]
theorem hasL_consts (n : Name) (l : List Value) : AV.hasL n (l.map constCell) = false := by
  have hc : ∀ c : Value, (constCell c).has n = false := fun c => by unfold constCell; split <;> rfl
  induction l with
  | nil => rfl
  | cons y l ih => simp [AV.hasL, hc, ih]
theorem OpOK.mk {hp : List (Name × AO)} {v : AV} {n : Name} {ob : AO}
    (h : ∀ (Γ : Ctx) (ρ : Name → Loc) (M : Nat → Prop) (s : AS) (a : Act) (w : World), Sim Γ ρ M s a w → s.holds ⟨rd, hp, v, [(n, ob)], [n]⟩ → ∃ u w' ρ' M', (execOp a.eval o).run P w = .ok (.value u) w' ∧
      Sim Γ ρ' M' ⟨s.slot, fun m => if m = n then some ob else s.heap m⟩ a w' ∧ v.R ρ' (fun m => if m = n then some ob else s.heap m) M' w' u) : OpOK P o ⟨rd, hp, v, [(n, ob)], [n]⟩ := by
  intro Γ ρ M s a w K Q hs hh hd hK
  obtain ⟨u, w', ρ', M', h1, h2, h3⟩ := h Γ ρ M s a w hs hh
  unfold Oper.wp
  rw [h1, Oper.upon_value]
  refine hK ρ' M' _ w' ((h2.put hd (fun _ => h3)).congr (fun t => rfl) (fun m => ?_))
  simp only [AS.run, AS.set, look]
  grind
theorem OpOK.alloc {T : TypeId} {n : Name} {cs : List AV} (ho : o.op = .alloc T) (hz : zeroAV P T = some cs) : OpOK P o ⟨rd, [], .ref n 0, [(n, .box cs)], [n]⟩ :=
  OpOK.mk fun Γ ρ M s a w hs hh => by
    obtain ⟨i, z, hi, hz', hall, rfl⟩ := zeroAV_spec hz
    obtain ⟨hn, hf⟩ := hh.nw n (by simp)
    refine ⟨.pointer (some ⟨w.heap.size, 0, none⟩), w.alloc (.cells z.cells T), _, _, ?_, hs.mkBox hn hf (constCells_R hall) (hasL_consts n _) T, ?_⟩
    · simp [execOp, ho, Instr.alloc, run_zeroValue hi hz', newVar, newRow]
    · simp only [AV.R]; exact ⟨rfl, fun _ _ => ⟨w.heap.size, by simp, rfl⟩⟩
theorem OpOK.box {T : TypeId} {x : Operand} {n : Name} {v : AV} {cs : List AV} (ho : o.op = .box T x) (hx : evalO rd x = some v) (hc : cellsAV v = some cs) : OpOK P o ⟨rd, [], .ref n 0, [(n, .box cs)], [n]⟩ :=
  OpOK.mk fun Γ ρ M s a w hs hh => by
    obtain ⟨hn, hf⟩ := hh.nw n (by simp)
    have hr := cellsAV_R hc (evalO_R hs hh hx)
    refine ⟨.pointer (some ⟨w.heap.size, 0, none⟩), w.alloc (.cells (a.eval x).cells T), _, _, ?_, hs.mkBox hn hf hr (hasL_cells hc (evalO_free hh hx hf)) T, ?_⟩
    · simp [execOp, ho, Instr.box, newVar, newRow]
    · simp only [AV.R]; exact ⟨rfl, fun _ _ => ⟨w.heap.size, by simp, rfl⟩⟩
theorem OpOK.wr {hp : List (Name × AO)} {n : Name} {ob : AO} (hdst : o.dst = none)
    (h : ∀ (Γ : Ctx) (ρ : Name → Loc) (M : Nat → Prop) (s : AS) (a : Act) (w : World), Sim Γ ρ M s a w → s.holds ⟨rd, hp, .any, [(n, ob)], []⟩ → ∃ w' ρ' M', (execOp a.eval o).run P w = .ok .skip w' ∧
      Sim Γ ρ' M' ⟨s.slot, fun m => if m = n then some ob else s.heap m⟩ a w') : OpOK P o ⟨rd, hp, .any, [(n, ob)], []⟩ := by
  intro Γ ρ M s a w K Q hs hh hd hK
  obtain ⟨w', ρ', M', h1, h2⟩ := h Γ ρ M s a w hs hh
  unfold Oper.wp
  rw [h1, Oper.upon_skip]
  refine hK ρ' M' _ w' ((h2.put (dst := o.dst) (x := .any) (u := undef) hd (fun hne => absurd hdst hne)).congr (fun t => rfl) (fun m => ?_))
  simp only [AS.run, AS.set, look]
  grind
def setAt {α : Type} (cs : List α) (k : Nat) (vs : List α) : List α := cs.take k ++ vs ++ cs.drop (k + vs.length)
theorem Rs_one {ρ : Name → Loc} {H : Heap} {M : Nat → Prop} {w : World} : ∀ {xs : List AV} {us : List Value}, AV.Rs ρ H M w xs us → ∀ u ∈ us, u.oneCell' = true
  | [], us, h, u, hu => by simp only [AV.Rs] at h; subst h; simp at hu
  | x :: xs, us, h, u, hu => by
    simp only [AV.Rs] at h
    obtain ⟨v, us', rfl, h2, h3, h4⟩ := h
    rcases List.mem_cons.1 hu with rfl | hu
    · exact h2
    · exact Rs_one h4 u hu
theorem run_storeVar {T : TypeId} {b k : Nat} {t : TypeId} {cur : Array Value} {u : Value} {w : World} (hz : sizeT P T = some u.cells.size) (hb : w.heap[b]? = some (.cells cur t (0, 0))) (hl : k + u.cells.size ≤ cur.size) (h1 : ∀ v ∈ u.cells.toList, v.oneCell' = true) :
    (storeVar T ⟨b, k, none⟩ u).run P w = .ok () (w.setRow b (setAt cur.toList k u.cells.toList).toArray) := by
  have := run_storeCells_at (P := P) b k t u.cells.toList 0 cur w hb (by simpa using hl) h1
  simp only [Nat.add_zero] at this
  unfold storeVar
  simp only [Sem.run_bind, run_sizeOf hz, Result.andThen_ok, ne_eq, not_true_eq_false, if_false, setAt]
  simpa using this
theorem OpOK.storeBox {T : TypeId} {x y : Operand} {n : Name} {k : Nat} {cells vs cells' : List AV} {v : AV} (hdst : o.dst = none) (ho : o.op = .store T x y) (hx : evalO rd x = some (.ref n k)) (hy : evalO rd y = some v) (hv : cellsAV v = some vs)
    (hz : sizeT P T = some vs.length) (hl : Nat.ble (k + vs.length) cells.length = true) (hc : setAt cells k vs = cells') : OpOK P o ⟨rd, [(n, .box cells)], .any, [(n, .box cells')], []⟩ :=
  OpOK.wr hdst fun Γ ρ M s a w hs hh => by
    have hr := evalO_R hs hh hx
    simp only [AV.R] at hr
    have hn := hh.hp n _ (by simp : (n, AO.box cells) ∈ _)
    obtain ⟨b, hb, hu⟩ := hr.2 cells hn
    have hobj := hs.objs n _ hn
    obtain ⟨b', t, cs, g1, g2, g3, g4⟩ := hobj
    have e : b' = b := by rw [g1] at hb; simpa using hb
    subst e
    have hvs := cellsAV_R hv (evalO_R hs hh hy)
    have hlen := hvs.length
    have hlen2 := g4.length
    have hl' := Nat.le_of_ble_eq_true hl
    simp only [Array.length_toList] at hlen hlen2
    have hrun := run_storeVar (P := P) (T := T) (b := b') (k := k) (u := a.eval y) (w := w) (by rw [hz, hlen]) g3 (by omega) (Rs_one hvs)
    refine ⟨w.setRow b' (setAt cs.toList k (a.eval y).cells.toList).toArray, (fun m => if m = n then ρ n else ρ m), M, ?_, ?_⟩
    · simp [execOp, ho, hu, Instr.storeAt, Instr.sureAddr, hrun]
    · have hblk : (ρ n).blk = some b' := by rw [g1]; simp [Loc.blk]
      have he : Ext (fun b => b = b') w (w.setRow b' (setAt cs.toList k (a.eval y).cells.toList).toArray) := ⟨by simp [World.setRow], fun b hb hne => setRow_other w b' b _ hne, rfl, rfl⟩
      have hM : M b' := g2
      refine hs.update1 (he.weaken fun b _ hb => ⟨by rw [hblk, hb], by rw [hn]; simp⟩) (fun _ hb => hb) (fun _ hb => .inl hb) (fun b hb => Nat.lt_of_lt_of_le (hs.msize b hb) he.size)
        (fun o' ho' => by rw [hn] at ho'; cases ho'; simp [stays]) (fun h0 => by rw [hn] at h0; simp at h0) ?_ (fun b hb => .inl ⟨_, hn, hb⟩)
      refine ⟨b', t, _, by simp [g1], hM, setRow_heap w b' cs _ t (0, 0) g3, ?_⟩
      rw [← hc]
      have hst : HStep ρ s.heap (fun m => if m = n then ρ n else ρ m) (fun m => if m = n then some (.box (setAt cells k vs)) else s.heap m) := fun m o' hm => by
        by_cases e : m = n
        · subst e; rw [hn] at hm; cases hm; simp [stays]
        · simp only [e, if_false, hm]; exact stays_refl _ _
      have hnn : ∀ m, s.heap m = none → (if m = n then some (AO.box (setAt cells k vs)) else s.heap m) = none := fun m hm => by
        by_cases e : m = n
        · subst e; rw [hn] at hm; simp at hm
        · simp [e, hm]
      have r1 := (g4.take k).step he (fun b hb => by rw [hb]; exact hM) (fun b _ hb => hb) hst (fun m _ => hnn m)
      have r2 := hvs.step he (fun b hb => by rw [hb]; exact hM) (fun b _ hb => hb) hst (fun m _ => hnn m)
      have r3 := (g4.drop (k + vs.length)).step he (fun b hb => by rw [hb]; exact hM) (fun b _ hb => hb) hst (fun m _ => hnn m)
      have := (r1.append r2).append r3
      have hL : (a.eval y).cells.toList.length = vs.length := by simpa using hlen
      simp only [setAt, hL] at this ⊢
      exact this
def pureL : List AV → Option (List PV)
  | [] => some []
  | .p x :: r => match pureL r with
    | some xs => some (x :: xs)
    | none => none
  | _ :: _ => none
theorem pureL_spec : ∀ {l : List AV} {ps : List PV}, pureL l = some ps → l = pcells ps
  | [], ps, h => by simp only [pureL, Option.some.injEq] at h; subst h; rfl
  | x :: r, ps, h => by
    cases x with
    | p x =>
      simp only [pureL] at h
      split at h
      · rename_i xs hxs; cases h; rw [pureL_spec hxs]; rfl
      · simp at h
    | _ => simp [pureL] at h
def putRows (rd : List (Nat × AV)) (es : Nat) : List (Nat × Operand) → List (List PV) → Option (List (List PV))
  | [], rows => some rows
  | (i, x) :: r, rows => match evalO rd x with
    | some y => match cellsAV y with
      | some cs => match pureL cs with
        | some ps => if Nat.beq ps.length es && Nat.blt i rows.length then putRows rd es r (rows.set i ps) else none
        | none => none
      | none => none
    | none => none
theorem fold_set (off : Nat) : ∀ (vs : List Value) (k : Nat) (cs : Array Value), off + k + vs.length ≤ cs.size →
    ((vs.zipIdx k).foldl (fun (acc : Array Value) (p : Value × Nat) => acc.setIfInBounds (off + p.2) p.1) cs).toList = setAt cs.toList (off + k) vs
  | [], k, cs, _ => by simp [setAt]
  | v :: vs, k, cs, h => by
    simp only [List.zipIdx_cons, List.foldl_cons]
    rw [fold_set off vs (k + 1) _ (by simp at h ⊢; omega)]
    simp only [List.length_cons] at h
    have hlt : off + k < cs.size := by omega
    simp only [setAt, Array.toList_setIfInBounds, List.length_cons]
    apply List.ext_getElem?
    intro j
    simp only [List.getElem?_append, List.length_append, List.length_take, List.length_set, Array.length_toList, List.length_cons, List.getElem?_take, List.getElem?_set, List.getElem?_drop]
    have e1 : min (off + k) cs.size = off + k := by omega
    have e2 : min (off + (k + 1)) cs.size = off + k + 1 := by omega
    rw [e1, e2]
    rcases Nat.lt_trichotomy j (off + k) with h1 | h1 | h1
    · have : ¬ (off + k = j) := by omega
      simp [show j < off + k + 1 + vs.length by omega, show j < off + k + 1 by omega, show j < off + (k + 1) by omega, this, h1, show j < off + k + (vs.length + 1) by omega]
    · subst h1
      simp [hlt, show off + k < off + (k + 1) by omega, show off + k < off + k + 1 + vs.length by omega]
    · by_cases h2 : j < off + k + 1 + vs.length
      · have : ¬ j < off + k + 1 := by omega
        have h3 : ¬ j < off + k := by omega
        have e : j - (off + k) = (j - (off + k + 1)) + 1 := by omega
        simp [h2, this, h3, show j < off + k + (vs.length + 1) by omega, e]
      · have h3 : ¬ j < off + k + (vs.length + 1) := by omega
        have e : ¬ (off + k = off + (k + 1) + vs.length + (j - (off + k + 1 + vs.length))) := by omega
        simp [h2, h3, e]
        congr 1
        omega
theorem flat_len {es : Nat} : ∀ {rows : List (List Value)}, (∀ r ∈ rows, r.length = es) → rows.flatten.length = rows.length * es
  | [], _ => by simp
  | r :: rows, h => by
    have := flat_len (es := es) (rows := rows) (fun r hr => h r (by simp [hr]))
    simp only [List.flatten_cons, List.length_append, this, h r (by simp), List.length_cons, Nat.succ_mul]
    omega
theorem flat_take {es : Nat} : ∀ {rows : List (List Value)} (i : Nat), (∀ r ∈ rows, r.length = es) → rows.flatten.take (i * es) = (rows.take i).flatten
  | rows, 0, _ => by simp
  | [], i + 1, _ => by simp
  | r :: rows, i + 1, h => by
    have hr := h r (by simp)
    have := flat_take (es := es) (rows := rows) i (fun r hr => h r (by simp [hr]))
    simp only [List.flatten_cons, List.take_succ_cons, ← this]
    rw [List.take_append, hr, List.take_of_length_le (by rw [hr, Nat.succ_mul]; omega), Nat.succ_mul, Nat.add_sub_cancel]
theorem flat_drop {es : Nat} : ∀ {rows : List (List Value)} (i : Nat), (∀ r ∈ rows, r.length = es) → rows.flatten.drop (i * es) = (rows.drop i).flatten
  | rows, 0, _ => by simp
  | [], i + 1, _ => by simp
  | r :: rows, i + 1, h => by
    have hr := h r (by simp)
    have := flat_drop (es := es) (rows := rows) i (fun r hr => h r (by simp [hr]))
    simp only [List.flatten_cons, List.drop_succ_cons, ← this]
    rw [List.drop_append, hr, List.drop_of_length_le (by rw [hr, Nat.succ_mul]; omega), Nat.succ_mul, Nat.add_sub_cancel]
    simp
theorem flat_set {es : Nat} {rows : List (List Value)} {i : Nat} {r : List Value} (h : ∀ r ∈ rows, r.length = es) (hr : r.length = es) (hi : i < rows.length) : setAt rows.flatten (i * es) r = (rows.set i r).flatten := by
  unfold setAt
  rw [flat_take i h, hr, show i * es + es = (i + 1) * es by rw [Nat.succ_mul], flat_drop (i + 1) h, List.set_eq_take_append_cons_drop, if_pos hi]
  simp
theorem flat_get {es : Nat} {rows : List (List Value)} (h : ∀ r ∈ rows, r.length = es) {i : Nat} {r : List Value} (hi : rows[i]? = some r) {j : Nat} (hj : j < es) : rows.flatten[i * es + j]? = r[j]? := by
  have := flat_drop i h
  have h2 : rows.flatten[i * es + j]? = (rows.flatten.drop (i * es))[j]? := by simp
  have hlt : i < rows.length := by
    grind
  have hmem : r ∈ rows := List.mem_of_getElem? hi
  rw [h2, this, List.drop_eq_getElem_cons hlt, List.flatten_cons, List.getElem?_append_left]
  · simp_all
  · simp_all
end
open Go
section
variable {ρ : Name → Loc} {H : Heap} {M : Nat → Prop} {w : World}
def RR (ρ : Name → Loc) (H : Heap) (M : Nat → Prop) (w : World) : List (List PV) → List (List Value) → Prop
  | [], cr => cr = []
  | r :: rs, cr => ∃ c cr', cr = c :: cr' ∧ AV.Rs ρ H M w (pcells r) c ∧ RR ρ H M w rs cr'
theorem RR.length : ∀ {rows : List (List PV)} {cr : List (List Value)}, RR ρ H M w rows cr → cr.length = rows.length
  | [], cr, h => by simp only [RR] at h; simp [h]
  | r :: rs, cr, h => by simp only [RR] at h; obtain ⟨c, cr', rfl, _, h2⟩ := h; simp [h2.length]
theorem RR.get : ∀ {rows : List (List PV)} {cr : List (List Value)}, RR ρ H M w rows cr → ∀ (i : Nat) (r : List PV), rows[i]? = some r → ∃ c : List Value, cr[i]? = some c ∧ AV.Rs ρ H M w (pcells r) c
  | [], cr, h, i, r, hi => by simp at hi
  | r0 :: rs, cr, h, i, r, hi => by
    simp only [RR] at h
    obtain ⟨c, cr', rfl, h1, h2⟩ := h
    cases i with
    | zero => simp at hi; subst hi; exact ⟨c, by simp, h1⟩
    | succ i => simpa using h2.get i r (by simpa using hi)
theorem RR.set : ∀ {rows : List (List PV)} {cr : List (List Value)}, RR ρ H M w rows cr → ∀ (i : Nat) (ps : List PV) (c : List Value), AV.Rs ρ H M w (pcells ps) c → RR ρ H M w (rows.set i ps) (cr.set i c)
  | [], cr, h, i, ps, c, hc => by simp only [RR] at h; subst h; simp [RR]
  | r0 :: rs, cr, h, i, ps, c, hc => by
    simp only [RR] at h
    obtain ⟨c0, cr', rfl, h1, h2⟩ := h
    cases i with
    | zero => simp only [List.set_cons_zero, RR]; exact ⟨c, cr', rfl, hc, h2⟩
    | succ i => simp only [List.set_cons_succ, RR]; exact ⟨c0, cr'.set i c, rfl, h1, h2.set i ps c hc⟩
theorem RR.append : ∀ {rows : List (List PV)} {cr : List (List Value)}, RR ρ H M w rows cr → ∀ {rows' : List (List PV)} {cr' : List (List Value)}, RR ρ H M w rows' cr' → RR ρ H M w (rows ++ rows') (cr ++ cr')
  | [], cr, h, rows', cr', h' => by simp only [RR] at h; subst h; simpa using h'
  | r :: rs, cr, h, rows', cr', h' => by
    simp only [RR] at h
    obtain ⟨c, cr1, rfl, h1, h2⟩ := h
    simp only [List.cons_append, RR]
    exact ⟨c, cr1 ++ cr', rfl, h1, h2.append h'⟩
theorem RR.replicate {r : List PV} {c : List Value} (h : AV.Rs ρ H M w (pcells r) c) : ∀ n, RR ρ H M w (List.replicate n r) (List.replicate n c)
  | 0 => by simp [RR]
  | n + 1 => by simp only [List.replicate_succ, RR]; exact ⟨c, _, rfl, h, RR.replicate h n⟩
theorem RR.len {es : Nat} : ∀ {rows : List (List PV)} {cr : List (List Value)}, RR ρ H M w rows cr → (∀ r ∈ rows, r.length = es) → ∀ c ∈ cr, c.length = es
  | [], cr, h, _, c, hc => by simp only [RR] at h; subst h; simp at hc
  | r :: rs, cr, h, hl, c, hc => by
    simp only [RR] at h
    obtain ⟨c0, cr', rfl, h1, h2⟩ := h
    rcases List.mem_cons.1 hc with rfl | hc
    · rw [h1.length]; simp [pcells, hl r (by simp)]
    · exact h2.len (fun r hr => hl r (by simp [hr])) c hc
theorem RR.one : ∀ {rows : List (List PV)} {cr : List (List Value)}, RR ρ H M w rows cr → ∀ u ∈ cr.flatten, u.oneCell' = true
  | [], cr, h, u, hu => by simp only [RR] at h; subst h; simp at hu
  | r :: rs, cr, h, u, hu => by
    simp only [RR] at h
    obtain ⟨c0, cr', rfl, h1, h2⟩ := h
    simp only [List.flatten_cons, List.mem_append] at hu
    rcases hu with hu | hu
    · exact Rs_one h1 u hu
    · exact h2.one u hu
theorem RR.of_Rows {b es : Nat} : ∀ {off : Nat} {rows : List (List PV)}, PV.Rows M w b es off rows → ∃ cr : List (List Value), RR ρ H M w rows cr ∧ (∀ r ∈ rows, r.length = es) ∧ ∀ j u, cr.flatten[j]? = some u → w.cell? ⟨b, off + j, none⟩ = some u
  | off, [], h => ⟨[], by simp [RR], by simp, by simp⟩
  | off, r :: rs, h => by
    simp only [PV.Rows] at h
    obtain ⟨h1, h2, h3⟩ := h
    obtain ⟨c, g1, g2⟩ := Rs_of_Cells (ρ := ρ) (H := H) h2
    obtain ⟨cr, k1, k2, k3⟩ := RR.of_Rows h3
    have hcl : c.length = es := by rw [g1.length]; simp [pcells, h1]
    refine ⟨c :: cr, by simp only [RR]; exact ⟨c, cr, rfl, g1, k1⟩, fun r' hr' => ?_, fun j u hj => ?_⟩
    · rcases List.mem_cons.1 hr' with rfl | hr'
      · exact h1
      · exact k2 r' hr'
    · simp only [List.flatten_cons, List.getElem?_append] at hj
      split at hj
      · exact g2 j u hj
      · have := k3 (j - c.length) u hj
        rwa [hcl, show off + es + (j - es) = off + j by omega] at this
theorem Rows_of_RR {b es : Nat} {rows : List (List PV)} {cr : List (List Value)} (h : RR ρ H M w rows cr) (hl : ∀ r ∈ rows, r.length = es) (hc : ∀ j u, cr.flatten[j]? = some u → w.cell? ⟨b, j, none⟩ = some u) : PV.Rows M w b es 0 rows := by
  refine PV.Rows.of_get fun i r hi => ?_
  obtain ⟨c, h1, h2⟩ := h.get i r hi
  have hrl := hl r (List.mem_of_getElem? hi)
  refine ⟨hrl, Cells_of_Rs h2 fun j u hj => ?_⟩
  have hcl : c.length = es := by rw [h2.length]; simp [pcells, hrl]
  have hj' : j < es := by
    grind
  have := flat_get (h.len hl) h1 hj'
  simp_all
theorem RR.step {ρ' : Name → Loc} {H' : Heap} {M' B : Nat → Prop} {w' : World} (he : Ext B w w') (hB : ∀ b, B b → M b) (hM : ∀ b, b < w.heap.size → M' b → M b) :
    ∀ {rows : List (List PV)} {cr : List (List Value)}, RR ρ H M w rows cr → RR ρ' H' M' w' rows cr
  | [], cr, h => by simpa only [RR] using h
  | r :: rs, cr, h => by
    simp only [RR] at h ⊢
    obtain ⟨c, cr', h0, h1, h2⟩ := h
    refine ⟨c, cr', h0, ?_, RR.step he hB hM h2⟩
    refine AV.Rs.of_get h1.length fun j x u hx hu => ?_
    obtain ⟨u', k1, k2, k3⟩ := h1.get j x hx
    rw [hu] at k1; cases k1
    refine ⟨k2, ?_⟩
    simp only [pcells, List.getElem?_map] at hx
    cases hr : r[j]? with
    | none => simp [hr] at hx
    | some y =>
      simp [hr] at hx
      subst hx
      simp only [AV.R] at k3 ⊢
      exact k3.mono he hB hM
end
section
variable {P : Program} {o : Oper} {rd : List (Nat × AV)}
def bytesT (P : Program) (T : TypeId) : Option Nat := (P.info? T).map (·.bytes)
def elemOK (P : Program) (e : TypeId) (es bytes : Nat) : Bool := match P.info? e with
  | some i => Nat.beq i.size es && Nat.beq i.bytes bytes && (match i.zero with | some z => Nat.beq z.cells.size es | none => false)
  | none => false
theorem elemOK_spec {e : TypeId} {es bytes : Nat} (h : elemOK P e es bytes = true) : ∃ i z, P.info? e = some i ∧ i.zero = some z ∧ i.size = es ∧ i.bytes = bytes ∧ z.cells.size = es := by
  unfold elemOK at h
  split at h
  · rename_i i hi
    simp only [Bool.and_eq_true] at h
    obtain ⟨⟨h1, h2⟩, h3⟩ := h
    split at h3
    · simp_all
    · simp at h3
  · simp at h
theorem fill_rows {Γ : Ctx} {ρ : Name → Loc} {M : Nat → Prop} {s : AS} {a : Act} {w : World} {e : Eff} (hs : Sim Γ ρ M s a w) (hh : s.holds e) {es : Nat} :
    ∀ (parts : List (Nat × Operand)) (rows rows' : List (List PV)) (cr : List (List Value)) (cells : Array Value), RR ρ s.heap M w rows cr → (∀ r ∈ rows, r.length = es) → cells.toList = cr.flatten → putRows e.rd es parts rows = some rows' →
    ∃ cr' cells', Instr.fill (fun i => some (i * es, es)) cells (parts.map fun p => (p.1, a.eval p.2)) = some cells' ∧ RR ρ s.heap M w rows' cr' ∧ (∀ r ∈ rows', r.length = es) ∧ cells'.toList = cr'.flatten ∧ rows'.length = rows.length
  | [], rows, rows', cr, cells, h1, h2, h3, h4 => by
    simp only [putRows, Option.some.injEq] at h4; subst h4
    exact ⟨cr, cells, rfl, h1, h2, h3, rfl⟩
  | (i, x) :: r, rows, rows', cr, cells, h1, h2, h3, h4 => by
    simp only [putRows] at h4
    split at h4
    · rename_i y hy
      split at h4
      · rename_i cs hcs
        split at h4
        · rename_i ps hps
          split at h4
          · rename_i hck
            simp only [Bool.and_eq_true] at hck
            have hpl := Nat.eq_of_beq_eq_true hck.1
            have hil : i < rows.length := Nat.le_of_ble_eq_true hck.2
            have hR := cellsAV_R hcs (evalO_R hs hh hy)
            rw [pureL_spec hps] at hR
            have hus : (a.eval x).cells.size = es := by have := hR.length; simp [pcells] at this; rw [this, hpl]
            have hcl := h1.len h2
            have hlen := h1.length
            have hsz : cells.size = cr.length * es := by rw [← flat_len hcl, ← h3]; simp
            have hle : i * es + es ≤ cr.length * es := by rw [← Nat.succ_mul]; exact Nat.mul_le_mul_right es (by omega)
            have hA : ∀ r' ∈ rows.set i ps, r'.length = es := fun r' hr' => by
              rcases List.mem_or_eq_of_mem_set hr' with h | h
              · exact h2 r' h
              · rw [h]; exact hpl
            have hB : ((a.eval x).cells.zipIdx.foldl (fun cs (c, j) => cs.setIfInBounds (i * es + j) c) cells).toList = (cr.set i (a.eval x).cells.toList).flatten := by
              have := fold_set (i * es) (a.eval x).cells.toList 0 cells (by simp [hus]; omega)
              simp only [Nat.add_zero] at this
              rw [← flat_set hcl (by simp [hus]) (by omega), ← h3, ← this, ← Array.foldl_toList]
              simp_all
            obtain ⟨cr', cells', g1, g2, g3, g4, g5⟩ := fill_rows hs hh r (rows.set i ps) rows' (cr.set i (a.eval x).cells.toList) _ (h1.set i ps _ hR) hA hB h4
            refine ⟨cr', cells', ?_, g2, g3, g4, by simpa using g5⟩
            simp only [List.map_cons, Instr.fill, hus]
            simp_all
          · simp at h4
        · simp at h4
      · simp at h4
    · simp at h4
theorem zero_rows (z : List Value) (n es : Nat) (hz : z.length = es) (hes : 1 ≤ es) : ((Array.range (n * es)).map (fun i => z.toArray[i % z.toArray.size]!)).toList = (List.replicate n z).flatten := by
  apply List.ext_getElem?
  intro j
  have hl : (List.replicate n z).flatten.length = n * es := by simp [hz]
  by_cases hj : j < n * es
  · have hdiv : j / es < n := (Nat.div_lt_iff_lt_mul (by omega)).2 hj
    have hmod : j % es < es := Nat.mod_lt _ (by omega)
    have h1 := flat_get (rows := List.replicate n z) (es := es) (fun r hr => by rw [List.eq_of_mem_replicate hr]; exact hz) (i := j / es) (r := z) (by simp [hdiv]) hmod
    rw [show j / es * es + j % es = j by rw [Nat.mul_comm]; exact Nat.div_add_mod j es] at h1
    simp_all
  · simp_all
def zeroRow (P : Program) (e : TypeId) : Option (List PV) := match zeroAV P e with
  | some cs => pureL cs
  | none => none
theorem OpOK.buildSlice {T e : TypeId} {len es : Nat} {parts : Array (Nat × Operand)} {zr : List PV} {rows : List (List PV)} (ho : o.op = .buildSlice T len parts) (hT : elemT P T = some e) (hz : sizeT P e = some es) (hes : Nat.ble 1 es = true)
    (hzr : zeroRow P e = some zr) (hzl : zr.length = es) (hsz : Nat.ble (len * es) 16777216 = true) (hrows : putRows rd es parts.toList (List.replicate len zr) = some rows) : OpOK P o ⟨rd, [], .p (.sl true es rows), [], []⟩ := by
  intro Γ ρ M s a w K Q hs hh hd hK
  unfold zeroRow at hzr
  split at hzr
  · rename_i cs hcs
    obtain ⟨i, z, hi, hz', hall, rfl⟩ := zeroAV_spec hcs
    have hzR : AV.Rs ρ s.heap M w (pcells zr) z.cells.toList := by
      rw [← pureL_spec hzr]; exact constCells_R hall
    have hzlen : z.cells.toList.length = es := by have := hzR.length; rw [this]; simp [pcells, hzl]
    have hes' := Nat.le_of_ble_eq_true hes
    have h0 := zero_rows z.cells.toList len es hzlen hes'
    obtain ⟨cr, cells, g1, g2, g3, g4, g5⟩ := fill_rows hs hh parts.toList (List.replicate len zr) rows (List.replicate len z.cells.toList) ((Array.range (len * es)).map (fun i => z.cells[i % z.cells.size]!))
      (RR.replicate hzR len) (fun r hr => by rw [List.eq_of_mem_replicate hr]; exact hzl) (by simpa using h0) hrows
    have hlen : rows.length = len := by simpa using g5
    have hrun : (execOp a.eval o).run P w = .ok (.value (.slice (some ⟨w.heap.size, 0, none⟩) len len)) (w.alloc (.cells cells e)) := by
      have h2 : ¬ (len * es > 16777216) := by have := Nat.le_of_ble_eq_true hsz; omega
      have hparts : ((parts.map fun (i, x) => (i, a.eval x)) : Array (Nat × Value)).toList = parts.toList.map fun p => (p.1, a.eval p.2) := by simp
      simp only [execOp, ho, Instr.buildSlice, Sem.run_bind, run_underlying (elemT_spec hT), Result.andThen_ok, run_sizeOf hz, h2, if_false]
      simp only [hparts]
      by_cases h5 : len * es = 0
      · have g1' := g1
        rw [h5] at g1'
        simp only [Array.range_zero', Array.map_empty] at g1'
        simp [h5, g1', newRow, Array.range_zero']
      · simp only [h5, if_false, Sem.run_bind, run_zeroValue hi hz', Result.andThen_ok, Sem.run_pure, g1]
        simp [h2, newRow, g1, run_zeroValue hi hz']
    unfold Oper.wp
    rw [hrun, Oper.upon_value]
    have hs' := hs.world (Ext.alloc w (.cells cells e))
    refine hK ρ M _ _ ((hs'.put hd (fun _ => ?_)).congr (fun t => rfl) (fun n => rfl))
    simp only [AV.R, PV.R]
    refine ⟨some ⟨w.heap.size, 0, none⟩, len, by rw [hlen], by omega, fun _ => hlen.symm, by simp, fun ad had _ => ?_⟩
    cases had
    refine ⟨rfl, fun hm => absurd (hs.msize _ hm) (Nat.lt_irrefl _), by simp, ?_⟩
    have g2' := g2.step (ρ' := ρ) (H' := s.heap) (M' := M) (B := fun _ => False) (Ext.alloc w (.cells cells e)) (fun _ hb => hb.elim) (fun b _ hb => hb)
    refine Rows_of_RR g2' g3 fun j u hj => ?_
    rw [← g4] at hj
    simp only [World.cell?, heap_alloc_new]
    simpa using hj
  · simp at hzr
def placesL (P : Program) : List Field → Option (List (Nat × Nat))
  | [] => some []
  | f :: r => match sizeT P f.type, placesL P r with
    | some z, some ps => some ((f.offset, z) :: ps)
    | _, _ => none
theorem run_places {w : World} : ∀ {fs : List Field} {ps : List (Nat × Nat)}, placesL P fs = some ps → (fs.mapM (fun f => do pure (f.offset, ← sizeOf f.type)) : Sem (List (Nat × Nat))).run P w = .ok ps w
  | [], ps, h => by simp only [placesL, Option.some.injEq] at h; subst h; simp
  | f :: r, ps, h => by
    simp only [placesL] at h
    split at h
    · rename_i z ps' h1 h2
      cases h
      have ih := run_places (w := w) h2
      rw [List.mapM_cons]
      simp only [Sem.run_bind, run_sizeOf h1, Result.andThen_ok, Sem.run_pure, ih]
    · simp at h
def putCells (rd : List (Nat × AV)) (places : List (Nat × Nat)) : List (Nat × Operand) → List AV → Option (List AV)
  | [], cells => some cells
  | (i, x) :: r, cells => match places[i]?, evalO rd x with
    | some (off, size), some y => match cellsAV y with
      | some cs => if Nat.beq cs.length size && Nat.ble (off + size) cells.length then putCells rd places r (setAt cells off cs) else none
      | none => none
    | _, _ => none
theorem fill_cells {Γ : Ctx} {ρ : Name → Loc} {M : Nat → Prop} {s : AS} {a : Act} {w : World} {e : Eff} (hs : Sim Γ ρ M s a w) (hh : s.holds e) {places : List (Nat × Nat)} :
    ∀ (parts : List (Nat × Operand)) (cells cells' : List AV) (us : Array Value), AV.Rs ρ s.heap M w cells us.toList → putCells e.rd places parts cells = some cells' →
    ∃ us', Instr.fill (fun i => places[i]?) us (parts.map fun p => (p.1, a.eval p.2)) = some us' ∧ AV.Rs ρ s.heap M w cells' us'.toList
  | [], cells, cells', us, h1, h4 => by
    simp only [putCells, Option.some.injEq] at h4; subst h4
    exact ⟨us, rfl, h1⟩
  | (i, x) :: r, cells, cells', us, h1, h4 => by
    simp only [putCells] at h4
    split at h4
    · rename_i off size y hpl hy
      split at h4
      · rename_i cs hcs
        split at h4
        · rename_i hck
          simp only [Bool.and_eq_true] at hck
          have hpl' := Nat.eq_of_beq_eq_true hck.1
          have hle := Nat.le_of_ble_eq_true hck.2
          have hR := cellsAV_R hcs (evalO_R hs hh hy)
          have hus : (a.eval x).cells.size = size := by have := hR.length; simp at this; rw [this, hpl']
          have hlen : us.size = cells.length := by have := h1.length; simpa using this
          have hB : AV.Rs ρ s.heap M w (setAt cells off cs) ((a.eval x).cells.zipIdx.foldl (fun cs (c, j) => cs.setIfInBounds (off + j) c) us).toList := by
            have := fold_set off (a.eval x).cells.toList 0 us (by simp [hus]; omega)
            simp only [Nat.add_zero] at this
            have e1 : ((a.eval x).cells.zipIdx.foldl (fun cs (c, j) => cs.setIfInBounds (off + j) c) us).toList = setAt us.toList off (a.eval x).cells.toList := by
              rw [← this, ← Array.foldl_toList]; simp [Array.toList_zipIdx]
            rw [e1]
            unfold setAt
            rw [show (a.eval x).cells.toList.length = cs.length by simp [hus, hpl']]
            exact ((h1.take off).append hR).append (h1.drop _)
          obtain ⟨us', g1, g2⟩ := fill_cells hs hh r (setAt cells off cs) cells' _ hB h4
          refine ⟨us', ?_, g2⟩
          simp only [List.map_cons, Instr.fill, hpl, hus]
          simp_all
        · simp at h4
      · simp at h4
    · simp at h4
def structT (P : Program) (T : TypeId) : Option (List (Nat × Nat)) := match P.underlying T with
  | some (.struct fields) => placesL P fields.toList
  | _ => none
theorem OpOK.build {T : TypeId} {parts : Array (Nat × Operand)} {zs cells : List AV} {pl : List (Nat × Nat)} (ho : o.op = .build T parts) (hT : structT P T = some pl) (hz : zeroAV P T = some zs) (hc : putCells rd pl parts.toList zs = some cells) :
    OpOK P o ⟨rd, [], .agg cells, [], []⟩ :=
  OpOK.quiet fun Γ ρ M s a w hs hh => by
    obtain ⟨i, z, hi, hz', hall, rfl⟩ := zeroAV_spec hz
    obtain ⟨us, g1, g2⟩ := fill_cells hs hh parts.toList _ cells z.cells (constCells_R hall) hc
    refine ⟨.agg us, ?_, by simp only [AV.R]; exact ⟨us, rfl, g2⟩⟩
    unfold structT at hT
    cases hu : P.underlying T with
    | none => simp [hu] at hT
    | some d =>
      cases d with
      | struct fields =>
        simp only [hu] at hT
        have hpl := run_places (P := P) (w := w) hT
        have hparts : ((parts.map fun (i, x) => (i, a.eval x)) : Array (Nat × Value)).toList = parts.toList.map fun p => (p.1, a.eval p.2) := by simp
        simp only [execOp, ho, Instr.build, Sem.run_bind, run_zeroValue hi hz', Result.andThen_ok, run_underlying hu]
        rw [Array.mapM_eq_mapM_toList]
        simp only [Sem.run_bind, Sem.run_map, hpl, Result.andThen_ok, hparts, List.getElem?_toArray, g1]
        simp
      | _ => simp [hu] at hT
theorem OpOK.fieldAgg {T : TypeId} {x : Operand} {i off z : Nat} {cells sub : List AV} {T' : TypeId} (ho : o.op = .field T x i) (hx : evalO rd x = some (.agg cells)) {fs : Array Field} {f : Field} (hu : P.underlying T = some (.struct fs)) (hf : fs[i]? = some f) (ht : aggT P f.type = true)
    (hz : sizeT P f.type = some z) (hsub : (cells.drop f.offset).take z = sub) : OpOK P o ⟨rd, [], .agg sub, [], []⟩ :=
  OpOK.quiet fun Γ ρ M s a w hs hh => by
    have hr := evalO_R hs hh hx
    simp only [AV.R] at hr
    obtain ⟨us, hus, h2⟩ := hr
    refine ⟨.agg (us.extract f.offset (f.offset + z)), ?_, ?_⟩
    · simp [execOp, ho, Instr.field, run_underlying hu, hf, hus, asAgg, part, run_isAgg_true ht, run_sizeOf hz]
    · simp only [AV.R]
      refine ⟨_, rfl, ?_⟩
      have := (h2.drop f.offset).take z
      rw [hsub] at this
      simpa [Array.toList_extract, List.extract_eq_take_drop] using this
theorem OpOK.field {T : TypeId} {x : Operand} {i : Nat} {cells : List AV} {c : AV} (ho : o.op = .field T x i) (hx : evalO rd x = some (.agg cells)) {fs : Array Field} {f : Field} (hu : P.underlying T = some (.struct fs)) (hf : fs[i]? = some f) (ht : flatT P f.type = true)
    (hc : cells[f.offset]? = some c) : OpOK P o ⟨rd, [], c, [], []⟩ :=
  OpOK.quiet fun Γ ρ M s a w hs hh => by
    have hr := evalO_R hs hh hx
    simp only [AV.R] at hr
    obtain ⟨us, hus, h2⟩ := hr
    obtain ⟨u, k1, k2, k3⟩ := h2.get f.offset c hc
    refine ⟨u, ?_, k3⟩
    have : us[f.offset]? = some u := by simpa using k1
    simp [execOp, ho, Instr.field, run_underlying hu, hf, hus, asAgg, part, run_isAgg_false ht, this]
end
section
variable {P : Program} {o : Oper} {rd : List (Nat × AV)}
theorem OpOK.put {hp : List (Name × AO)} {v : AV} {n : Name} {ob : AO} {nw : List Name}
    (h : ∀ (Γ : Ctx) (ρ : Name → Loc) (M : Nat → Prop) (s : AS) (a : Act) (w : World), Sim Γ ρ M s a w → s.holds ⟨rd, hp, v, [(n, ob)], nw⟩ → ∃ u w' ρ' M', (execOp a.eval o).run P w = .ok (.value u) w' ∧
      Sim Γ ρ' M' ⟨s.slot, fun m => if m = n then some ob else s.heap m⟩ a w' ∧ v.R ρ' (fun m => if m = n then some ob else s.heap m) M' w' u) : OpOK P o ⟨rd, hp, v, [(n, ob)], nw⟩ := by
  intro Γ ρ M s a w K Q hs hh hd hK
  obtain ⟨u, w', ρ', M', h1, h2, h3⟩ := h Γ ρ M s a w hs hh
  unfold Oper.wp
  rw [h1, Oper.upon_value]
  refine hK ρ' M' _ w' ((h2.put hd (fun _ => h3)).congr (fun t => rfl) (fun m => ?_))
  simp only [AS.run, AS.set, look]
  grind
theorem src_of {ρ : Name → Loc} {H : Heap} {M : Nat → Prop} {w : World} {f : Bool} {es : Nat} {rows : List (List PV)} {u : Value} {T e : TypeId} (hT : elemT P T = some e) (h : PV.R M w (.sl f es rows) u) :
    ∃ cr : List (List Value), RR ρ H M w rows cr ∧ (∀ r ∈ rows, r.length = es) ∧ Src P es T u rows.length cr.flatten w := by
  simp only [PV.R] at h
  obtain ⟨a, cap, rfl, h2, h3, h4, h5⟩ := h
  cases a with
  | none =>
    have hc := h4 rfl
    have hl : rows = [] := List.eq_nil_of_length_eq_zero (by omega)
    subst hl; subst hc
    exact ⟨[], by simp [RR], by simp, Src.ofNil (w := w) (elemT_spec hT) 0⟩
  | some ad =>
    by_cases hc : cap = 0
    · have hl : rows = [] := List.eq_nil_of_length_eq_zero (by omega)
      subst hl
      exact ⟨[], by simp [RR], by simp, Src.ofSlice (w := w) (elemT_spec hT) ad _ _ [] (by simp) (by simp) (by simp)⟩
    obtain ⟨g1, g2, g3, g4⟩ := h5 ad rfl hc
    obtain ⟨b, off, spot⟩ := ad
    simp only at g1; subst g1
    obtain ⟨cr, k1, k2, k3⟩ := RR.of_Rows (ρ := ρ) (H := H) g4
    have hfl : cr.flatten.length = rows.length * es := by rw [flat_len (k1.len k2), k1.length]
    exact ⟨cr, k1, k2, Src.ofSlice (w := w) (elemT_spec hT) _ _ _ _ hfl (fun j u hj => by rw [addr_add]; exact k3 j u hj) k1.one⟩
theorem size_zeroCells' (z : Array Value) (n : Nat) : (Builtin.zeroCells z n).size = n * z.size := by simp [Builtin.zeroCells]
theorem Sim.grown {Γ : Ctx} {ρ : Name → Loc} {M : Nat → Prop} {s : AS} {a : Act} {w : World} (h : Sim Γ ρ M s a w) {n : Name} {es cap : Nat} {rows : List (List PV)} {cr : List (List Value)} {rest : Array Value} {e : TypeId}
    (hes : 1 ≤ es) (hrr : RR ρ s.heap M w rows cr) (hl : ∀ r ∈ rows, r.length = es) (hcap : rows.length ≤ cap) (hrest : rest.size = (cap - rows.length) * es) (h0 : 0 < rows.length)
    (hst : ∀ o', s.heap n = some o' → ∃ rows0, o' = .arr es rows0 ∧ rows0.length < rows.length) (hfree : s.heap n = none → s.free n) :
    ∃ M', Sim Γ (fun m => if m = n then ⟨some ⟨w.heap.size, 0, none⟩, cap⟩ else ρ m) M' ⟨s.slot, fun m => if m = n then some (.arr es rows) else s.heap m⟩ a (w.drew.alloc (.cells (cr.flatten.toArray ++ rest) e)) := by
  have he : Ext (fun _ => False) w (w.drew.alloc (.cells (cr.flatten.toArray ++ rest) e)) := (Ext.drew w).trans (Ext.alloc w.drew _) (fun _ _ hb => hb.elim)
  refine ⟨fun b => M b ∨ b = w.heap.size, h.update1 (he.weaken fun _ _ hb => hb.elim) (fun b hb => .inl hb) (fun b hb => hb.imp id (fun e => by omega)) (fun b hb => ?_) (fun o' ho' => ?_) hfree ?_ (fun b hb => .inr ?_)⟩
  · rcases hb with hb | hb
    · have := h.msize b hb; simp; omega
    · simp [hb]
  · obtain ⟨rows0, rfl, hlt⟩ := hst o' ho'
    simp only [stays]
    grind
  · have hcr := hrr.length
    have hfl : cr.flatten.length = rows.length * es := by rw [flat_len (hrr.len hl), hcr]
    refine ⟨hes, by simpa using hcap, .inr ⟨w.heap.size, e, _, by simp, .inr rfl, by have := heap_alloc_new w.drew (.cells (cr.flatten.toArray ++ rest) e); simpa using this, ?_, ?_⟩⟩
    · simp only [if_true, Array.size_append, List.size_toArray, hfl, hrest]
      rw [← Nat.add_mul, Nat.add_sub_cancel' hcap]; exact Nat.le_refl _
    · refine Rows_of_RR (ρ := ρ) (H := s.heap) (hrr.step (B := fun _ => False) he (fun _ hb => hb.elim) (fun b hb hb' => hb'.resolve_right (by omega))) hl fun j u hj => ?_
      have := heap_alloc_new w.drew (.cells (cr.flatten.toArray ++ rest) e)
      simp only [World.size_drew] at this
      simp only [World.cell?, this]
      grind
  · simp only [Loc.blk] at hb
    simp_all
theorem setCells_eq {w : World} {b k : Nat} {cur : Array Value} {t : TypeId} {vs : List Value} (hb : w.heap[b]? = some (.cells cur t (0, 0))) (hl : k + vs.length ≤ cur.size) (h1 : ∀ v ∈ vs, v.oneCell' = true) :
    w.setCells b k vs = w.setRow b (setAt cur.toList k vs).toArray := by
  have r1 := run_storeCells_at (P := default) b k t vs 0 cur w hb (by simpa using hl) h1
  have r2 := run_storeCells_cells (P := default) b k vs 0 w (fun j hj => by
      have : k + j < cur.size := by omega
      simp [World.cell?, hb, this]) (fun j hj => by simp [World.frozen?, hb]) h1
  rw [r1] at r2
  simp only [Nat.add_zero] at r2
  injection r2 with _ r3
  exact r3.symm
theorem OpOK.appendOwn {T e : TypeId} {x y : Operand} {ats : Array TypeId} {n : Name} {len es bytes r : Nat} {f : Bool} {rows rows' rows2 : List (List PV)}
    (ho : o.op = .call { callee := .builtin .append, args := #[x, y], argTypes := ats }) (hat : ats = #[T, T]) (hT : elemT P T = some e) (hok : elemOK P e es bytes = true)
    (hx : evalO rd x = some (.own n len)) (hlen : Nat.beq len rows.length = true) (hy : evalO rd y = some (.p (.sl f es rows'))) (h2 : rows ++ rows' = rows2) (hr : rows2.length = r)
    (hfit : (rows.length + rows'.length) * bytes ≤ 140737488355328) (hfit2 : rows.length + rows'.length ≤ 140737488355328) :
    OpOK P o ⟨rd, [(n, .arr es rows)], .own n r, [(n, .arr es rows2)], []⟩ :=
  OpOK.put fun Γ ρ M s a w hs hh => by
    subst h2; subst hr; subst hat
    have hle := Nat.eq_of_beq_eq_true hlen
    subst hle
    obtain ⟨i, z, hi, hz, hsz, hby, hzs⟩ := elemOK_spec hok
    have hrx := evalO_R hs hh hx
    simp only [AV.R] at hrx
    have hn := hh.hp n _ (by simp : (n, AO.arr es rows) ∈ _)
    have hux := (hrx.2 _ es rows.length hn rfl).2 rfl
    have hry := evalO_R hs hh hy
    simp only [AV.R] at hry
    obtain ⟨cr', k1, k2, hsrc⟩ := src_of (P := P) (ρ := ρ) (H := s.heap) hT hry
    obtain ⟨hes, hcap, hobj⟩ := hs.objs n _ hn
    have hexec : ∀ (u : Value) (w' : World), (Builtin.append_ #[T, T] o.type #[.slice (ρ n).base rows.length (ρ n).cap, a.eval y]).run P w = .ok u w' → (execOp a.eval o).run P w = .ok (.value u) w' := by
      intro u w' hrun
      simp [execOp, ho, resolve, invoke, builtin, hux, hrun]
    rw [← hsz] at hsrc
    by_cases hnil : rows' = []
    · subst hnil
      simp only [List.append_nil]
      simp only [RR] at k1
      subst k1
      have hrun := run_append_nothing w T T o.type e i (elemT_spec hT) hi (ρ n).base rows.length (ρ n).cap hcap (a.eval y) (by simpa using hsrc)
      have hfun : (fun m => if m = n then some (AO.arr es rows) else s.heap m) = s.heap := by
        grind
      refine ⟨_, w, ρ, M, hexec _ _ hrun, by rw [hfun]; exact hs, ?_⟩
      rw [hfun, ← hux]
      simp only [AV.R]
      exact hrx
    · have hpos : 0 < rows'.length := List.length_pos_iff.2 hnil
      by_cases hroom : rows.length + rows'.length ≤ (ρ n).cap
      · -- there is room
        rcases hobj with hobj | ⟨b, T', cs, h3, h4, h5, h6, h7⟩
        · omega
        · have hcrl := k1.length
          have hfl : cr'.flatten.length = rows'.length * es := by rw [flat_len (k1.len k2), hcrl]
          have hfits : rows.length * es + cr'.flatten.length ≤ cs.size := by
            rw [hfl, ← Nat.add_mul]; exact Nat.le_trans (Nat.mul_le_mul_right es hroom) h6
          have hle2 : rows.length * es + cr'.flatten.length ≤ cs.size := hfits
          obtain ⟨cr0, m1, m2, m3⟩ := RR.of_Rows (ρ := ρ) (H := s.heap) h7
          have hfl0 : cr0.flatten.length = rows.length * es := by rw [flat_len (m1.len m2), m1.length]
          have hcell : ∀ j, j < cs.size → w.cell? ⟨b, j, none⟩ = cs[j]? := fun j hj => by simp [World.cell?, h5]
          have hrun := run_append_room_src (P := P) w T T o.type e i (elemT_spec hT) hi b 0 rows.length (ρ n).cap (a.eval y) rows'.length cr'.flatten hsrc hroom
            (fun j hj => by rw [hsz, Nat.zero_add, hcell _ (by omega)]; simp; omega) (fun j hj => by simp [World.frozen?, h5])
          rw [hsz, Nat.zero_add, setCells_eq h5 hle2 k1.one, ← h3] at hrun
          have he : Ext (fun b' => b' = b) w (w.setRow b (setAt cs.toList (rows.length * es) cr'.flatten).toArray) := ⟨by simp [World.setRow], fun b' hb hne => setRow_other w b b' _ hne, rfl, rfl⟩
          have hblk : (ρ n).blk = some b := by
            have : (ρ n).cap ≠ 0 := by omega
            simp [Loc.blk, this, h3]
          have hM : M b := h4
          refine ⟨_, _, (fun m => if m = n then ρ n else ρ m), M, hexec _ _ hrun, hs.update1 (he.weaken fun b' _ hb => ⟨by rw [hblk, hb], by rw [hn]; simp⟩) (fun _ hb => hb) (fun _ hb => .inl hb) (fun b' hb => Nat.lt_of_lt_of_le (hs.msize b' hb) he.size)
            (fun o' ho' => by rw [hn] at ho'; cases ho'; simp [stays]) (fun h0 => by rw [hn] at h0; simp at h0) ?_ (fun b' hb => .inl ⟨_, hn, hb⟩), ?_⟩
          · refine ⟨hes, by simpa using hroom, .inr ⟨b, T', _, by simp [h3], hM, setRow_heap w b cs _ T' (0, 0) h5, ?_, ?_⟩⟩
            · simp only [if_true, List.size_toArray, setAt, List.length_append, List.length_take, List.length_drop, Array.length_toList]
              omega
            · have st : ∀ {rs : List (List PV)} {c : List (List Value)}, RR ρ s.heap M w rs c → RR ρ s.heap M (w.setRow b (setAt cs.toList (rows.length * es) cr'.flatten).toArray) rs c := fun h => h.step he (fun b' hb => by rw [hb]; exact hM) (fun b' _ hb => hb)
              refine Rows_of_RR (ρ := ρ) (H := s.heap) ((st m1).append (st k1)) (fun r hr => ?_) fun j u hj => ?_
              · grind
              · rw [cell_setRow_same w b j cs _ T' (0, 0) h5]
                simp only [List.flatten_append] at hj
                simp only [List.getElem?_toArray, setAt]
                rw [List.getElem?_append] at hj
                split at hj
                · rename_i hlt
                  have := m3 j u hj
                  rw [Nat.zero_add, hcell j (by omega)] at this
                  rw [List.append_assoc, List.getElem?_append_left (by simp; omega), List.getElem?_take_of_lt (by omega)]
                  simpa using this
                · rename_i hge
                  have hjl : j - cr0.flatten.length < cr'.flatten.length := by
                    rcases Nat.lt_or_ge (j - cr0.flatten.length) cr'.flatten.length with h' | h'
                    · exact h'
                    · rw [List.getElem?_eq_none h'] at hj; simp at hj
                  have htl : (List.take (rows.length * es) cs.toList).length = rows.length * es := by simp; omega
                  rw [List.append_assoc, List.getElem?_append_right (by omega), List.getElem?_append_left (by omega), htl, ← hfl0]
                  exact hj
          · simp only [AV.R]
            refine ⟨rfl, fun o' es' k' hc hs' => ?_⟩
            simp only [if_true] at hc
            cases hc
            cases hs'
            exact ⟨Nat.le_refl _, fun _ => by simp⟩
      · -- a new row
        have hg : (ρ n).cap < rows.length + rows'.length := by omega
        have hold : ∃ cr0, RR ρ s.heap M w rows cr0 ∧ (∀ r ∈ rows, r.length = es) ∧ (Builtin.firstCells i.size rows.length (.slice (ρ n).base rows.length (ρ n).cap)).run P w.drew = .ok cr0.flatten.toArray w.drew := by
          rcases hobj with hobj | ⟨b, T', cs, h3, h4, h5, h6, h7⟩
          · have hl : rows = [] := List.eq_nil_of_length_eq_zero (by omega)
            subst hl
            refine ⟨[], by simp [RR], by simp, ?_⟩
            cases hb : (ρ n).base with
            | none => simpa using run_firstCells_none (P := P) w.drew i.size 0 0 (ρ n).cap
            | some ad => simpa using run_firstCells_some (P := P) w.drew i.size 0 ad 0 (ρ n).cap [] (by simp) (by simp)
          · obtain ⟨cr0, m1, m2, m3⟩ := RR.of_Rows (ρ := ρ) (H := s.heap) h7
            refine ⟨cr0, m1, m2, ?_⟩
            rw [h3]
            exact run_firstCells_some (P := P) w.drew i.size rows.length _ rows.length (ρ n).cap cr0.flatten (by rw [hsz, flat_len (m1.len m2), m1.length]) (fun j u hj => by
              rw [addr_add, Nat.zero_add, World.cell?_drew]; have := m3 j u hj; rwa [Nat.zero_add] at this)
        obtain ⟨cr0, m1, m2, hold⟩ := hold
        have hrun := run_append_grow_src (P := P) w T T o.type e i z (elemT_spec hT) hi hz (ρ n).base rows.length (ρ n).cap cr0.flatten hold (a.eval y) rows'.length cr'.flatten hsrc hg
          (by omega) (growslice_fits hg (by rw [hby]; exact hfit))
        have hge := grownCap_ge w (rows.length + rows'.length) (ρ n).cap e
        have happ : (cr0.flatten ++ cr'.flatten) = (cr0 ++ cr').flatten := by simp
        rw [happ] at hrun
        obtain ⟨M', hsim⟩ := hs.grown (n := n) (es := es) (cap := grownCap w (rows.length + rows'.length) (ρ n).cap e) (rows := rows ++ rows') (cr := cr0 ++ cr') (rest := Builtin.zeroCells z.cells (grownCap w (rows.length + rows'.length) (ρ n).cap e - (rows.length + rows'.length))) (e := e)
          hes (m1.append k1) (fun r hr => by rcases List.mem_append.1 hr with hr | hr; exact m2 r hr; exact k2 r hr) (by simpa using hge) (by rw [size_zeroCells', hzs]; simp) (by simp; omega)
          (fun o' ho' => by rw [hn] at ho'; cases ho'; exact ⟨rows, rfl, by simp; omega⟩) (fun h0 => by rw [hn] at h0; simp at h0)
        refine ⟨_, _, _, M', hexec _ _ hrun, hsim, ?_⟩
        simp only [AV.R]
        refine ⟨rfl, fun o' es' k' hc hs' => ?_⟩
        simp only [if_true] at hc
        cases hc
        cases hs'
        exact ⟨Nat.le_refl _, fun _ => by simp⟩
end
open Go
section
variable {P : Program} {o : Oper} {rd : List (Nat × AV)}
theorem OpOK.appendNew {T e : TypeId} {x y : Operand} {ats : Array TypeId} {n : Name} {es es0 bytes r : Nat} {f : Bool} {rows rows' rows2 : List (List PV)}
    (ho : o.op = .call { callee := .builtin .append, args := #[x, y], argTypes := ats }) (hat : ats = #[T, T]) (hT : elemT P T = some e) (hok : elemOK P e es bytes = true) (hes : Nat.ble 1 es = true)
    (hx : evalO rd x = some (.p (.sl true es0 rows))) (hy : evalO rd y = some (.p (.sl f es rows'))) (h2 : rows ++ rows' = rows2) (hr : rows2.length = r) (hnn : rows = [] ∨ (rows' ≠ [] ∧ es0 = es))
    (hfit : (rows.length + rows'.length) * bytes ≤ 140737488355328) (hfit2 : rows.length + rows'.length ≤ 140737488355328) :
    OpOK P o ⟨rd, [], .own n r, [(n, .arr es rows2)], [n]⟩ :=
  OpOK.put fun Γ ρ M s a w hs hh => by
    subst h2; subst hr; subst hat
    obtain ⟨i, z, hi, hz, hsz, hby, hzs⟩ := elemOK_spec hok
    obtain ⟨hn, hfree⟩ := hh.nw n (by simp)
    have hes' := Nat.le_of_ble_eq_true hes
    have hrx := evalO_R hs hh hx
    simp only [AV.R] at hrx
    have hrx' := hrx
    simp only [PV.R] at hrx'
    obtain ⟨ax, cx, hux, _, hfull, hnone, hsome⟩ := hrx'
    have hcx := hfull trivial
    subst hcx
    have hry := evalO_R hs hh hy
    simp only [AV.R] at hry
    obtain ⟨cr', k1, k2, hsrc⟩ := src_of (P := P) (ρ := ρ) (H := s.heap) hT hry
    rw [← hsz] at hsrc
    have hexec : ∀ (u : Value) (w' : World), (Builtin.append_ #[T, T] o.type #[.slice ax rows.length rows.length, a.eval y]).run P w = .ok u w' → (execOp a.eval o).run P w = .ok (.value u) w' := by
      intro u w' hrun
      simp [execOp, ho, resolve, invoke, builtin, hux, hrun]
    by_cases hnil : rows' = []
    · have hrows : rows = [] := hnn.resolve_right (fun h => h.1 hnil)
      subst hnil; subst hrows
      simp only [RR] at k1
      subst k1
      have hrun := run_append_nothing w T T o.type e i (elemT_spec hT) hi ax 0 0 (Nat.le_refl _) (a.eval y) (by simpa using hsrc)
      refine ⟨_, w, (fun m => if m = n then ⟨ax, 0⟩ else ρ m), M, hexec _ _ hrun, hs.update1 (Ext.refl _ _) (fun _ hb => hb) (fun _ hb => .inl hb) hs.msize (fun o' ho' => by rw [hn] at ho'; simp at ho') (fun _ => hfree) ?_ (fun b hb => by simp [Loc.blk] at hb), ?_⟩
      · exact ⟨hes', by simp, .inl (by simp)⟩
      · simp only [AV.R]
        refine ⟨rfl, fun o' es' k' hc hs' => ?_⟩
        simp_all
    · have hpos : 0 < rows'.length := List.length_pos_iff.2 hnil
      have hg : rows.length < rows.length + rows'.length := by omega
      have hold : ∃ cr0, RR ρ s.heap M w rows cr0 ∧ (∀ r ∈ rows, r.length = es) ∧ (Builtin.firstCells i.size rows.length (.slice ax rows.length rows.length)).run P w.drew = .ok cr0.flatten.toArray w.drew := by
        by_cases hl : rows = []
        · subst hl
          refine ⟨[], by simp [RR], by simp, ?_⟩
          cases ax with
          | none => simpa using run_firstCells_none (P := P) w.drew i.size 0 0 0
          | some ad => simpa using run_firstCells_some (P := P) w.drew i.size 0 ad 0 0 [] (by simp) (by simp)
        · have he0 := (hnn.resolve_left hl).2
          subst he0
          cases ax with
          | none => exact absurd (List.eq_nil_of_length_eq_zero (hnone rfl)) hl
          | some ad =>
            obtain ⟨q1, q2, q3, q4⟩ := hsome ad rfl (fun h0 => hl (List.eq_nil_of_length_eq_zero h0))
            obtain ⟨b, off, spot⟩ := ad
            simp only at q1; subst q1
            obtain ⟨cr0, m1, m2, m3⟩ := RR.of_Rows (ρ := ρ) (H := s.heap) q4
            exact ⟨cr0, m1, m2, run_firstCells_some (P := P) w.drew i.size rows.length _ rows.length rows.length cr0.flatten (by rw [hsz, flat_len (m1.len m2), m1.length]) (fun j u hj => by
              rw [addr_add, World.cell?_drew]; exact m3 j u hj)⟩
      obtain ⟨cr0, m1, m2, hold⟩ := hold
      have hrun := run_append_grow_src (P := P) w T T o.type e i z (elemT_spec hT) hi hz ax rows.length rows.length cr0.flatten hold (a.eval y) rows'.length cr'.flatten hsrc hg
        (by omega) (growslice_fits hg (by rw [hby]; exact hfit))
      have hge := grownCap_ge w (rows.length + rows'.length) rows.length e
      have happ : (cr0.flatten ++ cr'.flatten) = (cr0 ++ cr').flatten := by simp
      rw [happ] at hrun
      obtain ⟨M', hsim⟩ := hs.grown (n := n) (es := es) (cap := grownCap w (rows.length + rows'.length) rows.length e) (rows := rows ++ rows') (cr := cr0 ++ cr') (rest := Builtin.zeroCells z.cells (grownCap w (rows.length + rows'.length) rows.length e - (rows.length + rows'.length))) (e := e)
        hes' (m1.append k1) (fun r hr => by rcases List.mem_append.1 hr with hr | hr; exact m2 r hr; exact k2 r hr) (by simpa using hge) (by rw [size_zeroCells', hzs]; simp) (by simp; omega)
        (fun o' ho' => by rw [hn] at ho'; simp at ho') (fun _ => hfree)
      refine ⟨_, _, _, M', hexec _ _ hrun, hsim, ?_⟩
      simp only [AV.R]
      refine ⟨rfl, fun o' es' k' hc hs' => ?_⟩
      simp only [if_true] at hc
      cases hc
      cases hs'
      grind
theorem OpOK.storeElem {T : TypeId} {x y : Operand} {n : Name} {len i k es : Nat} {rows : List (List PV)} {row row' : List PV} {vs : List AV} {ps : List PV} {v : AV} (hdst : o.dst = none) (ho : o.op = .store T x y) (hx : evalO rd x = some (.aref n len i k)) (hy : evalO rd y = some v) (hv : cellsAV v = some vs)
    (hp : pureL vs = some ps) (hlen : Nat.beq len rows.length = true) (hi : rows[i]? = some row) (hz : sizeT P T = some vs.length) (hl : Nat.ble (k + vs.length) row.length = true) (hc : setAt row k ps = row') {rows' : List (List PV)} (hr' : rows.set i row' = rows') :
    OpOK P o ⟨rd, [(n, .arr es rows)], .any, [(n, .arr es rows')], []⟩ :=
  OpOK.wr hdst fun Γ ρ M s a w hs hh => by
    subst hr'; subst hc
    have hr := evalO_R hs hh hx
    simp only [AV.R] at hr
    have hn := hh.hp n _ (by simp : (n, AO.arr es rows) ∈ _)
    have hle := Nat.eq_of_beq_eq_true hlen
    obtain ⟨b, hb, hu⟩ := (hr.2 _ es rows.length hn rfl).2 hle
    obtain ⟨hes, hcap, hobj⟩ := hs.objs n _ hn
    have hil : i < rows.length := by
      grind
    rcases hobj with hobj | ⟨b', t, cs, h3, h4, h5, h6, h7⟩
    · omega
    · have e : b' = b := by rw [hb] at h3; simpa using h3.symm
      subst e
      have hvs := cellsAV_R hv (evalO_R hs hh hy)
      rw [pureL_spec hp] at hvs hz hl
      have hlen2 := hvs.length
      simp only [Array.length_toList] at hlen2
      have hpl : (pcells ps).length = ps.length := by simp [pcells]
      rw [hpl] at hlen2 hz hl
      have hl' := Nat.le_of_ble_eq_true hl
      obtain ⟨cr, m1, m2, m3⟩ := RR.of_Rows (ρ := ρ) (H := s.heap) h7
      have hrl := m2 row (List.mem_of_getElem? hi)
      have hbound : i * es + es ≤ cs.size := by
        rw [← Nat.succ_mul]; exact Nat.le_trans (Nat.mul_le_mul_right es (by omega)) h6
      have hrun := run_storeVar (P := P) (T := T) (b := b') (k := i * es + k) (u := a.eval y) (w := w) (by rw [hz, hlen2]) h5 (by omega) (Rs_one hvs)
      refine ⟨w.setRow b' (setAt cs.toList (i * es + k) (a.eval y).cells.toList).toArray, (fun m => if m = n then ρ n else ρ m), M, ?_, ?_⟩
      · simp [execOp, ho, hu, Instr.storeAt, Instr.sureAddr, hrun]
      · have hblk : (ρ n).blk = some b' := by
          have : (ρ n).cap ≠ 0 := by omega
          simp [Loc.blk, this, h3]
        have he : Ext (fun b => b = b') w (w.setRow b' (setAt cs.toList (i * es + k) (a.eval y).cells.toList).toArray) := ⟨by simp [World.setRow], fun b hb hne => setRow_other w b' b _ hne, rfl, rfl⟩
        have hM : M b' := h4
        refine hs.update1 (he.weaken fun b _ hb => ⟨by rw [hblk, hb], by rw [hn]; simp⟩) (fun _ hb => hb) (fun _ hb => .inl hb) (fun b hb => Nat.lt_of_lt_of_le (hs.msize b hb) he.size)
          (fun o' ho' => by rw [hn] at ho'; cases ho'; simp [stays]) (fun h0 => by rw [hn] at h0; simp at h0) ?_ (fun b hb => .inl ⟨_, hn, hb⟩)
        refine ⟨hes, by simpa using hcap, .inr ⟨b', t, _, by simp [h3], hM, setRow_heap w b' cs _ t (0, 0) h5, ?_, ?_⟩⟩
        · simp only [if_true, List.size_toArray, setAt, List.length_append, List.length_take, List.length_drop, Array.length_toList, hlen2]
          omega
        · have stv : ∀ {xs : List PV} {us : List Value}, AV.Rs ρ s.heap M w (pcells xs) us → PV.Rows M (w.setRow b' (setAt cs.toList (i * es + k) (a.eval y).cells.toList).toArray) b' es 0 [] := fun _ => by simp [PV.Rows]
          have hmono : ∀ {x : PV} {u : Value}, x.R M w u → x.R M (w.setRow b' (setAt cs.toList (i * es + k) (a.eval y).cells.toList).toArray) u := fun h => h.mono he (fun b hb => by rw [hb]; exact hM) (fun b _ hb => hb)
          have hcell : ∀ j, (w.setRow b' (setAt cs.toList (i * es + k) (a.eval y).cells.toList).toArray).cell? ⟨b', j, none⟩ = (setAt cs.toList (i * es + k) (a.eval y).cells.toList)[j]? := fun j => by
            rw [cell_setRow_same w b' j cs _ t (0, 0) h5, List.getElem?_toArray]
          have hold : ∀ j, w.cell? ⟨b', j, none⟩ = cs.toList[j]? := fun j => by simp [World.cell?, h5]
          have hset : ∀ j, (setAt cs.toList (i * es + k) (a.eval y).cells.toList)[j]? = if i * es + k ≤ j ∧ j < i * es + k + ps.length then (a.eval y).cells.toList[j - (i * es + k)]? else cs.toList[j]? := fun j => by
            have htl : (List.take (i * es + k) cs.toList).length = i * es + k := by simp; omega
            unfold setAt
            by_cases c1 : j < i * es + k
            · grind
            · by_cases c2 : j < i * es + k + ps.length
              · grind
              · rw [if_neg (by omega), List.getElem?_append_right (by simp; omega), List.getElem?_drop]
                simp_all
          refine PV.Rows.of_get fun i' r' hi' => ?_
          rw [List.getElem?_set] at hi'
          by_cases e : i = i'
          · subst e
            simp only [if_true, hil] at hi'
            cases hi'
            have hsl : (setAt row k ps).length = es := by simp [setAt, hrl]; omega
            refine ⟨hsl, PV.Cells.of_get fun j c hj => ?_⟩
            have hj' : j < es := by
              grind
            rw [hcell, hset]
            obtain ⟨_, g2⟩ := h7.get i row hi
            unfold setAt at hj
            have htl : (List.take k row).length = k := by simp; omega
            by_cases c1 : j < k
            · rw [if_neg (by omega)]
              rw [List.append_assoc, List.getElem?_append_left (by omega), List.getElem?_take_of_lt c1] at hj
              obtain ⟨u, hu', hr'⟩ := g2.get j c hj
              grind
            · by_cases c2 : j < k + ps.length
              · rw [if_pos ⟨by omega, by omega⟩]
                rw [List.append_assoc, List.getElem?_append_right (by omega), List.getElem?_append_left (by omega), htl] at hj
                obtain ⟨u, hu', _, hr'⟩ := hvs.get (j - k) (.p c) (by simp [pcells, hj])
                simp only [AV.R] at hr'
                refine ⟨u, ?_, hmono hr'⟩
                rw [← hu']
                congr 1
                omega
              · rw [if_neg (by omega)]
                rw [List.getElem?_append_right (by simp; omega), List.getElem?_drop] at hj
                obtain ⟨u, hu', hr'⟩ := g2.get j c (by rw [← hj]; congr 1; simp; omega)
                grind
          · rw [if_neg e] at hi'
            obtain ⟨g1, g2⟩ := h7.get i' r' hi'
            refine ⟨g1, PV.Cells.of_get fun j c hj => ?_⟩
            have hj' : j < es := by
              grind
            obtain ⟨u, hu', hr'⟩ := g2.get j c hj
            rw [hcell, hset, if_neg ?_]
            · simp_all
            · intro ⟨c1, c2⟩
              rcases Nat.lt_or_gt_of_ne e with h' | h'
              · have : (i + 1) * es ≤ i' * es := Nat.mul_le_mul_right es h'
                grind
              · have : (i' + 1) * es ≤ i * es := Nat.mul_le_mul_right es h'
                grind
mutual
def AV.closed (ks : List Name) : AV → Bool
  | .p _ => true
  | .agg cs => AV.closedL ks cs
  | .ref m _ => ks.contains m
  | .sref m => ks.contains m
  | .own m _ => ks.contains m
  | .aref m _ _ _ => ks.contains m
  | .view m _ _ _ => ks.contains m
  | .cut m _ _ => ks.contains m
  | .eptr _ => true
  | .tup vs => AV.closedL ks vs
  | .clo _ fs caps => AV.closedL ks fs && AV.closedL ks caps
  | .oref _ m => ks.contains m
  | .err _ => true
  | .ub => true
  | .any => true
def AV.closedL (ks : List Name) : List AV → Bool
  | [] => true
  | x :: xs => AV.closed ks x && AV.closedL ks xs
end
mutual
theorem AV.closed_has {ks : List Name} {n : Name} : ∀ {x : AV}, x.closed ks = true → x.has n = true → n ∈ ks
  | .p _, _, h => by simp [AV.has] at h
  | .agg cs, h, h' => AV.closedL_has (xs := cs) (by simpa only [AV.closed] using h) (by simpa only [AV.has] using h')
  | .ref m _, h, h' => by simp only [AV.has, beq_iff_eq] at h'; subst h'; simpa [AV.closed] using h
  | .sref m, h, h' => by simp only [AV.has, beq_iff_eq] at h'; subst h'; simpa [AV.closed] using h
  | .own m _, h, h' => by simp only [AV.has, beq_iff_eq] at h'; subst h'; simpa [AV.closed] using h
  | .view m _ _ _, h, h' => by simp only [AV.has, beq_iff_eq] at h'; subst h'; simpa [AV.closed] using h
  | .cut m _ _, h, h' => by simp only [AV.has, beq_iff_eq] at h'; subst h'; simpa [AV.closed] using h
  | .aref m _ _ _, h, h' => by simp only [AV.has, beq_iff_eq] at h'; subst h'; simpa [AV.closed] using h
  | .eptr _, _, h => by simp [AV.has] at h
  | .tup vs, h, h' => AV.closedL_has (xs := vs) (by simpa only [AV.closed] using h) (by simpa only [AV.has] using h')
  | .clo _ fs caps, h, h' => by
    simp only [AV.closed, Bool.and_eq_true] at h
    simp only [AV.has, Bool.or_eq_true] at h'
    rcases h' with h' | h'
    · exact AV.closedL_has h.1 h'
    · exact AV.closedL_has h.2 h'
  | .oref _ m, h, h' => by simp only [AV.has, beq_iff_eq] at h'; subst h'; simpa [AV.closed] using h
  | .err _, _, h => by simp [AV.has] at h
  | .ub, _, h => by simp [AV.has] at h
  | .any, _, h => by simp [AV.has] at h
theorem AV.closedL_has {ks : List Name} {n : Name} : ∀ {xs : List AV}, AV.closedL ks xs = true → AV.hasL n xs = true → n ∈ ks
  | [], _, h => by simp [AV.hasL] at h
  | x :: xs, h, h' => by
    simp only [AV.closedL, Bool.and_eq_true] at h
    simp only [AV.hasL, Bool.or_eq_true] at h'
    rcases h' with h' | h'
    · exact AV.closed_has h.1 h'
    · exact AV.closedL_has h.2 h'
end
def AO.closed (ks : List Name) : AO → Bool
  | .box cells => AV.closedL ks cells
  | .arr _ _ => true
  | .hole _ _ row _ => AV.closedL ks row
  | .fact a _ => a.closed ks
  | .obj _ => true
theorem AO.closed_has {ks : List Name} {n : Name} {ob : AO} (h : ob.closed ks = true) (h' : ob.has n = true) : n ∈ ks := by
  cases ob with
  | box cells => exact AV.closedL_has h h'
  | arr es rows => simp [AO.has] at h'
  | hole es pre row post => exact AV.closedL_has h h'
  | fact a x => exact AV.closed_has h h'
  | obj x => simp [AO.has] at h'
def callOK (pre h : List (Name × AO)) (nw : List Name) (v : AV) : Bool :=
  (keys h).all (fun n => (keys pre).contains n || nw.contains n) && nw.all (fun n => (keys h).contains n && !(keys pre).contains n) && v.closed (keys h) && h.all (fun p => p.2.closed (keys h))
theorem ObjAt.blk_size {ρ : Name → Loc} {H : Heap} {M : Nat → Prop} {w : World} {n : Name} {ob : AO} (h : ObjAt ρ H M w n ob) {b : Nat} (hb : (ρ n).blk = some b) : b < w.heap.size := by
  cases ob with
  | box cells =>
    obtain ⟨b', T, cs, h1, h2, h3, h4⟩ := h
    rw [h1] at hb; simp [Loc.blk] at hb; subst hb
    grind
  | arr es rows =>
    obtain ⟨h0, h1, h2⟩ := h
    rcases h2 with h2 | ⟨b', T, cs, h3, h4, h5, h6⟩
    · simp [Loc.blk, h2] at hb
    · unfold Loc.blk at hb
      grind
  | hole es pre row post =>
    obtain ⟨_, _, h1, b', T, cs, h3, h4, h5, _⟩ := h
    unfold Loc.blk at hb
    grind
  | fact a x => simp [Loc.blk, h.1] at hb
  | obj x =>
    obtain ⟨b', h1, h2, h3⟩ := h
    rw [h1] at hb; simp [Loc.blk] at hb; subst hb
    grind
theorem look_keys {α : Type} {n : Nat} : ∀ {l : List (Nat × α)}, n ∈ keys l → ∃ x, look n l = some x
  | [], h => by simp [keys] at h
  | (k, y) :: r, h => by
    simp only [keys, List.map_cons, List.mem_cons] at h
    simp only [look]
    split
    · exact ⟨y, rfl⟩
    · rename_i hne
      rcases h with h | h
      · exact absurd h.symm hne
      · exact look_keys h
theorem Sim.after {Γ : Ctx} {ρ : Name → Loc} {M : Nat → Prop} {s : AS} {a : Act} {w : World} (hs : Sim Γ ρ M s a w) {pre h : List (Name × AO)} {nw : List Name} {v : AV} {u : Value} {ρ' : Name → Loc} {w' : World}
    (hpre : ∀ n ob, look n pre = some ob → s.heap n = some ob) (hnw : ∀ n, n ∈ nw → s.heap n = none ∧ s.free n) (hok : callOK pre h nw v = true) (ha : After ρ M w pre u v h ρ' w') :
    Sim Γ (fun m => if (keys h).contains m then ρ' m else ρ m) (newM M ρ' h) ⟨s.slot, fun m => match look m h with | some ob => some ob | none => s.heap m⟩ a w' ∧
      v.R (fun m => if (keys h).contains m then ρ' m else ρ m) (fun m => match look m h with | some ob => some ob | none => s.heap m) (newM M ρ' h) w' u := by
  simp only [callOK, Bool.and_eq_true, List.all_eq_true, Bool.or_eq_true, List.contains_eq_mem, decide_eq_true_eq, Bool.not_eq_true', decide_eq_false_iff_not] at hok
  obtain ⟨⟨⟨hk1, hk2⟩, hk3⟩, hk4⟩ := hok
  have hin : ∀ n ob, look n h = some ob → n ∈ keys h := fun n ob hn => keys_of_look (by rw [hn]; simp)
  have hstep0 : HStep ρ' (lookH h) (fun m => if (keys h).contains m then ρ' m else ρ m) (fun m => match look m h with | some ob => some ob | none => s.heap m) := fun n ob hn => by
    change look n h = some ob at hn
    simp only [hn, List.contains_eq_mem, decide_eq_true (hin n ob hn), if_true]
    exact stays_refl _ _
  have hclosed : ∀ n, n ∈ keys h → lookH h n = none → (match look n h with | some ob => some ob | none => s.heap n) = none := fun n hn hnone => by
    obtain ⟨x, hx⟩ := look_keys hn
    change look n h = none at hnone
    simp_all
  have hconvM : ∀ b, newM M ρ' h b → newM M ρ' h b := fun _ hb => hb
  have hval : v.R (fun m => if (keys h).contains m then ρ' m else ρ m) (fun m => match look m h with | some ob => some ob | none => s.heap m) (newM M ρ' h) w' u :=
    ha.val.step (Ext.refl (fun _ => False) _) (fun _ hb => hb.elim) (fun b _ hb => hb) hstep0 (fun n hn hnone => hclosed n (AV.closed_has hk3 hn) hnone)
  refine ⟨?_, hval⟩
  have hlt : ∀ m o' b, s.heap m = some o' → (ρ m).blk = some b → b < w.heap.size ∧ M b := fun m o' b h1 h2 => (hs.objs m o' h1).blk_lt hs.msize h2
  have hhad : ∀ n ob o', look n h = some ob → s.heap n = some o' → look n pre = some o' := fun n ob o' h1 h2 => by
    rcases hk1 n (hin n ob h1) with h3 | h3
    · obtain ⟨x, hx⟩ := look_keys h3
      simp_all
    · simp_all
  refine hs.update (ha.ext.weaken fun b _ ⟨n, ob, h1, h2⟩ => ⟨n, ob, hpre n ob h1, h2⟩) (fun b hb => .inl hb) (fun b hb => ?_) (fun b hb => ?_) (fun n ob hn => ?_) (fun n hn => ?_) (fun n hn hn' => ?_) (fun n ob hn => ?_) (fun n m o1 o2 b h1 h2 h3 h4 => ?_)
  · rcases hb with hb | ⟨n, ob, h1, h2⟩
    · exact .inl hb
    · rcases ha.own n ob b h1 h2 with ⟨o', h3, h4⟩ | h3
      · grind
      · exact .inr h3
  · rcases hb with hb | ⟨n, ob, h1, h2⟩
    · exact Nat.lt_of_lt_of_le (hs.msize b hb) ha.ext.size
    · exact (ha.objs n ob h1).blk_size h2
  · cases hl : look n h with
    | none =>
      have : n ∉ keys h := fun hk => by obtain ⟨x, hx⟩ := look_keys hk; rw [hl] at hx; simp at hx
      simp only [hn, List.contains_eq_mem, decide_eq_false this]
      exact stays_refl _ _
    | some ob' =>
      have hp := hhad n ob' ob hl hn
      obtain ⟨o2, h1, h2⟩ := ha.keep n ob hp
      simp_all
  · obtain ⟨ob, h1, _⟩ := hs.keep n hn
    grind
  · cases hl : look n h with
    | none => simp [hl, hn] at hn'
    | some ob =>
      rcases hk1 n (hin n ob hl) with h3 | h3
      · obtain ⟨x, hx⟩ := look_keys h3
        simp_all
      · exact (hnw n h3).2
  · cases hl : look n h with
    | none =>
      have hk : n ∉ keys h := fun hk => by obtain ⟨x, hx⟩ := look_keys hk; rw [hl] at hx; simp at hx
      simp only [hl] at hn
      refine .inl ⟨hn, by simp [hk], fun b hb => ?_⟩
      refine ha.ext.same b (hlt n ob b hn hb).1 (fun ⟨m, o', g1, g2⟩ => ?_)
      have := hs.inj n m ob o' b hn (hpre m o' g1) hb g2
      subst this
      obtain ⟨o2, h1, _⟩ := ha.keep n o' g1
      simp_all
    | some ob' =>
      simp only [hl] at hn
      cases hn
      have hk := hin n ob hl
      refine .inr ⟨?_, fun b hb => ?_⟩
      · have h0 := ha.objs n ob hl
        refine h0.step (Ext.refl (fun _ => False) _) (fun _ hb => hb.elim) (fun b _ hb => hb) (fun b hb => hb) hstep0 (fun m hm hnone => ?_) (by simp [hk]) (fun b _ => rfl) (fun b hb => ?_)
        · exact hclosed m (AO.closed_has (hk4 _ (look_mem hl)) hm) hnone
        · rcases hb with hb | ⟨n, ob, h1, h2⟩
          · exact Nat.lt_of_lt_of_le (hs.msize b hb) ha.ext.size
          · exact (ha.objs n ob h1).blk_size h2
      · simp only [List.contains_eq_mem, decide_eq_true hk, if_true] at hb
        rcases ha.own n ob b hl hb with ⟨o', h3, h4⟩ | h3
        · simp_all
        · exact .inr (Nat.le_trans hs.ext.size h3)
  · cases hl : look n h with
    | none =>
      have hk : n ∉ keys h := fun hk => by obtain ⟨x, hx⟩ := look_keys hk; rw [hl] at hx; simp at hx
      simp only [hl] at h1
      simp only [List.contains_eq_mem, decide_eq_false hk, Bool.false_eq_true, if_false] at h3
      cases hl' : look m h with
      | none =>
        have hk' : m ∉ keys h := fun hk => by obtain ⟨x, hx⟩ := look_keys hk; rw [hl'] at hx; simp at hx
        simp only [hl'] at h2
        simp only [List.contains_eq_mem, decide_eq_false hk', Bool.false_eq_true, if_false] at h4
        exact hs.inj n m o1 o2 b h1 h2 h3 h4
      | some ob' =>
        have hk' := hin m ob' hl'
        simp only [List.contains_eq_mem, decide_eq_true hk', if_true] at h4
        exfalso
        rcases ha.own m ob' b hl' h4 with ⟨o', g1, g2⟩ | g
        · have := hs.inj n m o1 o' b h1 (hpre m o' g1) h3 g2
          simp_all
        · grind
    | some ob =>
      have hk := hin n ob hl
      simp only [List.contains_eq_mem, decide_eq_true hk, if_true] at h3
      cases hl' : look m h with
      | none =>
        have hk' : m ∉ keys h := fun hk => by obtain ⟨x, hx⟩ := look_keys hk; rw [hl'] at hx; simp at hx
        simp only [hl'] at h2
        simp only [List.contains_eq_mem, decide_eq_false hk', Bool.false_eq_true, if_false] at h4
        exfalso
        rcases ha.own n ob b hl h3 with ⟨o', g1, g2⟩ | g
        · have := hs.inj m n o2 o' b h2 (hpre n o' g1) h4 g2
          simp_all
        · grind
      | some ob' =>
        have hk' := hin m ob' hl'
        simp only [List.contains_eq_mem, decide_eq_true hk', if_true] at h4
        exact ha.inj n m ob ob' b hl hl' h3 h4
theorem Sim.grounded {Γ : Ctx} {ρ : Name → Loc} {M : Nat → Prop} {s : AS} {a : Act} {w : World} {pre : List (Name × AO)} (hs : Sim Γ ρ M s a w) (hpre : ∀ n ob, look n pre = some ob → s.heap n = some ob) :
    Ground Γ.G w (fun b => ∃ n o, look n pre = some o ∧ (ρ n).blk = some b) :=
  ⟨hs.ground.laid, Nat.le_trans hs.ground.size hs.ext.size, fun b hb => by
    rw [hs.ext.same b (Nat.lt_of_lt_of_le hb hs.ground.size) (fun hB => by have := hs.ground.out b hB; omega)]; exact hs.ground.same b hb,
   fun b ⟨n, o, hn, hb⟩ => by
    rcases hs.own0 n o b (hpre n o hn) hb with ⟨h1, h2⟩ | h1
    · exact hs.ground.out b ⟨n, h1, h2⟩
    · exact Nat.le_trans hs.ground.size h1⟩
theorem Spec.ofCalls {P : Program} {f : FuncId} {args : List AV} {v : AV}
    (h : ∀ (G : World) (ρ : Name → Loc) (M : Nat → Prop) (w : World) (us : List Value), Ground G w (fun _ => False) → (∀ b, M b → b < w.heap.size) → AV.Ts ρ (fun _ => none) M w args us →
      Calls P f us.toArray w fun e w' => ∃ u, e = .returned u ∧ v.R ρ (fun _ => none) M w' u ∧ Ext (fun _ => False) w w') : SpecIs P f args [] v [] := by
  intro G ρ M w us hG hM hargs _ _
  have e0 : lookH [] = fun _ => none := rfl
  have eM : newM M ρ [] = M := by funext b; simp [newM, look]
  rw [e0] at hargs
  refine (h G ρ M w us ⟨hG.laid, hG.size, hG.same, fun b hb => hb.elim⟩ hM hargs).mono fun e w' ⟨u, he, hv, hx⟩ => ⟨u, v, [], ρ, he, ⟨rfl, rfl⟩, ?_, ?_, ?_, ?_, ?_, ?_⟩
  · rw [e0, eM]; exact hv
  · intro n o hn; simp [look] at hn
  · omega
  · simp_all
  · exact hx.weaken fun b _ hb => hb.elim
  · intro n o hn; simp [look] at hn
theorem call_core {f : FuncId} {args : List AV} {pre h : List (Name × AO)} {v : AV} {nw : List Name} {hrd : List (Nat × AV)}
    (hrun : ∀ (Γ : Ctx) (ρ : Name → Loc) (M : Nat → Prop) (s : AS) (a : Act) (w : World), Sim Γ ρ M s a w → s.holds ⟨rd, pre, v, h, nw⟩ → ∃ us : List Value, AV.Ts ρ s.heap M w args us ∧ (execOp a.eval o).run P w = .ok (.enter f us.toArray) w)
    (hspec : SpecIs P f args pre v h) (hok : callOK pre h nw v = true) : OpOK P o ⟨rd, pre, v, h, nw⟩ := by
  intro Γ ρ M s a w K Q hs hh hd hK
  obtain ⟨us, h1, h2⟩ := hrun Γ ρ M s a w hs hh
  have hpre : ∀ n ob, look n pre = some ob → s.heap n = some ob := fun n ob hn => hh.hp n ob (look_mem hn)
  have hstep : HStep ρ s.heap ρ (lookH pre) := fun n ob hn => by
    cases hc : lookH pre n with
    | none => cases ob <;> simp [stays]
    | some o' => have := hpre n o' hc; rw [hn] at this; cases this; exact stays_refl _ _
  have hnone : ∀ n, s.heap n = none → lookH pre n = none := fun n hn => by
    cases hc : lookH pre n with
    | none => rfl
    | some o' => have := hpre n o' hc; rw [hn] at this; simp at this
  unfold Oper.wp
  rw [h2, Oper.upon_enter]
  refine (hspec Γ.G ρ M w us (hs.grounded hpre) hs.msize (AV.Ts.step (Ext.refl (fun _ => False) _) (fun _ hb => hb.elim) (fun b _ hb => hb) hstep (fun n _ => hnone n) h1) (fun n ob hn => ?_) (fun n m o1 o2 b g1 g2 => hs.inj n m o1 o2 b (hpre _ _ g1) (hpre _ _ g2))).mono ?_
  · refine (hs.objs n ob (hpre n ob hn)).step (Ext.refl (fun _ => False) _) (fun _ hb => hb.elim) (fun b _ hb => hb) (fun b hb => hb) hstep (fun m _ => hnone m) rfl (fun _ _ => rfl) hs.msize
  · rintro e w' ⟨u, v', h', ρ', rfl, ⟨rfl, rfl⟩, ha⟩
    obtain ⟨k1, k2⟩ := hs.after hpre hh.nw hok ha
    exact hK _ _ _ w' ((k1.put hd (fun _ => k2)).congr (fun t => rfl) (fun m => rfl))
def callable (P : Program) (f : FuncId) : Bool := match P.funcs[f]? with
  | some fn => !(fn.name == "runtime.NumGoroutine") && fn.body.isSome
  | none => false
theorem run_callFunc {f : FuncId} (h : callable P f = true) (args : Array Value) (w : World) : (callFunc f args).run P w = .ok (.enter f args) w := by
  unfold callable at h
  cases hf : P.funcs[f]? with
  | none => simp [hf] at h
  | some fn =>
    simp only [hf, Bool.and_eq_true, Bool.not_eq_true'] at h
    have hb : fn.body.isNone = false := by cases hc : fn.body <;> simp_all
    simp only [callFunc, Sem.run_bind, run_program, Result.andThen_ok, hf, h.1, hb, Bool.false_eq_true, if_false]
    rfl
theorem OpOK.call {f : FuncId} {argOps : Array Operand} {ats : Array TypeId} {args : List AV} {pre h : List (Name × AO)} {v : AV} {nw : List Name}
    (ho : o.op = .call { callee := .value (.func f), args := argOps, argTypes := ats }) (hf : callable P f = true) (hargs : evalL rd argOps.toList = some args)
    (hspec : SpecIs P f args pre v h) (hok : callOK pre h nw v = true) : OpOK P o ⟨rd, pre, v, h, nw⟩ :=
  call_core (hrd := rd) (fun Γ ρ M s a w hs hh => ⟨argOps.toList.map a.eval, evalL_R hs hh hargs, by
    have e : (argOps.toList.map a.eval).toArray = argOps.map a.eval := by rw [← Array.toList_map]
    rw [e]
    simp [execOp, ho, resolve, Deferred.ofValue, Act.eval, invoke, run_callFunc hf]⟩) hspec hok
end
def Weak (Γ : Ctx) (s s' : AS) : Prop := ∀ (ρ : Name → Loc) (M : Nat → Prop) (a : Act) (w : World), Sim Γ ρ M s a w → ∃ ρ' M', Sim Γ ρ' M' s' a w
theorem AWp.weaken {P : Program} {Γ : Ctx} {c : Code} {s : AS} {Q : Exit → AS → Prop} (s' : AS) (h : Weak Γ s s') (h' : AWp P Γ c s' Q) : AWp P Γ c s Q := fun ρ M a w hs => by
  obtain ⟨ρ', M', hs'⟩ := h ρ M a w hs
  exact h' ρ' M' a w hs'
theorem AWp.post {P : Program} {Γ : Ctx} {c : Code} {s : AS} {Q : Exit → AS → Prop} (h : AWp P Γ c s fun e s' => ∃ s'', Weak Γ s' s'' ∧ Q e s'') : AWp P Γ c s Q := fun ρ M a w hs =>
  wp_mono (h ρ M a w hs) fun e a' w' ⟨s', ρ', M', ⟨s'', h1, h2⟩, h3⟩ => by
    obtain ⟨ρ2, M2, h4⟩ := h1 ρ' M' a' w' h3
    exact ⟨s'', ρ2, M2, h2, h4⟩
theorem Weak.refl (Γ : Ctx) (s : AS) : Weak Γ s s := fun ρ M a w h => ⟨ρ, M, h⟩
theorem Weak.trans {Γ : Ctx} {s s' s'' : AS} (h : Weak Γ s s') (h' : Weak Γ s' s'') : Weak Γ s s'' := fun ρ M a w hs => by
  obtain ⟨ρ', M', h1⟩ := h ρ M a w hs
  exact h' ρ' M' a w h1
def PVle (x y : PV) : Prop := ∀ (M : Nat → Prop) (w : World) (u : Value), x.R M w u → y.R M w u
theorem PVle.refl (x : PV) : PVle x x := fun _ _ _ h => h
def CsLe : List PV → List PV → Prop
  | [], [] => True
  | x :: xs, y :: ys => PVle x y ∧ CsLe xs ys
  | _, _ => False
def RowsLe : List (List PV) → List (List PV) → Prop
  | [], [] => True
  | r :: rs, q :: qs => CsLe r q ∧ RowsLe rs qs
  | _, _ => False
theorem CsLe.refl : ∀ (cs : List PV), CsLe cs cs
  | [] => trivial
  | x :: xs => ⟨PVle.refl x, CsLe.refl xs⟩
theorem RowsLe.refl : ∀ (rs : List (List PV)), RowsLe rs rs
  | [] => trivial
  | x :: xs => ⟨CsLe.refl x, RowsLe.refl xs⟩
theorem RowsLe.append : ∀ {a b c d : List (List PV)}, RowsLe a b → RowsLe c d → RowsLe (a ++ c) (b ++ d)
  | [], [], c, d, _, h => h
  | x :: xs, y :: ys, c, d, h, h' => ⟨h.1, RowsLe.append h.2 h'⟩
  | [], _ :: _, _, _, h, _ => h.elim
  | _ :: _, [], _, _, h, _ => h.elim
theorem CsLe.length : ∀ {cs ds : List PV}, CsLe cs ds → cs.length = ds.length
  | [], [], _ => rfl
  | x :: xs, y :: ys, h => by simp [CsLe.length h.2]
  | [], _ :: _, h => h.elim
  | _ :: _, [], h => h.elim
theorem RowsLe.length : ∀ {cs ds : List (List PV)}, RowsLe cs ds → cs.length = ds.length
  | [], [], _ => rfl
  | x :: xs, y :: ys, h => by simp [RowsLe.length h.2]
  | [], _ :: _, h => h.elim
  | _ :: _, [], h => h.elim
theorem CsLe.cells {M : Nat → Prop} {w : World} {b : Nat} : ∀ {off : Nat} {cs ds : List PV}, CsLe cs ds → PV.Cells M w b off cs → PV.Cells M w b off ds
  | _, [], [], _, h => h
  | off, x :: xs, y :: ys, h, h' => by
    simp only [PV.Cells] at h' ⊢
    obtain ⟨⟨u, hu, hr⟩, h2⟩ := h'
    exact ⟨⟨u, hu, h.1 _ _ _ hr⟩, CsLe.cells h.2 h2⟩
  | _, [], _ :: _, h, _ => h.elim
  | _, _ :: _, [], h, _ => h.elim
theorem RowsLe.rows {M : Nat → Prop} {w : World} {b es : Nat} : ∀ {off : Nat} {cs ds : List (List PV)}, RowsLe cs ds → PV.Rows M w b es off cs → PV.Rows M w b es off ds
  | _, [], [], _, h => h
  | off, x :: xs, y :: ys, h, h' => by
    simp only [PV.Rows] at h' ⊢
    exact ⟨h.1.length ▸ h'.1, CsLe.cells h.1 h'.2.1, RowsLe.rows h.2 h'.2.2⟩
  | _, [], _ :: _, h, _ => h.elim
  | _, _ :: _, [], h, _ => h.elim
theorem PVle.sl {f f' : Bool} {es : Nat} {rs qs : List (List PV)} (hf : f' = true → f = true) (h : RowsLe rs qs) : PVle (.sl f es rs) (.sl f' es qs) := fun M w u hr => by
  simp only [PV.R] at hr ⊢
  obtain ⟨a, cap, h1, h2, h3, h4, h5⟩ := hr
  refine ⟨a, cap, by rw [← h.length]; exact h1, by rw [← h.length]; exact h2, fun hf' => by rw [← h.length]; exact h3 (hf hf'), h4, fun ad had hc => ?_⟩
  obtain ⟨g1, g2, g3, g4⟩ := h5 ad had hc
  exact ⟨g1, g2, g3, h.rows g4⟩
theorem PVle.full {es : Nat} {rs : List (List PV)} (f : Bool) : PVle (.sl f es rs) (.sl false es rs) := PVle.sl (fun h => by simp at h) (RowsLe.refl rs)
theorem PVle.nil {f f' : Bool} {es es' : Nat} (hf : f' = true → f = true) : PVle (.sl f es []) (.sl f' es' []) := fun M w u hr => by
  simp only [PV.R, PV.Rows] at hr ⊢
  obtain ⟨a, cap, h1, h2, h3, h4, h5⟩ := hr
  exact ⟨a, cap, h1, h2, fun hf' => h3 (hf hf'), h4, h5⟩
mutual
inductive AVle : AV → AV → Prop
  | refl (x : AV) : AVle x x
  | p {x y : PV} (h : PVle x y) : AVle (.p x) (.p y)
  | agg {xs ys : List AV} (h : AVleL xs ys) : AVle (.agg xs) (.agg ys)
  | any {x : AV} (h : (cellsAV x).isSome = true) (h2 : ∀ cs, x ≠ .agg cs) : AVle x .any
  /-- A header of the whole array is a view of it. -/
  | view (n : Name) (len : Nat) : AVle (.own n len) (.view n len 0 len)
  /-- No pointer. -/
  | snil (n : Name) : AVle (.p (.v (.pointer none))) (.sref n)
inductive AVleL : List AV → List AV → Prop
  | nil : AVleL [] []
  | cons {x y : AV} {xs ys : List AV} (h : AVle x y) (h' : AVleL xs ys) : AVleL (x :: xs) (y :: ys)
end
theorem AVle.sound {ρ : Name → Loc} {H : Heap} {M : Nat → Prop} {w : World} {x y : AV} (h : AVle x y) : ∀ u, x.R ρ H M w u → y.R ρ H M w u := by
  refine AVle.rec (motive_1 := fun x y _ => ∀ u, x.R ρ H M w u → y.R ρ H M w u) (motive_2 := fun xs ys _ => ∀ us, AV.Rs ρ H M w xs us → AV.Rs ρ H M w ys us) ?_ ?_ ?_ ?_ ?_ ?_ ?_ ?_ h
  · exact fun x u hr => hr
  · intro x y hxy u hr
    simp only [AV.R] at hr ⊢
    exact hxy _ _ _ hr
  · intro xs ys _ ih u hr
    simp only [AV.R] at hr ⊢
    grind
  · intro x hx hne u hr
    have : ∀ cs, cellsAV x = some cs → x.R ρ H M w u → u.oneCell' = true := by
      intro cs hcs hr
      have h1 := cellsAV_R hcs hr
      cases x with
      | agg cs => exact absurd rfl (hne cs)
      | tup vs => simp [cellsAV] at hcs
      | p y => simp only [AV.R] at hr; exact hr.flat
      | oref b n => simp only [AV.R] at hr; exact hr.1
      | ref n k => simp only [AV.R] at hr; exact hr.1
      | sref n => simp only [AV.R] at hr; exact hr.1
      | own n k => simp only [AV.R] at hr; exact hr.1
      | aref n a b c => simp only [AV.R] at hr; exact hr.1
      | view n a b c => simp only [AV.R] at hr; exact hr.1
      | cut n a b => simp only [AV.R] at hr; exact hr.1
      | eptr cells => simp only [AV.R] at hr; obtain ⟨ad, rfl, _⟩ := hr; rfl
      | clo f a b => simp only [AV.R] at hr; obtain ⟨a, c, rfl, _⟩ := hr; rfl
      | err b => simp only [AV.R] at hr; exact hr.1
      | ub => simp only [AV.R] at hr; obtain ⟨q, rfl⟩ := hr; rfl
      | any => simpa only [AV.R] using hr
    obtain ⟨cs, hcs⟩ := Option.isSome_iff_exists.1 hx
    simp only [AV.R]
    exact this cs hcs hr
  · intro n len u hr
    have hz : ∀ x : Addr, x.add 0 = x := fun x => by
      obtain ⟨b0, o0, s0⟩ := x
      cases s0 <;> simp [Addr.add]
    simp only [AV.R] at hr ⊢
    refine ⟨hr.1, Nat.zero_le _, Nat.le_refl _, fun o es k ho hsh => ⟨(hr.2 o es k ho hsh).1, fun e => ?_⟩⟩
    rw [(hr.2 o es k ho hsh).2 e]
    cases hb : (ρ n).base with
    | none => simp [viewV]
    | some x => simp [viewV, hz]
  · intro n u hr
    simp only [AV.R, PV.R] at hr ⊢
    exact ⟨by rw [hr.1]; rfl, fun _ _ => .inl hr.1⟩
  · exact fun us h => h
  · intro a b as1 bs _ _ ih1 ih2 us hr
    simp only [AV.Rs] at hr ⊢
    grind
theorem Rs_le {ρ : Name → Loc} {H : Heap} {M : Nat → Prop} {w : World} {xs ys : List AV} (h : AVleL xs ys) : ∀ us, AV.Rs ρ H M w xs us → AV.Rs ρ H M w ys us := by
  intro us hr
  have : AV.R ρ H M w (.agg ys) (.agg us.toArray) := (AVle.agg h).sound _ (by simp only [AV.R]; exact ⟨us.toArray, rfl, by simpa using hr⟩)
  simp only [AV.R] at this
  simp_all
inductive AOle : AO → AO → Prop
  | refl (x : AO) : AOle x x
  | box {xs ys : List AV} (h : AVleL xs ys) : AOle (.box xs) (.box ys)
  | arr {es : Nat} {rs qs : List (List PV)} (h : RowsLe rs qs) : AOle (.arr es rs) (.arr es qs)
  | hole {es : Nat} {pre post : List (List PV)} {xs ys : List AV} (h : AVleL xs ys) : AOle (.hole es pre xs post) (.hole es pre ys post)
  /-- One row of an array comes to the fore. -/
  | focus {es : Nat} {rows pre post : List (List PV)} {r : List PV} {row : List AV} (hr : rows = pre ++ r :: post) (hrow : row = r.map .p) : AOle (.arr es rows) (.hole es pre row post)
  | unfocus {es : Nat} {rows pre post : List (List PV)} {r : List PV} {row : List AV} (hr : rows = pre ++ r :: post) (hrow : row = r.map .p) : AOle (.hole es pre row post) (.arr es rows)
theorem AVleL.len {xs ys : List AV} (h : AVleL xs ys) : xs.length = ys.length := by
  have := AVleL.rec (motive_1 := fun _ _ _ => True) (motive_2 := fun xs ys _ => xs.length = ys.length) (by intros; trivial) (by intros; trivial) (by intros; trivial) (by intros; trivial) (by intros; trivial) (by intros; trivial) (by rfl) (by intros; simp_all) h
  exact this
theorem stays_of_shape {o o' o2 : AO} {l l' : Loc} {es k : Nat} (h1 : o'.shape = some (es, k)) (h2 : o2.shape = some (es, k)) (hs : stays o l (some o') l') : stays o l (some o2) l' := by
  cases o <;> cases o' <;> cases o2 <;> simp only [stays, AO.shape, reduceCtorEq, Option.some.injEq, Prod.mk.injEq] at h1 h2 hs ⊢
  all_goals simp_all
theorem stays_le {o o' o2 : AO} {l l' : Loc} (h : AOle o' o2) (hs : stays o l (some o') l') : stays o l (some o2) l' := by
  cases h with
  | refl => exact hs
  | box h => cases o <;> simp only [stays] at hs ⊢ <;> exact hs
  | arr h => cases o <;> simp only [stays] at hs ⊢ <;> first | exact hs | (rw [← h.length]; exact hs)
  | hole h => exact stays_of_shape rfl rfl hs
  | focus hr hrow => subst hr; exact stays_of_shape (es := _) (k := _) rfl (by simp [AO.shape]; omega) hs
  | unfocus hr hrow => subst hr; exact stays_of_shape (es := _) (k := _) rfl (by simp [AO.shape]; omega) hs
mutual
inductive Frz (px : Value → Prop) (n : Name) (es : Nat) (rows : List (List PV)) : AV → AV → Prop
  | same {x : AV} (h : x.has n = false) : Frz px n es rows x x
  | own : Frz px n es rows (.own n rows.length) (.p (.sl false es rows))
  | view {lo hi : Nat} : Frz px n es rows (.view n rows.length lo hi) (.p (.sl false es ((rows.take hi).drop lo)))
  | pin {x : Value} (h : px x) : Frz px n es rows (.p (.v x)) (.p (.sl false es rows))
  | agg {xs ys : List AV} (h : FrzL px n es rows xs ys) : Frz px n es rows (.agg xs) (.agg ys)
inductive FrzL (px : Value → Prop) (n : Name) (es : Nat) (rows : List (List PV)) : List AV → List AV → Prop
  | nil : FrzL px n es rows [] []
  | cons {x y : AV} {xs ys : List AV} (h : Frz px n es rows x y) (h' : FrzL px n es rows xs ys) : FrzL px n es rows (x :: xs) (y :: ys)
end
def TsFrz (px : Value → Prop) (n : Name) (es : Nat) (rows : List (List PV)) : List (Nat × AV) → List (Nat × AV) → Prop
  | [], [] => True
  | (k, x) :: r, (j, y) :: q => k = j ∧ Frz px n es rows x y ∧ TsFrz px n es rows r q
  | _, _ => False
def RowsPin (px : Value → Prop) (es : Nat) (rows rs qs : List (List PV)) : Prop :=
  rs.length = qs.length ∧ ∀ (i : Nat) (r q : List PV), rs[i]? = some r → qs[i]? = some q → r.length = q.length ∧ ∀ (j : Nat) (c d : PV), r[j]? = some c → q[j]? = some d → c = d ∨ ∃ x, px x ∧ c = .v x ∧ d = .sl false es rows
inductive OFrz (px : Value → Prop) (n : Name) (es : Nat) (rows : List (List PV)) : AO → AO → Prop
  | same {x : AO} (h : x.has n = false) : OFrz px n es rows x x
  | box {xs ys : List AV} (h : FrzL px n es rows xs ys) : OFrz px n es rows (.box xs) (.box ys)
  | hole {es' : Nat} {pre post : List (List PV)} {xs ys : List AV} (h : FrzL px n es rows xs ys) : OFrz px n es rows (.hole es' pre xs post) (.hole es' pre ys post)
  | arr {es' : Nat} {rs qs : List (List PV)} (h : RowsPin px es rows rs qs) : OFrz px n es rows (.arr es' rs) (.arr es' qs)
def HsFrz (px : Value → Prop) (n : Name) (es : Nat) (rows : List (List PV)) : List (Name × AO) → List (Name × AO) → Prop
  | [], [] => True
  | (k, x) :: r, (j, y) :: q => k = j ∧ k ≠ n ∧ OFrz px n es rows x y ∧ HsFrz px n es rows r q
  | _, _ => False
theorem TsFrz.look {px : Value → Prop} {n : Name} {es : Nat} {rows : List (List PV)} : ∀ {ts ts' : List (Nat × AV)}, TsFrz px n es rows ts ts' → ∀ t y, AM.look t ts' = some y → ∃ x, AM.look t ts = some x ∧ Frz px n es rows x y
  | [], [], _, t, y, h => by simp [AM.look] at h
  | (k, x) :: r, (j, y0) :: q, h, t, y, hy => by
    obtain ⟨rfl, h2, h3⟩ := h
    simp only [AM.look] at hy ⊢
    split at hy
    · rename_i e; cases hy; exact ⟨x, by simp [e], h2⟩
    · rename_i e; simp only [e, if_false]; exact TsFrz.look h3 t y hy
  | [], _ :: _, h, _, _, _ => h.elim
  | _ :: _, [], h, _, _, _ => h.elim
theorem HsFrz.look {px : Value → Prop} {n : Name} {es : Nat} {rows : List (List PV)} : ∀ {ts ts' : List (Name × AO)}, HsFrz px n es rows ts ts' → ∀ t, (∀ y, AM.look t ts' = some y → t ≠ n ∧ ∃ x, AM.look t ts = some x ∧ OFrz px n es rows x y) ∧ (∀ x, AM.look t ts = some x → ∃ y, AM.look t ts' = some y ∧ OFrz px n es rows x y)
  | [], [], _, t => by simp [AM.look]
  | (k, x) :: r, (j, y0) :: q, h, t => by
    obtain ⟨rfl, h1, h2, h3⟩ := h
    simp only [AM.look]
    split
    · rename_i e; subst e; exact ⟨fun y hy => by cases hy; exact ⟨h1, x, rfl, h2⟩, fun y hy => by cases hy; exact ⟨y0, rfl, h2⟩⟩
    · exact HsFrz.look h3 t
  | [], _ :: _, h, _ => h.elim
  | _ :: _, [], h, _ => h.elim
theorem OFrz.stays {px : Value → Prop} {n : Name} {es : Nat} {rows : List (List PV)} {o o' o2 : AO} {l l' : Loc} (h : OFrz px n es rows o' o2) (hs : stays o l (some o') l') : AM.stays o l (some o2) l' := by
  cases h with
  | same => exact hs
  | box h => cases o <;> simp only [AM.stays] at hs ⊢ <;> exact hs
  | hole h => exact stays_of_shape rfl rfl hs
  | arr h => exact stays_of_shape rfl (by simp [AO.shape, h.1]) hs
theorem FrzL.len {px : Value → Prop} {n : Name} {es : Nat} {rows : List (List PV)} {xs ys : List AV} (h : FrzL px n es rows xs ys) : xs.length = ys.length := by
  have := FrzL.rec (px := px) (n := n) (es := es) (rows := rows) (motive_1 := fun _ _ _ => True) (motive_2 := fun xs ys _ => xs.length = ys.length) (by intros; trivial) (by trivial) (by intros; trivial) (by intros; trivial) (by intros; trivial) (by rfl) (by intros; simp_all) h
  exact this
theorem freeze_sim {Γ : Ctx} {px : Value → Prop} {n : Name} {es : Nat} {rows : List (List PV)} {ts ts' : List (Nat × AV)} {hs hs' : List (Name × AO)} (hn : n ∉ Γ.names) (h1 : TsFrz px n es rows ts ts') (h2 : HsFrz px n es rows hs hs')
    {ρ : Name → Loc} {M : Nat → Prop} {a : Act} {w : World} (h : Sim Γ ρ M (mk ts ((n, .arr es rows) :: hs)) a w)
    (hpx : ∀ x, px x → AV.R ρ (mk ts ((n, .arr es rows) :: hs)).heap M w (.own n rows.length) x) : ∃ ρ' M', Sim Γ ρ' M' (mk ts' hs') a w := by
  have hobj : ObjAt ρ (mk ts ((n, .arr es rows) :: hs)).heap M w n (.arr es rows) := h.objs n _ (by simp [mk, AM.look])
  let M' : Nat → Prop := fun b => M b ∧ (ρ n).blk ≠ some b
  have hup : ∀ t x, AM.look t hs = some x → t ≠ n → (mk ts ((n, .arr es rows) :: hs)).heap t = some x := fun t x hx hne => by
    simp only [mk, AM.look, if_neg (Ne.symm hne), hx]
  have hdown : ∀ t x, (mk ts ((n, .arr es rows) :: hs)).heap t = some x → t ≠ n → AM.look t hs = some x := fun t x hx hne => by
    simpa only [mk, AM.look, if_neg (Ne.symm hne)] using hx
  have hnn' : (mk ts' hs').heap n = none := by
    cases hc : (mk ts' hs').heap n with
    | none => rfl
    | some y => exact absurd rfl ((h2.look n).1 y hc).1
  have hst : HStep ρ (mk ts ((n, .arr es rows) :: hs)).heap ρ (mk ts' hs').heap := fun m ob hm => by
    by_cases e : m = n
    · subst e; rw [hnn']; cases ob <;> simp [AM.stays]
    · obtain ⟨y, hy, hf⟩ := (h2.look m).2 ob (hdown m ob hm e)
      change stays ob (ρ m) (AM.look m hs') (ρ m)
      rw [hy]
      exact hf.stays (stays_refl _ _)
  have hnn : ∀ m, (mk ts ((n, .arr es rows) :: hs)).heap m = none → (mk ts' hs').heap m = none := fun m hm => by
    cases hc : (mk ts' hs').heap m with
    | none => rfl
    | some y =>
      obtain ⟨hne, x, hx, _⟩ := (h2.look m).1 y hc
      simp_all
  have hMM : ∀ b, b < w.heap.size → M' b → M b := fun b _ hb => hb.1
  have hconv : ∀ {x : AV} {u : Value}, x.R ρ (mk ts ((n, .arr es rows) :: hs)).heap M w u → x.R ρ (mk ts' hs').heap M' w u := fun hr =>
    hr.step (Ext.refl (fun _ => False) _) (fun _ hb => hb.elim) hMM hst (fun m _ => hnn m)
  have hown : ∀ u, AV.R ρ (mk ts ((n, .arr es rows) :: hs)).heap M w (.own n rows.length) u → AV.R ρ (mk ts' hs').heap M' w (.p (.sl false es rows)) u := fun u hr => by
    simp only [AV.R] at hr ⊢
    have hu := (hr.2 (.arr es rows) es rows.length (by simp [mk, AM.look]) rfl).2 rfl
    obtain ⟨k0, k1, k2⟩ := hobj
    simp only [PV.R]
    refine ⟨(ρ n).base, (ρ n).cap, hu, k1, fun hf => by simp at hf, fun hb => ?_, fun ad had hc => ?_⟩
    · simp_all
    · rcases k2 with k2 | ⟨b, T, cs, q1, q2, q3, q4, q5⟩
      · exact absurd k2 hc
      · rw [q1] at had; cases had
        refine ⟨rfl, fun hm => hm.2 (by simp [Loc.blk, hc, q1]), h.msize _ q2, ?_⟩
        exact q5.mono (M' := M') (Ext.refl (fun _ => False) w) (fun _ hb => hb.elim) hMM (fun hb => hb) (h.msize _ q2)
  have hview : ∀ {lo hi : Nat}, ∀ u, AV.R ρ (mk ts ((n, .arr es rows) :: hs)).heap M w (.view n rows.length lo hi) u → AV.R ρ (mk ts' hs').heap M' w (.p (.sl false es ((rows.take hi).drop lo))) u := fun {lo hi} u hr => by
    simp only [AV.R] at hr ⊢
    obtain ⟨_, hl1, hl2, hr2⟩ := hr
    have hu := (hr2 (.arr es rows) es rows.length (by simp [mk, AM.look]) rfl).2 rfl
    obtain ⟨k0, k1, k2⟩ := hobj
    simp only [PV.R, List.length_drop, List.length_take, Nat.min_eq_left hl2]
    simp only [viewV] at hu
    refine ⟨_, _, hu, by omega, fun hf => by simp at hf, fun hb => ?_, fun ad had hc => ?_⟩
    · grind
    · rw [if_neg (by omega)] at had
      rcases k2 with k2 | ⟨b, T, cs, q1, q2, q3, q4, q5⟩
      · omega
      · rw [q1] at had
        simp only [Option.map_some, Option.some.injEq] at had
        rw [addr_add] at had
        subst had
        have hcap : (ρ n).cap ≠ 0 := by omega
        refine ⟨rfl, fun hm => hm.2 (by simp [Loc.blk, hcap, q1]), h.msize _ q2, ?_⟩
        exact ((q5.take hi).drop lo).mono (M' := M') (Ext.refl (fun _ => False) w) (fun _ hb => hb.elim) hMM (fun hb => hb) (h.msize _ q2)
  have hfrz : ∀ {x y : AV}, Frz px n es rows x y → ∀ u, x.R ρ (mk ts ((n, .arr es rows) :: hs)).heap M w u → y.R ρ (mk ts' hs').heap M' w u := by
    intro x y hxy
    refine Frz.rec (motive_1 := fun x y _ => ∀ u, x.R ρ (mk ts ((n, .arr es rows) :: hs)).heap M w u → y.R ρ (mk ts' hs').heap M' w u) (motive_2 := fun xs ys _ => ∀ us, AV.Rs ρ (mk ts ((n, .arr es rows) :: hs)).heap M w xs us → AV.Rs ρ (mk ts' hs').heap M' w ys us) ?_ ?_ ?_ ?_ ?_ ?_ ?_ hxy
    · simp_all
    · exact hown
    · omega
    · intro x hx u hr
      simp only [AV.R, PV.R] at hr
      simp_all
    · intro xs ys _ ih u hr
      simp only [AV.R] at hr ⊢
      grind
    · intro us hr; simp only [AV.Rs] at hr ⊢; exact hr
    · intro a b as1 bs _ _ ih1 ih2 us hr
      simp only [AV.Rs] at hr ⊢
      grind
  have hfrzs : ∀ {xs ys : List AV}, FrzL px n es rows xs ys → ∀ us, AV.Rs ρ (mk ts ((n, .arr es rows) :: hs)).heap M w xs us → AV.Rs ρ (mk ts' hs').heap M' w ys us := by
    intro xs ys hxy us hr
    have : AV.R ρ (mk ts' hs').heap M' w (.agg ys) (.agg us.toArray) := hfrz (Frz.agg hxy) _ (by simp only [AV.R]; exact ⟨us.toArray, rfl, by simpa using hr⟩)
    simp only [AV.R] at this
    simp_all
  have hblk : ∀ m x, m ≠ n → (mk ts ((n, .arr es rows) :: hs)).heap m = some x → ∀ b, (ρ m).blk = some b → (ρ n).blk ≠ some b := fun m x hne hx b hb hb' =>
    hne (h.inj m n x _ b hx (by simp [mk, AM.look]; rfl) hb hb')
  refine ⟨ρ, M', h.n, h.d, fun t y hy => ?_, fun m y hy => ?_, fun m m' o o' b g1 g2 => ?_, fun m o b g1 g2 => ?_, fun m hm => ?_, h.ext, fun b hb => ⟨h.mext b hb, fun hb' => ?_⟩, fun b hb => h.msize b hb.1, h.m0, h.ground⟩
  · obtain ⟨x, hx, hf⟩ := h1.look t y hy
    obtain ⟨u, hu, hr⟩ := h.slots t x hx
    grind
  · obtain ⟨hne, x, hx, hf⟩ := (h2.look m).1 y hy
    have hx' := hup m x hx hne
    have hob := h.objs m x hx'
    have hob' : ObjAt ρ (mk ts' hs').heap M' w m y := by
      cases hf with
      | same hh =>
        cases y with
        | box cells =>
          obtain ⟨b, T, cs, k1, k2, k3, k4⟩ := hob
          exact ⟨b, T, cs, k1, ⟨k2, hblk m _ hne hx' b (by rw [k1]; simp [Loc.blk])⟩, k3, k4.step (Ext.refl (fun _ => False) _) (fun _ hb => hb.elim) hMM hst (fun m _ => hnn m)⟩
        | arr es' rows' =>
          obtain ⟨k0, k1, k2⟩ := hob
          refine ⟨k0, k1, ?_⟩
          by_cases hc : (ρ m).cap = 0
          · exact .inl hc
          · rcases k2 with k2 | ⟨b, T, cs, q1, q2, q3, q4, q5⟩
            · exact .inl k2
            · exact .inr ⟨b, T, cs, q1, ⟨q2, hblk m _ hne hx' b (by simp [Loc.blk, hc, q1])⟩, q3, q4, q5.mono (M' := M') (Ext.refl (fun _ => False) w) (fun _ hb => hb.elim) hMM (fun hb => hb) (h.msize _ q2)⟩
        | hole es' pre row post =>
          obtain ⟨k0, k0', k1, b, T, cs, k3, k4, k5, k6, k7, k8, k9⟩ := hob
          exact ⟨k0, k0', k1, b, T, cs, k3, ⟨k4, hblk m _ hne hx' b (by unfold Loc.blk; rw [if_neg (by omega), k3]; rfl)⟩, k5, k6, k7.stepB (Ext.refl (fun _ => False) w) (fun _ hb => hb.elim) hMM rfl,
            k8.step (Ext.refl (fun _ => False) _) (fun _ hb => hb.elim) hMM hst (fun m _ => hnn m), k9.stepB (Ext.refl (fun _ => False) w) (fun _ hb => hb.elim) hMM rfl⟩
        | fact a x => exact ⟨hob.1, hconv hob.2⟩
        | obj x =>
          obtain ⟨b, k1, k2, k3⟩ := hob
          exact ⟨b, k1, ⟨k2, hblk m _ hne hx' b (by rw [k1]; simp [Loc.blk])⟩, k3⟩
      | hole hcs =>
        obtain ⟨k0, k0', k1, b, T, cs, k3, k4, k5, k6, k7, k8, k9⟩ := hob
        exact ⟨k0, by rw [← hcs.len]; exact k0', k1, b, T, cs, k3, ⟨k4, hblk m _ hne hx' b (by unfold Loc.blk; rw [if_neg (by omega), k3]; rfl)⟩, k5, k6, k7.stepB (Ext.refl (fun _ => False) w) (fun _ hb => hb.elim) hMM rfl,
          hfrzs hcs _ k8, k9.stepB (Ext.refl (fun _ => False) w) (fun _ hb => hb.elim) hMM rfl⟩
      | arr hq =>
        obtain ⟨k0, k1, k2⟩ := hob
        refine ⟨k0, by rw [← hq.1]; exact k1, ?_⟩
        by_cases hc : (ρ m).cap = 0
        · exact .inl hc
        · rcases k2 with k2 | ⟨b, T, cs, q1, q2, q3, q4, q5⟩
          · exact .inl k2
          · refine .inr ⟨b, T, cs, q1, ⟨q2, hblk m _ hne hx' b (by simp [Loc.blk, hc, q1])⟩, q3, q4, PV.Rows.of_get fun i q hi => ?_⟩
            rename_i rs qs
            have hil : i < rs.length := by rw [hq.1]; exact (List.getElem?_eq_some_iff.1 hi).1
            obtain ⟨g1, g2⟩ := q5.get i rs[i] (by simp [hil])
            obtain ⟨e1, e2⟩ := hq.2 i rs[i] q (by simp [hil]) hi
            refine ⟨by rw [← e1]; exact g1, PV.Cells.of_get fun j d hj => ?_⟩
            have hjl : j < rs[i].length := by rw [e1]; exact (List.getElem?_eq_some_iff.1 hj).1
            obtain ⟨u, hu, hr⟩ := g2.get j rs[i][j] (by simp [hjl])
            refine ⟨u, hu, ?_⟩
            rcases e2 j rs[i][j] d (by simp [hjl]) hj with e | ⟨x, hx, hc1, hd1⟩
            · rw [← e]
              exact hr.mono (M' := M') (Ext.refl (fun _ => False) w) (fun _ hb => hb.elim) hMM
            · rw [hc1] at hr
              simp only [PV.R] at hr
              have := hown x (hpx x hx)
              simp only [AV.R] at this
              simp_all
      | box hcs =>
        obtain ⟨b, T, cs, k1, k2, k3, k4⟩ := hob
        exact ⟨b, T, cs, k1, ⟨k2, hblk m _ hne hx' b (by rw [k1]; simp [Loc.blk])⟩, k3, hfrzs hcs _ k4⟩
    exact hob'
  · obtain ⟨hne, x, hx, _⟩ := (h2.look m).1 o g1
    obtain ⟨hne', x', hx', _⟩ := (h2.look m').1 o' g2
    exact h.inj m m' x x' b (hup m x hx hne) (hup m' x' hx' hne')
  · obtain ⟨hne, x, hx, _⟩ := (h2.look m).1 o g1
    exact h.own0 m x b (hup m x hx hne) g2
  · obtain ⟨x, hx, hst'⟩ := h.keep m hm
    have hne : m ≠ n := fun e => hn (e ▸ hm)
    obtain ⟨y, hy, hf⟩ := (h2.look m).2 x (hdown m x hx hne)
    exact ⟨y, hy, hf.stays hst'⟩
  · rcases h.own0 n _ b (by simp [mk, AM.look]; rfl) hb' with ⟨k1, _⟩ | k1
    · exact hn k1
    · have := h.m0 b hb; omega
theorem Weak.freeze {Γ : Ctx} {n : Name} {es : Nat} {rows : List (List PV)} {ts ts' : List (Nat × AV)} {hs hs' : List (Name × AO)} (hn : n ∉ Γ.names) (h1 : TsFrz (fun _ => False) n es rows ts ts') (h2 : HsFrz (fun _ => False) n es rows hs hs') :
    Weak Γ (mk ts ((n, .arr es rows) :: hs)) (mk ts' hs') := fun ρ M a w h => freeze_sim hn h1 h2 h (fun _ hx => hx.elim)
open Go
section
variable {P : Program} {ops : Array Oper} {i : Nat}
end
section
variable {P : Program} {Γ : Ctx} {s : AS} {Q : Exit → AS → Prop}
end
section
variable {P : Program} {s : AS}
end
abbrev vB (b : Bool) : AV := .p (.v (.bool b))
abbrev pI (n : Int) : PV := .v (.int .i64 n)
abbrev pK (k : IntKind) (n : Int) : PV := .v (.int k n)
abbrev pB (b : Bool) : PV := .v (.bool b)
abbrev pS (s : ByteArray) : PV := .v (.string s)
namespace D
abbrev cInt (n : Int) : List PV := [pI n]
abbrev cK (k : IntKind) (n : Int) : List PV := [pK k n]
abbrev cBool (b : Bool) : List PV := [pB b]
abbrev cStr (s : ByteArray) : List PV := [pS s]
end D
def nth {α : Type} [Inhabited α] (l : List α) (i : Nat) : α := l.getD i default
theorem bytes_eq (x y : ByteArray) : (x.toList == y.toList) = decide (x = y) := by
  rw [ByteArray.toList_eq, ByteArray.toList_eq]
  by_cases h : x = y
  · subst h; simp
  · have : ¬ x.data.toList = y.data.toList := fun e => h (by
      cases x; cases y
      have e' := Array.toList_inj.1 e
      simp only at e'
      rw [e'])
    rw [decide_eq_false h]
    exact beq_eq_false_iff_ne.2 this
section
variable {P : Program} {o : Oper} {rd : List (Nat × AV)}
theorem OpOK.eqlS {T T' : TypeId} {x y : Operand} {a b : ByteArray} {q : Bool} (ho : o.op = .binOp .eql T x y T') (hx : evalO rd x = some (.p (.v (.string a)))) (hy : evalO rd y = some (.p (.v (.string b)))) (hr : decide (a = b) = q) : OpOK P o ⟨rd, [], .p (.v (.bool q)), [], []⟩ :=
  OpOK.bin ho hx hy (eqGuard_at_string ..) (fun w => by simp only [binOp, Op.stringOp, bytes_eq, hr]; rfl) rfl
theorem OpOK.neqS {T T' : TypeId} {x y : Operand} {a b : ByteArray} {q : Bool} (ho : o.op = .binOp .neq T x y T') (hx : evalO rd x = some (.p (.v (.string a)))) (hy : evalO rd y = some (.p (.v (.string b)))) (hr : decide (a ≠ b) = q) : OpOK P o ⟨rd, [], .p (.v (.bool q)), [], []⟩ :=
  OpOK.bin ho hx hy (eqGuard_at_string ..) (fun w => by rw [← hr]; simp only [binOp, Op.stringOp, bytes_eq, decide_not]; rfl) rfl
theorem run_equal_bool {w : World} {T : TypeId} {a b : Bool} (h : P.underlying T = some .bool) : (Op.equal T (.bool a) (.bool b)).run P w = .ok (a == b) w := by
  unfold Op.equal
  rw [show Op.maxDepth = (Op.maxDepth - 1) + 1 from rfl]
  simp [Op.equalIn, run_underlying h]
theorem OpOK.eqlB {T T' : TypeId} {x y : Operand} {a b : Bool} {q : Bool} (ho : o.op = .binOp .eql T x y T') (hT : P.underlying T = some .bool) (hx : evalO rd x = some (.p (.v (.bool a)))) (hy : evalO rd y = some (.p (.v (.bool b)))) (hr : decide (a = b) = q) : OpOK P o ⟨rd, [], .p (.v (.bool q)), [], []⟩ :=
  OpOK.bin ho hx hy (eqGuard_at_bool ..) (fun w => by rw [← hr]; simp only [binOp, Sem.run_bind, run_equal_bool hT, Result.andThen_ok]; cases a <;> cases b <;> rfl) rfl
theorem OpOK.neqB {T T' : TypeId} {x y : Operand} {a b : Bool} {q : Bool} (ho : o.op = .binOp .neq T x y T') (hT : P.underlying T = some .bool) (hx : evalO rd x = some (.p (.v (.bool a)))) (hy : evalO rd y = some (.p (.v (.bool b)))) (hr : decide (a ≠ b) = q) : OpOK P o ⟨rd, [], .p (.v (.bool q)), [], []⟩ :=
  OpOK.bin ho hx hy (eqGuard_at_bool ..) (fun w => by rw [← hr]; simp only [binOp, Sem.run_bind, run_equal_bool hT, Result.andThen_ok]; cases a <;> cases b <;> rfl) rfl
end
end Go.Proofs.YtkfmncmhagpajaaGreatDoor.AM
