/-
  The kit's contracts on strconv, laid by laydec.py at this seat (numbers are the seat's).
-/
import Derived.Shelf.Strconv.ToError
import Derived.Shelf.Strconv.ToErrorRange
import Derived.Shelf.Strconv.ParseUint10At
import Derived.Shelf.Strconv.Itoa1
import Derived.Shelf.Strconv.Itoa2
import Derived.Shelf.Strconv.Itoa3
import Derived.Shelf.Strings.Builder1
import Derived.Test.YtgciifalclgeeaaGreatDoorProg
import Derived.WalkKit
import Derived.WalkSpells
import Derived.Deep.QuietTactic
import Derived.BigQuiet
import Derived.StillTailTactics
import Derived.Deep.RegionWith
import Derived.Deep.RegionLaw
import Derived.Deep.RegionHeld3
import Derived.Deep.DeepCutAuto
import Derived.KernelRfl
import Derived.Lib.Hide
import Derived.Maps.RangeWalk
namespace Go.Proofs.YtgciifalclgeeaaGreatDoor
open Go.Shelf
def Tryz.lay171_ren : Go.Shelf.Ren := ⟨fun | 171 => 11 | 243 => 25 | 246 => 39 | 283 => 40 | 284 => 41 | 285 => 42 | 286 => 43 | 129 => 56 | 317 => 55 | 318 => 57 | 319 => 58 | 320 => 59 | 337 => 78 | 338 => 79 | n => n, fun | 3 => 3 | 9 => 9 | 2 => 2 | 4 => 4 | 171 => 81 | 0 => 0 | 53 => 22 | 37 => 23 | 5 => 5 | 173 => 83 | 212 => 96 | 51 => 97 | 20 => 20 | 213 => 98 | 46 => 39 | 232 => 120 | 233 => 146 | n => n, fun | 17 => 2 | 18 => 7 | 19 => 8 | n => n⟩
theorem Tryz.lay171 : Go.Proofs.LaysM.n171 Tryz.prog Tryz.lay171_ren := {
  mixed := by kernel_rfl
  f129 := Tryz.func56.trans (congrArg some (by kernel_rfl))
  f171 := Tryz.func11.trans (congrArg some (by kernel_rfl))
  f243 := Tryz.func25.trans (congrArg some (by kernel_rfl))
  f246 := Tryz.func39.trans (congrArg some (by kernel_rfl))
  f283 := Tryz.func40.trans (congrArg some (by kernel_rfl))
  f284 := Tryz.func41.trans (congrArg some (by kernel_rfl))
  f285 := Tryz.func42.trans (congrArg some (by kernel_rfl))
  f286 := Tryz.func43.trans (congrArg some (by kernel_rfl))
  f317 := Tryz.func55.trans (congrArg some (by kernel_rfl))
  f318 := Tryz.func57.trans (congrArg some (by kernel_rfl))
  f319 := Tryz.func58.trans (congrArg some (by kernel_rfl))
  f320 := Tryz.func59.trans (congrArg some (by kernel_rfl))
  f337 := Tryz.func78.trans (congrArg some (by kernel_rfl))
  f338 := Tryz.func79.trans (congrArg some (by kernel_rfl))
  t0 := Tryz.underlying0
  a0 := Tryz.isAgg0
  z0 := Tryz.sizeOf0
  v0 := Tryz.zeroValue0
  t2 := Tryz.underlying2
  a2 := Tryz.isAgg2
  z2 := Tryz.sizeOf2
  v2 := Tryz.zeroValue2
  t3 := Tryz.underlying3
  a3 := Tryz.isAgg3
  z3 := Tryz.sizeOf3
  v3 := Tryz.zeroValue3
  t4 := Tryz.underlying4
  a4 := Tryz.isAgg4
  z4 := Tryz.sizeOf4
  v4 := Tryz.zeroValue4
  t5 := Tryz.underlying5
  a5 := Tryz.isAgg5
  z5 := Tryz.sizeOf5
  v5 := Tryz.zeroValue5
  t9 := Tryz.underlying9
  a9 := Tryz.isAgg9
  z9 := Tryz.sizeOf9
  v9 := Tryz.zeroValue9
  t20 := Tryz.underlying20
  a20 := Tryz.isAgg20
  z20 := Tryz.sizeOf20
  v20 := Tryz.zeroValue20
  t37 := Tryz.underlying23
  a37 := Tryz.isAgg23
  z37 := Tryz.sizeOf23
  v37 := Tryz.zeroValue23
  t46 := Tryz.underlying39
  a46 := Tryz.isAgg39
  z46 := Tryz.sizeOf39
  v46 := Tryz.zeroValue39
  t51 := Tryz.underlying97
  a51 := Tryz.isAgg97
  z51 := Tryz.sizeOf97
  v51 := Tryz.zeroValue97
  t53 := Tryz.underlying22
  a53 := Tryz.isAgg22
  z53 := Tryz.sizeOf22
  v53 := Tryz.zeroValue22
  t171 := Tryz.underlying81
  a171 := Tryz.isAgg81
  z171 := Tryz.sizeOf81
  v171 := Tryz.zeroValue81
  t173 := Tryz.underlying83
  a173 := Tryz.isAgg83
  z173 := Tryz.sizeOf83
  v173 := Tryz.zeroValue83
  t212 := Tryz.underlying96
  a212 := Tryz.isAgg96
  z212 := Tryz.sizeOf96
  v212 := Tryz.zeroValue96
  t213 := Tryz.underlying98
  a213 := Tryz.isAgg98
  z213 := Tryz.sizeOf98
  t232 := Tryz.underlying120
  a232 := Tryz.isAgg120
  z232 := Tryz.sizeOf120
  v232 := Tryz.zeroValue120
  t233 := Tryz.underlying146
  a233 := Tryz.isAgg146
  z233 := Tryz.sizeOf146
  v233 := Tryz.zeroValue146
  g17 := by kernel_rfl
  g18 := by kernel_rfl
  g19 := by kernel_rfl
  i0 := by kernel_rfl
  i2 := by kernel_rfl
  i3 := by kernel_rfl
  i4 := by kernel_rfl
  i5 := by kernel_rfl
  i9 := by kernel_rfl
  i20 := by kernel_rfl
  i37 := by kernel_rfl
  i46 := by kernel_rfl
  i51 := by kernel_rfl
  i53 := by kernel_rfl
  i171 := by kernel_rfl
  i173 := by kernel_rfl
  i212 := by kernel_rfl
  i232 := by kernel_rfl
  i233 := by kernel_rfl
  m17 := by kernel_rfl
  m18 := by kernel_rfl
  m19 := by kernel_rfl }
def Tryz.lay245_ren : Go.Shelf.Ren := ⟨fun | 245 => 47 | 279 => 65 | 280 => 66 | 281 => 67 | 282 => 68 | 316 => 92 | 171 => 11 | 205 => 93 | 243 => 25 | 246 => 39 | 283 => 40 | 284 => 41 | 285 => 42 | 286 => 43 | 129 => 56 | 317 => 55 | 318 => 57 | 319 => 58 | 320 => 59 | 337 => 78 | 338 => 79 | n => n, fun | 9 => 9 | 3 => 3 | 75 => 61 | 167 => 103 | 4 => 4 | 168 => 106 | 210 => 132 | 37 => 23 | 0 => 0 | 127 => 79 | 145 => 162 | 143 => 160 | 2 => 2 | 171 => 81 | 53 => 22 | 5 => 5 | 173 => 83 | 212 => 96 | 51 => 97 | 20 => 20 | 213 => 98 | 46 => 39 | 232 => 120 | 233 => 146 | 80 => 50 | n => n, fun | 15 => 5 | 16 => 6 | 17 => 2 | 18 => 7 | 19 => 8 | n => n⟩
theorem Tryz.lay245 : Go.Proofs.LaysC.n245 Tryz.prog Tryz.lay245_ren := {
  mixed := by kernel_rfl
  f129 := Tryz.func56.trans (congrArg some (by kernel_rfl))
  f171 := Tryz.func11.trans (congrArg some (by kernel_rfl))
  f205 := Tryz.func93.trans (congrArg some (by kernel_rfl))
  f243 := Tryz.func25.trans (congrArg some (by kernel_rfl))
  f245 := Tryz.func47.trans (congrArg some (by kernel_rfl))
  f246 := Tryz.func39.trans (congrArg some (by kernel_rfl))
  f279 := Tryz.func65.trans (congrArg some (by kernel_rfl))
  f280 := Tryz.func66.trans (congrArg some (by kernel_rfl))
  f281 := Tryz.func67.trans (congrArg some (by kernel_rfl))
  f282 := Tryz.func68.trans (congrArg some (by kernel_rfl))
  f283 := Tryz.func40.trans (congrArg some (by kernel_rfl))
  f284 := Tryz.func41.trans (congrArg some (by kernel_rfl))
  f285 := Tryz.func42.trans (congrArg some (by kernel_rfl))
  f286 := Tryz.func43.trans (congrArg some (by kernel_rfl))
  f316 := Tryz.func92.trans (congrArg some (by kernel_rfl))
  f317 := Tryz.func55.trans (congrArg some (by kernel_rfl))
  f318 := Tryz.func57.trans (congrArg some (by kernel_rfl))
  f319 := Tryz.func58.trans (congrArg some (by kernel_rfl))
  f320 := Tryz.func59.trans (congrArg some (by kernel_rfl))
  f337 := Tryz.func78.trans (congrArg some (by kernel_rfl))
  f338 := Tryz.func79.trans (congrArg some (by kernel_rfl))
  t0 := Tryz.underlying0
  a0 := Tryz.isAgg0
  z0 := Tryz.sizeOf0
  v0 := Tryz.zeroValue0
  t2 := Tryz.underlying2
  a2 := Tryz.isAgg2
  z2 := Tryz.sizeOf2
  v2 := Tryz.zeroValue2
  t3 := Tryz.underlying3
  a3 := Tryz.isAgg3
  z3 := Tryz.sizeOf3
  v3 := Tryz.zeroValue3
  t4 := Tryz.underlying4
  a4 := Tryz.isAgg4
  z4 := Tryz.sizeOf4
  v4 := Tryz.zeroValue4
  t5 := Tryz.underlying5
  a5 := Tryz.isAgg5
  z5 := Tryz.sizeOf5
  v5 := Tryz.zeroValue5
  t9 := Tryz.underlying9
  a9 := Tryz.isAgg9
  z9 := Tryz.sizeOf9
  v9 := Tryz.zeroValue9
  t20 := Tryz.underlying20
  a20 := Tryz.isAgg20
  z20 := Tryz.sizeOf20
  v20 := Tryz.zeroValue20
  t37 := Tryz.underlying23
  a37 := Tryz.isAgg23
  z37 := Tryz.sizeOf23
  v37 := Tryz.zeroValue23
  t46 := Tryz.underlying39
  a46 := Tryz.isAgg39
  z46 := Tryz.sizeOf39
  v46 := Tryz.zeroValue39
  t51 := Tryz.underlying97
  a51 := Tryz.isAgg97
  z51 := Tryz.sizeOf97
  v51 := Tryz.zeroValue97
  t53 := Tryz.underlying22
  a53 := Tryz.isAgg22
  z53 := Tryz.sizeOf22
  v53 := Tryz.zeroValue22
  t75 := Tryz.underlying61
  a75 := Tryz.isAgg61
  z75 := Tryz.sizeOf61
  v75 := Tryz.zeroValue61
  t127 := Tryz.underlying79
  a127 := Tryz.isAgg79
  z127 := Tryz.sizeOf79
  v127 := Tryz.zeroValue79
  t143 := Tryz.underlying160
  a143 := Tryz.isAgg160
  z143 := Tryz.sizeOf160
  v143 := Tryz.zeroValue160
  t145 := Tryz.underlying162
  a145 := Tryz.isAgg162
  z145 := Tryz.sizeOf162
  v145 := Tryz.zeroValue162
  t167 := Tryz.underlying103
  a167 := Tryz.isAgg103
  z167 := Tryz.sizeOf103
  v167 := Tryz.zeroValue103
  t168 := Tryz.underlying106
  a168 := Tryz.isAgg106
  z168 := Tryz.sizeOf106
  v168 := Tryz.zeroValue106
  t171 := Tryz.underlying81
  a171 := Tryz.isAgg81
  z171 := Tryz.sizeOf81
  v171 := Tryz.zeroValue81
  t173 := Tryz.underlying83
  a173 := Tryz.isAgg83
  z173 := Tryz.sizeOf83
  v173 := Tryz.zeroValue83
  t210 := Tryz.underlying132
  a210 := Tryz.isAgg132
  z210 := Tryz.sizeOf132
  v210 := Tryz.zeroValue132
  t212 := Tryz.underlying96
  a212 := Tryz.isAgg96
  z212 := Tryz.sizeOf96
  v212 := Tryz.zeroValue96
  t213 := Tryz.underlying98
  a213 := Tryz.isAgg98
  z213 := Tryz.sizeOf98
  t232 := Tryz.underlying120
  a232 := Tryz.isAgg120
  z232 := Tryz.sizeOf120
  v232 := Tryz.zeroValue120
  t233 := Tryz.underlying146
  a233 := Tryz.isAgg146
  z233 := Tryz.sizeOf146
  v233 := Tryz.zeroValue146
  g15 := by kernel_rfl
  g16 := by kernel_rfl
  g17 := by kernel_rfl
  g18 := by kernel_rfl
  g19 := by kernel_rfl
  t80 := Tryz.underlying50
  a80 := Tryz.isAgg50
  z80 := Tryz.sizeOf50
  v80 := Tryz.zeroValue50
  i0 := by kernel_rfl
  i2 := by kernel_rfl
  i3 := by kernel_rfl
  i4 := by kernel_rfl
  i5 := by kernel_rfl
  i9 := by kernel_rfl
  i20 := by kernel_rfl
  i37 := by kernel_rfl
  i46 := by kernel_rfl
  i51 := by kernel_rfl
  i53 := by kernel_rfl
  i75 := by kernel_rfl
  i80 := by kernel_rfl
  i127 := by kernel_rfl
  i143 := by kernel_rfl
  i145 := by kernel_rfl
  i167 := by kernel_rfl
  i168 := by kernel_rfl
  i171 := by kernel_rfl
  i173 := by kernel_rfl
  i210 := by kernel_rfl
  i212 := by kernel_rfl
  i232 := by kernel_rfl
  i233 := by kernel_rfl
  m15 := by kernel_rfl
  m16 := by kernel_rfl
  m17 := by kernel_rfl
  m18 := by kernel_rfl
  m19 := by kernel_rfl
  c0 := by kernel_rfl
  c2 := by kernel_rfl
  c3 := by kernel_rfl
  c4 := by kernel_rfl
  c5 := by kernel_rfl
  c9 := by kernel_rfl
  c20 := by kernel_rfl
  c37 := by kernel_rfl
  c46 := by kernel_rfl
  c51 := by kernel_rfl
  c53 := by kernel_rfl
  c75 := by kernel_rfl
  c80 := by kernel_rfl
  c127 := by kernel_rfl
  c143 := by kernel_rfl
  c145 := by kernel_rfl
  c167 := by kernel_rfl
  c168 := by kernel_rfl
  c171 := by kernel_rfl
  c173 := by kernel_rfl
  c210 := by kernel_rfl
  c212 := by kernel_rfl
  c213 := by kernel_rfl
  c232 := by kernel_rfl
  c233 := by kernel_rfl }
def Tryz.lay287_ren : Go.Shelf.Ren := ⟨fun | 287 => 46 | 321 => 63 | 322 => 64 | n => n, fun | 9 => 9 | 3 => 3 | 53 => 22 | 75 => 61 | 4 => 4 | 167 => 103 | 5 => 5 | 46 => 39 | 37 => 23 | 0 => 0 | 21 => 21 | 80 => 50 | n => n, fun | n => n⟩
theorem Tryz.lay287 : Go.Proofs.Lays.n287 Tryz.prog Tryz.lay287_ren := {
  mixed := by kernel_rfl
  f287 := Tryz.func46.trans (congrArg some (by kernel_rfl))
  f321 := Tryz.func63.trans (congrArg some (by kernel_rfl))
  f322 := Tryz.func64.trans (congrArg some (by kernel_rfl))
  t0 := Tryz.underlying0
  a0 := Tryz.isAgg0
  z0 := Tryz.sizeOf0
  v0 := Tryz.zeroValue0
  t3 := Tryz.underlying3
  a3 := Tryz.isAgg3
  z3 := Tryz.sizeOf3
  v3 := Tryz.zeroValue3
  t4 := Tryz.underlying4
  a4 := Tryz.isAgg4
  z4 := Tryz.sizeOf4
  v4 := Tryz.zeroValue4
  t5 := Tryz.underlying5
  a5 := Tryz.isAgg5
  z5 := Tryz.sizeOf5
  v5 := Tryz.zeroValue5
  t9 := Tryz.underlying9
  a9 := Tryz.isAgg9
  z9 := Tryz.sizeOf9
  v9 := Tryz.zeroValue9
  t21 := Tryz.underlying21
  a21 := Tryz.isAgg21
  z21 := Tryz.sizeOf21
  v21 := Tryz.zeroValue21
  t37 := Tryz.underlying23
  a37 := Tryz.isAgg23
  z37 := Tryz.sizeOf23
  v37 := Tryz.zeroValue23
  t46 := Tryz.underlying39
  a46 := Tryz.isAgg39
  z46 := Tryz.sizeOf39
  v46 := Tryz.zeroValue39
  t53 := Tryz.underlying22
  a53 := Tryz.isAgg22
  z53 := Tryz.sizeOf22
  v53 := Tryz.zeroValue22
  t75 := Tryz.underlying61
  a75 := Tryz.isAgg61
  z75 := Tryz.sizeOf61
  v75 := Tryz.zeroValue61
  t167 := Tryz.underlying103
  a167 := Tryz.isAgg103
  z167 := Tryz.sizeOf103
  v167 := Tryz.zeroValue103 }
def Tryz.lay283_ren : Go.Shelf.Ren := ⟨fun | 283 => 40 | n => n, fun | 3 => 3 | 9 => 9 | 4 => 4 | n => n, fun | n => n⟩
theorem Tryz.lay283 : Go.Proofs.Lays.n283 Tryz.prog Tryz.lay283_ren := {
  mixed := by kernel_rfl
  f283 := Tryz.func40.trans (congrArg some (by kernel_rfl))
  t3 := Tryz.underlying3
  a3 := Tryz.isAgg3
  z3 := Tryz.sizeOf3
  v3 := Tryz.zeroValue3
  t4 := Tryz.underlying4
  a4 := Tryz.isAgg4
  z4 := Tryz.sizeOf4
  v4 := Tryz.zeroValue4
  t9 := Tryz.underlying9
  a9 := Tryz.isAgg9
  z9 := Tryz.sizeOf9
  v9 := Tryz.zeroValue9 }
def Tryz.lay284_ren : Go.Shelf.Ren := ⟨fun | 284 => 41 | 129 => 56 | 317 => 55 | 318 => 57 | n => n, fun | 53 => 22 | 3 => 3 | 212 => 96 | 0 => 0 | 4 => 4 | 46 => 39 | 5 => 5 | 9 => 9 | n => n, fun | 17 => 2 | n => n⟩
theorem Tryz.lay284 : Go.Proofs.LaysM.n284 Tryz.prog Tryz.lay284_ren := {
  mixed := by kernel_rfl
  f129 := Tryz.func56.trans (congrArg some (by kernel_rfl))
  f284 := Tryz.func41.trans (congrArg some (by kernel_rfl))
  f317 := Tryz.func55.trans (congrArg some (by kernel_rfl))
  f318 := Tryz.func57.trans (congrArg some (by kernel_rfl))
  t0 := Tryz.underlying0
  a0 := Tryz.isAgg0
  z0 := Tryz.sizeOf0
  v0 := Tryz.zeroValue0
  t3 := Tryz.underlying3
  a3 := Tryz.isAgg3
  z3 := Tryz.sizeOf3
  v3 := Tryz.zeroValue3
  t4 := Tryz.underlying4
  a4 := Tryz.isAgg4
  z4 := Tryz.sizeOf4
  v4 := Tryz.zeroValue4
  t5 := Tryz.underlying5
  a5 := Tryz.isAgg5
  z5 := Tryz.sizeOf5
  v5 := Tryz.zeroValue5
  t9 := Tryz.underlying9
  a9 := Tryz.isAgg9
  z9 := Tryz.sizeOf9
  v9 := Tryz.zeroValue9
  t46 := Tryz.underlying39
  a46 := Tryz.isAgg39
  z46 := Tryz.sizeOf39
  v46 := Tryz.zeroValue39
  t53 := Tryz.underlying22
  a53 := Tryz.isAgg22
  z53 := Tryz.sizeOf22
  v53 := Tryz.zeroValue22
  t212 := Tryz.underlying96
  a212 := Tryz.isAgg96
  z212 := Tryz.sizeOf96
  v212 := Tryz.zeroValue96
  g17 := by kernel_rfl
  i0 := by kernel_rfl
  i3 := by kernel_rfl
  i4 := by kernel_rfl
  i5 := by kernel_rfl
  i9 := by kernel_rfl
  i46 := by kernel_rfl
  i53 := by kernel_rfl
  i212 := by kernel_rfl
  m17 := by kernel_rfl }
def Tryz.lay285_ren : Go.Shelf.Ren := ⟨fun | 285 => 42 | n => n, fun | 37 => 23 | 53 => 22 | 3 => 3 | 4 => 4 | 51 => 97 | 9 => 9 | 5 => 5 | 0 => 0 | n => n, fun | n => n⟩
theorem Tryz.lay285 : Go.Proofs.Lays.n285 Tryz.prog Tryz.lay285_ren := {
  mixed := by kernel_rfl
  f285 := Tryz.func42.trans (congrArg some (by kernel_rfl))
  t0 := Tryz.underlying0
  a0 := Tryz.isAgg0
  z0 := Tryz.sizeOf0
  v0 := Tryz.zeroValue0
  t3 := Tryz.underlying3
  a3 := Tryz.isAgg3
  z3 := Tryz.sizeOf3
  v3 := Tryz.zeroValue3
  t4 := Tryz.underlying4
  a4 := Tryz.isAgg4
  z4 := Tryz.sizeOf4
  v4 := Tryz.zeroValue4
  t5 := Tryz.underlying5
  a5 := Tryz.isAgg5
  z5 := Tryz.sizeOf5
  v5 := Tryz.zeroValue5
  t9 := Tryz.underlying9
  a9 := Tryz.isAgg9
  z9 := Tryz.sizeOf9
  v9 := Tryz.zeroValue9
  t37 := Tryz.underlying23
  a37 := Tryz.isAgg23
  z37 := Tryz.sizeOf23
  v37 := Tryz.zeroValue23
  t51 := Tryz.underlying97
  a51 := Tryz.isAgg97
  z51 := Tryz.sizeOf97
  v51 := Tryz.zeroValue97
  t53 := Tryz.underlying22
  a53 := Tryz.isAgg22
  z53 := Tryz.sizeOf22
  v53 := Tryz.zeroValue22 }
def Tryz.lay167_ren : Go.Shelf.Ren := ⟨fun | 167 => 23 | 240 => 38 | 276 => 54 | n => n, fun | 70 => 57 | 5 => 5 | 75 => 61 | 0 => 0 | 72 => 59 | 37 => 23 | 4 => 4 | 164 => 92 | 80 => 50 | 9 => 9 | n => n, fun | n => n⟩
theorem Tryz.lay167 : Go.Proofs.Lays.n167 Tryz.prog Tryz.lay167_ren := {
  mixed := by kernel_rfl
  f167 := Tryz.func23.trans (congrArg some (by kernel_rfl))
  f240 := Tryz.func38.trans (congrArg some (by kernel_rfl))
  f276 := Tryz.func54.trans (congrArg some (by kernel_rfl))
  t0 := Tryz.underlying0
  a0 := Tryz.isAgg0
  z0 := Tryz.sizeOf0
  v0 := Tryz.zeroValue0
  t4 := Tryz.underlying4
  a4 := Tryz.isAgg4
  z4 := Tryz.sizeOf4
  v4 := Tryz.zeroValue4
  t5 := Tryz.underlying5
  a5 := Tryz.isAgg5
  z5 := Tryz.sizeOf5
  v5 := Tryz.zeroValue5
  t9 := Tryz.underlying9
  a9 := Tryz.isAgg9
  z9 := Tryz.sizeOf9
  v9 := Tryz.zeroValue9
  t20 := Tryz.underlying20
  a20 := Tryz.isAgg20
  z20 := Tryz.sizeOf20
  v20 := Tryz.zeroValue20
  t37 := Tryz.underlying23
  a37 := Tryz.isAgg23
  z37 := Tryz.sizeOf23
  v37 := Tryz.zeroValue23
  t70 := Tryz.underlying57
  a70 := Tryz.isAgg57
  z70 := Tryz.sizeOf57
  v70 := Tryz.zeroValue57
  t72 := Tryz.underlying59
  a72 := Tryz.isAgg59
  z72 := Tryz.sizeOf59
  v72 := Tryz.zeroValue59
  t75 := Tryz.underlying61
  a75 := Tryz.isAgg61
  z75 := Tryz.sizeOf61
  v75 := Tryz.zeroValue61
  t164 := Tryz.underlying92
  a164 := Tryz.isAgg92
  z164 := Tryz.sizeOf92
  v164 := Tryz.zeroValue92 }
def Tryz.lay169_ren : Go.Shelf.Ren := ⟨fun | 169 => 24 | n => n, fun | 70 => 57 | 9 => 9 | 0 => 0 | 72 => 59 | 37 => 23 | 127 => 79 | 3 => 3 | 5 => 5 | n => n, fun | n => n⟩
theorem Tryz.lay169 : Go.Proofs.Lays.n169 Tryz.prog Tryz.lay169_ren := {
  mixed := by kernel_rfl
  f169 := Tryz.func24.trans (congrArg some (by kernel_rfl))
  t0 := Tryz.underlying0
  a0 := Tryz.isAgg0
  z0 := Tryz.sizeOf0
  v0 := Tryz.zeroValue0
  t3 := Tryz.underlying3
  a3 := Tryz.isAgg3
  z3 := Tryz.sizeOf3
  v3 := Tryz.zeroValue3
  t9 := Tryz.underlying9
  a9 := Tryz.isAgg9
  z9 := Tryz.sizeOf9
  v9 := Tryz.zeroValue9
  t37 := Tryz.underlying23
  a37 := Tryz.isAgg23
  z37 := Tryz.sizeOf23
  v37 := Tryz.zeroValue23
  t70 := Tryz.underlying57
  a70 := Tryz.isAgg57
  z70 := Tryz.sizeOf57
  v70 := Tryz.zeroValue57
  t72 := Tryz.underlying59
  a72 := Tryz.isAgg59
  z72 := Tryz.sizeOf59
  v72 := Tryz.zeroValue59
  t127 := Tryz.underlying79
  a127 := Tryz.isAgg79
  z127 := Tryz.sizeOf79
  v127 := Tryz.zeroValue79 }
end Go.Proofs.YtgciifalclgeeaaGreatDoor

/-
  General words on memory, over no program: what a call may turn ('Mods'), a row of cells that is read ('Row'), and how both are carried along.
-/
namespace Go.Proofs.YtgciifalclgeeaaGreatDoor
open Go.RowKit
/-- Only the blocks of D (and new ones) may have turned. -/
structure Mods (D : Nat → Prop) (w w' : World) : Prop where
  os : w'.os = w.os
  tape : w'.tape = w.tape
  output : w'.output = w.output
  size : w.heap.size ≤ w'.heap.size
  block : ∀ k, k < w.heap.size → ¬ D k → w'.heap[k]? = w.heap[k]?
namespace Mods
variable {D E : Nat → Prop} {a b c w w' : World}
theorem refl (D : Nat → Prop) (w : World) : Mods D w w := ⟨rfl, rfl, rfl, Nat.le_refl _, fun _ _ _ => rfl⟩
/-- Two steps: the second may turn what the first one may, and what is new behind it. -/
theorem trans (h : Mods D a b) (k : Mods E b c) (hE : ∀ i, i < a.heap.size → E i → D i) : Mods D a c :=
  ⟨k.os.trans h.os, k.tape.trans h.tape, k.output.trans h.output, Nat.le_trans h.size k.size,
    fun i hi hd => (k.block i (Nat.lt_of_lt_of_le hi h.size) (fun he => hd (hE i hi he))).trans (h.block i hi hd)⟩
theorem mono (h : Mods D w w') (hE : ∀ i, i < w.heap.size → D i → E i) : Mods E w w' :=
  ⟨h.os, h.tape, h.output, h.size, fun i hi he => h.block i hi (fun hd => he (hE i hi hd))⟩
theorem drewN (h : Mods D a w) (n : Nat) : Mods D a (w.drewN n) := ⟨h.os, h.tape, h.output, h.size, h.block⟩
theorem drew (h : Mods D a w) : Mods D a w.drew := ⟨h.os, h.tape, h.output, h.size, h.block⟩
theorem alloc (h : Mods D a w) (o : Obj) : Mods D a (w.alloc o) :=
  ⟨h.os, h.tape, h.output, Nat.le_trans h.size (by simp), fun k hk hd => (Below.heap_alloc w o k (Nat.lt_of_lt_of_le hk h.size)).trans (h.block k hk hd)⟩
theorem setCell (h : Mods D a w) {p : Addr} (hp : D p.block ∨ a.heap.size ≤ p.block) (u : Value) : Mods D a (w.setCell p u) :=
  ⟨h.os, h.tape, h.output, by simpa [World.setCell] using h.size, fun k hk hd => by
    rw [← h.block k hk hd]
    refine Below.heap_setCell w p u k fun e => ?_
    subst e
    rcases hp with hp | hp
    · exact hd hp
    · omega⟩
theorem of_below (h : Below w.heap.size w w') : Mods D w w' := ⟨h.os, h.tape, h.output, h.size, fun k hk _ => h.block k hk⟩
theorem below (h : Mods D w w') {B : Nat} (hB : B ≤ w.heap.size) (hD : ∀ i, i < B → ¬ D i) : Below B w w' :=
  ⟨h.os, h.tape, h.output, h.size, fun k hk => h.block k (Nat.lt_of_lt_of_le hk hB) (hD k hk)⟩
theorem cell (h : Mods D w w') {p : Addr} (hp : p.block < w.heap.size) (hd : ¬ D p.block) : w'.cell? p = w.cell? p := World.cell?_of_block (h.block p.block hp hd)
end Mods
/-- A block of cells, not frozen. -/
abbrev Blk (w : World) (b : Nat) (xs : List Value) (e : TypeId) : Prop := w.heap[b]? = some (.cells xs.toArray e (0, 0))
theorem blk_cell {w : World} {b : Nat} {xs : List Value} {e : TypeId} (h : Blk w b xs e) (j : Nat) : w.cell? ⟨b, j, none⟩ = xs[j]? := by
  simp only [Blk] at h
  simp [World.cell?, h]
theorem blk_free {w : World} {b : Nat} {xs : List Value} {e : TypeId} (h : Blk w b xs e) (j : Nat) : w.frozen? ⟨b, j, none⟩ = false := by
  simp only [Blk] at h
  simp [World.frozen?, h]
theorem blk_set {w : World} {b : Nat} {xs : List Value} {e : TypeId} (h : Blk w b xs e) (j : Nat) (u : Value) : Blk (w.setCell ⟨b, j, none⟩ u) b (xs.set j u) e := by
  simp only [Blk] at h ⊢
  have hb := lt_of_block h
  have hg : w.heap[b] = .cells xs.toArray e (0, 0) := by rw [Array.getElem?_eq_getElem hb] at h; exact Option.some.inj h
  simp only [World.setCell]
  rw [Array.getElem?_eq_getElem (by simpa using hb)]
  simp [Array.getElem_modify, hg]
/-- A slice value that reads as the cells xs: n elements of 'size' cells; its cells lie in D. -/
def Row (size : Nat) (w : World) (D : Nat → Prop) (v : Value) (n : Nat) (xs : List Value) : Prop :=
  xs.length = n * size ∧ ∃ a c, v = .slice a n c ∧ n ≤ c ∧ c ≤ maxLen ∧ (a = none → n = 0 ∧ c = 0) ∧
    (n = 0 ∨ ∃ g o cur e fz, a = some ⟨g, o, none⟩ ∧ D g ∧ w.heap[g]? = some (.cells cur e fz) ∧ (cur.toList.drop o).take (n * size) = xs)
namespace Row
variable {size : Nat} {w w' : World} {D D' : Nat → Prop} {v : Value} {n : Nat} {xs : List Value}
theorem carry (h : Row size w D v n xs) (hk : ∀ k o, D k → w.heap[k]? = some o → w'.heap[k]? = some o) : Row size w' D v n xs := by
  obtain ⟨h1, a, c, hv, hn, hc, ha, h⟩ := h
  refine ⟨h1, a, c, hv, hn, hc, ha, h.imp id ?_⟩
  rintro ⟨g, o, cur, t, fz, e, hd, hg, ht⟩
  exact ⟨g, o, cur, t, fz, e, hd, hk g _ hd hg, ht⟩
theorem mono (h : Row size w D v n xs) (hd : ∀ k, D k → D' k) : Row size w D' v n xs := by
  obtain ⟨h1, a, c, hv, hn, hc, ha, h⟩ := h
  refine ⟨h1, a, c, hv, hn, hc, ha, h.imp id ?_⟩
  rintro ⟨g, o, cur, t, fz, e, hD, hg, ht⟩
  exact ⟨g, o, cur, t, fz, e, hd g hD, hg, ht⟩
theorem nil (w : World) (D : Nat → Prop) : Row size w D (.slice none 0 0) 0 [] := ⟨by simp, none, 0, rfl, Nat.le_refl _, Nat.zero_le _, fun _ => ⟨rfl, rfl⟩, .inl rfl⟩
/-- What an append asks of what is appended. -/
theorem news (h : Row size w D v n xs) : v = .slice none 0 0 ∧ n = 0 ∧ xs = [] ∨ ∃ a c, v = .slice (some a) n c ∧ xs.length = n * size ∧ ∀ j u, xs[j]? = some u → w.cell? (a.add j) = some u := by
  obtain ⟨h1, a, c, rfl, hn, hc, ha, h⟩ := h
  cases a with
  | none =>
    obtain ⟨rfl, rfl⟩ := ha rfl
    exact .inl ⟨rfl, rfl, List.eq_nil_of_length_eq_zero (by simpa using h1)⟩
  | some a =>
    refine .inr ⟨a, c, rfl, h1, ?_⟩
    rcases h with rfl | ⟨g, o, cur, t, fz, e, _, hg, ht⟩
    · have : xs = [] := List.eq_nil_of_length_eq_zero (by simpa using h1)
      subst this
      intro j u hu; simp at hu
    · simp only [Option.some.injEq] at e
      subst e
      intro j u hu
      have hadd : (⟨g, o, none⟩ : Addr).add j = ⟨g, o + j, none⟩ := by unfold Addr.add; split <;> simp_all
      rw [hadd]
      rw [← ht, List.getElem?_take] at hu
      split at hu
      · simp only [World.cell?, hg]
        simpa using hu
      · cases hu
theorem cellAt (h : Row size w D v n xs) {g o c : Nat} {s : Option Nat} {m : Nat} (hv : v = .slice (some ⟨g, o, s⟩) m c) {j : Nat} {u : Value} (hu : xs[j]? = some u) : s = none ∧ w.cell? ⟨g, o + j, none⟩ = some u := by
  obtain ⟨h1, a, c', rfl, hn, hc, ha, h⟩ := h
  simp only [Value.slice.injEq] at hv
  obtain ⟨rfl, rfl, rfl⟩ := hv
  rcases h with rfl | ⟨g', o', cur, t, fz, e, _, hg, ht⟩
  · have : xs = [] := List.eq_nil_of_length_eq_zero (by simpa using h1)
    subst this
    simp at hu
  · simp only [Option.some.injEq, Addr.mk.injEq] at e
    obtain ⟨rfl, rfl, rfl⟩ := e
    refine ⟨rfl, ?_⟩
    rw [← ht, List.getElem?_take] at hu
    split at hu
    · simp only [World.cell?, hg]
      simpa using hu
    · cases hu
theorem len (h : Row size w D v n xs) : ∃ a c, v = .slice a n c ∧ n ≤ c ∧ c ≤ maxLen := by
  obtain ⟨_, a, c, hv, hn, hc, _⟩ := h
  exact ⟨a, c, hv, hn, hc⟩
end Row
theorem Row.alloc {size : Nat} {w : World} {D : Nat → Prop} {v : Value} {n : Nat} {xs : List Value} (h : Row size w D v n xs) (o : Obj) : Row size (w.alloc o) D v n xs :=
  h.carry fun k _ _ ho => (Below.heap_alloc w o k (lt_of_block ho)).trans ho
theorem Row.drew {size : Nat} {w : World} {D : Nat → Prop} {v : Value} {n : Nat} {xs : List Value} (h : Row size w D v n xs) : Row size w.drew D v n xs := h
/-- What the program's tables say of a slice type t and its elements. -/
def ElemOf (P : Program) (t e : TypeId) (z : Value) (size bytes : Nat) : Prop :=
  P.underlying t = some (.slice e) ∧ (∃ i, P.info? e = some i ∧ i.zero = some z ∧ i.size = size ∧ i.bytes = bytes) ∧ z.cells.size = size ∧ 0 < size
theorem ElemOf.of {P : Program} {t e : TypeId} {z : Value} {size bytes : Nat} (h1 : P.underlying t = some (.slice e)) (h2 : (P.info? e).map (fun i => (i.zero, i.size, i.bytes)) = some (some z, size, bytes)) (h3 : z.cells.size = size) (h4 : 0 < size) : ElemOf P t e z size bytes :=
  ⟨h1, info_parts h2, h3, h4⟩
section
variable {P : Program} {w : World} {t e : TypeId} {z : Value} {size bytes : Nat}
end
theorem _root_.Go.World.grownBy.ofDrew {w w' : World} {row : Option Nat} (h : w.drew.grownBy w' row) : w.grownBy w' row := ⟨h.os, h.tape, h.output, h.size, h.block⟩
theorem _root_.Go.World.grownBy.ofDrewN {w w' : World} {n : Nat} {row : Option Nat} (h : (w.drewN n).grownBy w' row) : w.grownBy w' row := ⟨h.os, h.tape, h.output, h.size, h.block⟩
theorem owns_base {w : World} {base base' : Nat} {e : TypeId} {size : Nat} {v : Value} {n : Nat} {xs : List Value} (h : w.ownsRow base e size v n xs) (hb : ∀ k, v.ownBlock = some k → base' ≤ k) : w.ownsRow base' e size v n xs := by
  refine ⟨h.1, ?_⟩
  rcases h.2 with hn | ⟨g, cap, cur, rfl, _, rest⟩
  · exact .inl hn
  · exact .inr ⟨g, cap, cur, rfl, hb g rfl, rest⟩
theorem Mods.base {w w1 : World} {o : Obj} (h : Below (w.alloc o).heap.size (w.alloc o) w1) : Mods (fun _ => False) w w1 := ((Mods.refl _ w).alloc o).trans (Mods.of_below h) (fun _ _ h => h)
end Go.Proofs.YtgciifalclgeeaaGreatDoor

/-
  A small logic of what a call owns: the pool (blocks that are never written any more), and a list of things that are owned, apart from one another and from the pool.
-/
namespace Go.Proofs.YtgciifalclgeeaaGreatDoor
open Go.RowKit
/-- Some blocks and what they hold. -/
abbrev Hl := Nat → Option Obj
namespace Hl
def le (g g' : Hl) : Prop := ∀ k o, g k = some o → g' k = some o
def disj (a b : Hl) : Prop := ∀ k, a k = none ∨ b k = none
def un (a b : Hl) : Hl := fun k => (a k).or (b k)
def emp : Hl := fun _ => none
def one (b : Nat) (o : Obj) : Hl := fun k => if k = b then some o else none
theorem le_refl (g : Hl) : le g g := fun _ _ h => h
theorem le.trans {a b c : Hl} (h : le a b) (k : le b c) : le a c := fun i o hi => k i o (h i o hi)
theorem disj.symm {a b : Hl} (h : disj a b) : disj b a := fun k => (h k).symm
theorem emp_un (a : Hl) : un emp a = a := by funext k; simp [un, emp]
theorem disj_emp (a : Hl) : disj a emp := fun _ => .inr rfl
theorem emp_disj (a : Hl) : disj emp a := fun _ => .inl rfl
theorem un_assoc (a b c : Hl) : un (un a b) c = un a (un b c) := by funext k; simp [un, Option.or_assoc]
theorem un_comm {a b : Hl} (h : disj a b) : un a b = un b a := by
  funext k
  rcases h k with e | e <;> simp [un, e]
theorem disj_un {a b c : Hl} : disj a (un b c) ↔ disj a b ∧ disj a c := by
  constructor
  · intro h
    refine ⟨fun k => (h k).imp id fun e => ?_, fun k => (h k).imp id fun e => ?_⟩ <;> simp [un] at e
    · exact e.1
    · exact e.2
  · rintro ⟨h1, h2⟩ k
    rcases h1 k with e | e
    · exact .inl e
    · rcases h2 k with e2 | e2
      · exact .inl e2
      · exact .inr (by simp [un, e, e2])
theorem un_disj {a b c : Hl} : disj (un a b) c ↔ disj a c ∧ disj b c := by
  constructor
  · intro h
    have := disj_un.1 h.symm
    exact ⟨this.1.symm, this.2.symm⟩
  · rintro ⟨h1, h2⟩
    exact (disj_un.2 ⟨h1.symm, h2.symm⟩).symm
theorem le_un_left (a b : Hl) : le a (un a b) := fun k o h => by simp [un, h]
theorem le_un_right {a b : Hl} (h : disj a b) : le b (un a b) := fun k o hb => by
  rcases h k with e | e
  · simp [un, e, hb]
  · rw [e] at hb; cases hb
end Hl
/-- A thing that is owned: what it says of the pool and of its own blocks. -/
structure HP where
  p : Hl → Hl → Prop
  mono : ∀ g g' h, Hl.le g g' → p g h → p g' h
def Star : List HP → Hl → Hl → Prop
  | [], _, h => h = Hl.emp
  | P :: r, g, h => ∃ h1 h2, Hl.disj h1 h2 ∧ h = Hl.un h1 h2 ∧ P.p g h1 ∧ Star r g h2
theorem Star.mono {H : List HP} {g g' h : Hl} (hg : Hl.le g g') (hs : Star H g h) : Star H g' h := by
  induction H generalizing h with
  | nil => exact hs
  | cons P r ih =>
    obtain ⟨h1, h2, d, e, p, s⟩ := hs
    exact ⟨h1, h2, d, e, P.mono _ _ _ hg p, ih s⟩
theorem Star.swap {P Q : HP} {r : List HP} {g h : Hl} (hs : Star (P :: Q :: r) g h) : Star (Q :: P :: r) g h := by
  obtain ⟨h1, h', d, rfl, p, h2, h3, d2, rfl, q, s⟩ := hs
  have d' := Hl.disj_un.1 d
  refine ⟨h2, Hl.un h1 h3, Hl.disj_un.2 ⟨d'.1.symm, d2⟩, ?_, q, h1, h3, d'.2, rfl, p, s⟩
  rw [← Hl.un_assoc, ← Hl.un_assoc, Hl.un_comm d'.1]
theorem Star.perm {H H' : List HP} (hp : H.Perm H') : ∀ {g h : Hl}, Star H g h → Star H' g h := by
  induction hp with
  | nil => exact fun h => h
  | cons x _ ih => exact fun ⟨h1, h2, d, e, p, s⟩ => ⟨h1, h2, d, e, p, ih s⟩
  | swap x y l => exact fun h => h.swap
  | trans _ _ ih1 ih2 => exact fun h => ih2 (ih1 h)
/-- The world w, in a call that began in W: the pool g, and what is owned. -/
structure Sat (W w : World) (g : Hl) (H : List HP) : Prop where
  os : w.os = W.os
  tape : w.tape = W.tape
  output : w.output = W.output
  ex : ∃ h, Star H g h ∧ Hl.disj g h ∧ ∀ k o, Hl.un g h k = some o → w.heap[k]? = some o
namespace Sat
variable {W w w' : World} {g g' : Hl} {P Q A B C D' : HP} {H H' : List HP}
theorem perm (hs : Sat W w g H) (hp : H.Perm H') : Sat W w g H' := by
  obtain ⟨h1, h2, h3, h, s, d, a⟩ := hs
  exact ⟨h1, h2, h3, h, s.perm hp, d, a⟩
theorem swap (hs : Sat W w g (A :: B :: H)) : Sat W w g (B :: A :: H) := hs.perm (.swap _ _ _)
theorem pull2 (hs : Sat W w g (A :: B :: C :: H)) : Sat W w g (C :: A :: B :: H) := hs.perm ((List.Perm.cons _ (.swap _ _ _)).trans (.swap _ _ _))
/-- The front thing behind all others of a list. -/
theorem toBack (hs : Sat W w g (A :: (H ++ H'))) : Sat W w g (H ++ A :: H') := hs.perm List.perm_middle.symm
theorem toFront (hs : Sat W w g (H ++ A :: H')) : Sat W w g (A :: (H ++ H')) := hs.perm List.perm_middle
theorem drop (hs : Sat W w g (P :: H)) : Sat W w g H := by
  obtain ⟨h1, h2, h3, h, ⟨a, b, d, rfl, _, s⟩, dg, ag⟩ := hs
  have dg' := Hl.disj_un.1 dg
  refine ⟨h1, h2, h3, b, s, dg'.2, fun k o hk => ag k o ?_⟩
  simp only [Hl.un] at hk ⊢
  rcases dg k with e | e
  · rw [e] at hk ⊢
    rcases d k with e2 | e2
    · simpa [e2] using hk
    · simp [e2] at hk
  · simp [Hl.un] at e
    simpa [e.1, e.2] using hk
/-- Read the front thing differently. -/
theorem conv (hs : Sat W w g (P :: H)) (hpq : ∀ h, P.p g h → Q.p g h) : Sat W w g (Q :: H) := by
  obtain ⟨h1, h2, h3, h, ⟨a, b, d, e, p, s⟩, dg, ag⟩ := hs
  exact ⟨h1, h2, h3, h, ⟨a, b, d, e, hpq _ p, s⟩, dg, ag⟩
/-- A fact that the front thing bears. -/
theorem fact {F : Prop} (hs : Sat W w g (P :: H)) (hpq : ∀ h, P.p g h → F) : F := by
  obtain ⟨h1, h2, h3, h, ⟨a, b, d, e, p, s⟩, dg, ag⟩ := hs
  exact hpq _ p
theorem opens {α : Sort _} {F : α → HP} (hs : Sat W w g (P :: H)) (hpq : ∀ h, P.p g h → ∃ x, (F x).p g h) : ∃ x, Sat W w g (F x :: H) := by
  obtain ⟨h1, h2, h3, h, ⟨a, b, d, e, p, s⟩, dg, ag⟩ := hs
  obtain ⟨x, hx⟩ := hpq _ p
  exact ⟨x, h1, h2, h3, h, ⟨a, b, d, e, hx, s⟩, dg, ag⟩
theorem pool (hs : Sat W w g H) {k : Nat} {o : Obj} (hk : g k = some o) : w.heap[k]? = some o := by
  obtain ⟨h1, h2, h3, h, s, dg, ag⟩ := hs
  exact ag k o (by simp [Hl.un, hk])
theorem drew (hs : Sat W w g H) : Sat W w.drew g H := ⟨hs.os, hs.tape, hs.output, hs.ex⟩
theorem drewN (hs : Sat W w g H) (n : Nat) : Sat W (w.drewN n) g H := ⟨hs.os, hs.tape, hs.output, hs.ex⟩
end Sat
/-- One block of any kind. -/
def obj (b : Nat) (o : Obj) : HP := ⟨fun _ h => h = Hl.one b o, fun _ _ _ _ h => h⟩
/-- One block of cells. -/
def blk (b : Nat) (xs : List Value) (e : TypeId) : HP := obj b (.cells xs.toArray e (0, 0))
/-- Two things as one. -/
def sep (P Q : HP) : HP := ⟨fun g h => ∃ h1 h2, Hl.disj h1 h2 ∧ h = Hl.un h1 h2 ∧ P.p g h1 ∧ Q.p g h2, fun _ _ _ hg ⟨h1, h2, d, e, p, q⟩ => ⟨h1, h2, d, e, P.mono _ _ _ hg p, Q.mono _ _ _ hg q⟩⟩
/-- A thing beside a fact on the pool. -/
def wit (F : Hl → Prop) (hF : ∀ g g', Hl.le g g' → F g → F g') (P : HP) : HP := ⟨fun g h => F g ∧ P.p g h, fun _ _ _ hg ⟨f, p⟩ => ⟨hF _ _ hg f, P.mono _ _ _ hg p⟩⟩
def exs {α : Type} (P : α → HP) : HP := ⟨fun g h => ∃ x, (P x).p g h, fun _ _ _ hg ⟨x, p⟩ => ⟨x, (P x).mono _ _ _ hg p⟩⟩
def nothing : HP := ⟨fun _ h => h = Hl.emp, fun _ _ _ _ h => h⟩
namespace Sat
variable {W w w' : World} {g g' : Hl} {P Q A B C : HP} {H H' : List HP}
theorem split (hs : Sat W w g (sep P Q :: H)) : Sat W w g (P :: Q :: H) := by
  obtain ⟨h1, h2, h3, h, ⟨a, b, d, rfl, ⟨x, y, d2, rfl, p, q⟩, s⟩, dg, ag⟩ := hs
  have d' := Hl.un_disj.1 d
  exact ⟨h1, h2, h3, _, ⟨x, Hl.un y b, Hl.disj_un.2 ⟨d2, d'.1⟩, Hl.un_assoc _ _ _, p, y, b, d'.2, rfl, q, s⟩, dg, ag⟩
theorem join (hs : Sat W w g (P :: Q :: H)) : Sat W w g (sep P Q :: H) := by
  obtain ⟨h1, h2, h3, h, ⟨x, y', d, rfl, p, y, b, d2, rfl, q, s⟩, dg, ag⟩ := hs
  have d' := Hl.disj_un.1 d
  exact ⟨h1, h2, h3, _, ⟨Hl.un x y, b, Hl.un_disj.2 ⟨d'.2, d2⟩, (Hl.un_assoc _ _ _).symm, ⟨x, y, d'.1, rfl, p, q⟩, s⟩, dg, ag⟩
theorem unwit {F : Hl → Prop} {hF : ∀ g g', Hl.le g g' → F g → F g'} (hs : Sat W w g (wit F hF P :: H)) : F g ∧ Sat W w g (P :: H) :=
  ⟨hs.fact fun _ h => h.1, hs.conv fun _ h => h.2⟩
theorem mkwit {F : Hl → Prop} {hF : ∀ g g', Hl.le g g' → F g → F g'} (f : F g) (hs : Sat W w g (P :: H)) : Sat W w g (wit F hF P :: H) := hs.conv fun _ h => ⟨f, h⟩
theorem unexs {α : Type} {P : α → HP} (hs : Sat W w g (exs P :: H)) : ∃ x, Sat W w g (P x :: H) := hs.opens fun _ h => h
theorem mkexs {α : Type} {P : α → HP} (x : α) (hs : Sat W w g (P x :: H)) : Sat W w g (exs P :: H) := hs.conv fun _ h => ⟨x, h⟩
theorem mknothing (hs : Sat W w g H) : Sat W w g (nothing :: H) := by
  obtain ⟨h1, h2, h3, h, s, dg, ag⟩ := hs
  exact ⟨h1, h2, h3, h, ⟨Hl.emp, h, Hl.emp_disj _, (Hl.emp_un _).symm, rfl, s⟩, dg, ag⟩
/-- The front thing becomes the pool's: it is never written any more. -/
theorem publish (hs : Sat W w g (P :: H)) : ∃ h, P.p g h ∧ Hl.le g (Hl.un g h) ∧ Hl.le h (Hl.un g h) ∧ Sat W w (Hl.un g h) H := by
  obtain ⟨h1, h2, h3, h, ⟨a, b, d, rfl, p, s⟩, dg, ag⟩ := hs
  have dg' := Hl.disj_un.1 dg
  refine ⟨a, p, Hl.le_un_left _ _, Hl.le_un_right dg'.1, h1, h2, h3, b, s.mono (Hl.le_un_left _ _), Hl.un_disj.2 ⟨dg'.2, d⟩, fun k o hk => ag k o ?_⟩
  rw [← Hl.un_assoc]; exact hk
theorem heap {b : Nat} {o : Obj} (hs : Sat W w g (obj b o :: H)) : w.heap[b]? = some o := by
  obtain ⟨h1, h2, h3, h, ⟨a, b', d, rfl, rfl, s⟩, dg, ag⟩ := hs
  refine ag b o ?_
  rcases dg b with e | e
  · simp [Hl.un, e, Hl.one]
  · simp [Hl.un, Hl.one] at e
theorem lt {b : Nat} {o : Obj} (hs : Sat W w g (obj b o :: H)) : b < w.heap.size := lt_of_block hs.heap
theorem block {b : Nat} {xs : List Value} {e : TypeId} (hs : Sat W w g (blk b xs e :: H)) : Blk w b xs e := hs.heap
theorem blt {b : Nat} {xs : List Value} {e : TypeId} (hs : Sat W w g (blk b xs e :: H)) : b < w.heap.size := lt_of_block hs.heap
theorem cell {b : Nat} {xs : List Value} {e : TypeId} (hs : Sat W w g (blk b xs e :: H)) (j : Nat) : w.cell? ⟨b, j, none⟩ = xs[j]? := blk_cell hs.block j
theorem free {b : Nat} {xs : List Value} {e : TypeId} (hs : Sat W w g (blk b xs e :: H)) (j : Nat) : w.frozen? ⟨b, j, none⟩ = false := blk_free hs.block j
/-- In the front thing's place: one block, of its own or a new one; nothing else has turned. -/
theorem replace {b : Nat} {o : Obj} (hs : Sat W w g (P :: H)) (hos : w'.os = w.os) (htape : w'.tape = w.tape) (hout : w'.output = w.output)
    (hP : ∀ a, P.p g a → (∀ k, k < w.heap.size → a k = none → w'.heap[k]? = w.heap[k]?) ∧ (a b ≠ none ∨ w.heap.size ≤ b)) (hb : w'.heap[b]? = some o) : Sat W w' g (obj b o :: H) := by
  obtain ⟨h1, h2, h3, h, ⟨a, x, d, rfl, p, s⟩, dg, ag⟩ := hs
  obtain ⟨hk, hfr⟩ := hP a p
  have dg' := Hl.disj_un.1 dg
  have hlt : ∀ k, Hl.un g (Hl.un a x) k ≠ none → k < w.heap.size := fun k hk => by
    obtain ⟨o, ho⟩ := Option.ne_none_iff_exists'.1 hk
    exact lt_of_block (ag k o ho)
  have hgb : g b = none := by
    rcases hfr with hf | hf
    · exact (dg'.1 b).resolve_right hf
    · cases e : g b with
      | none => rfl
      | some o => have := hlt b (by simp [Hl.un, e]); omega
  have hxb : x b = none := by
    rcases hfr with hf | hf
    · exact (d b).resolve_left hf
    · cases e : x b with
      | none => rfl
      | some o => have := hlt b (by simp [Hl.un, e]); omega
  have d1 : Hl.disj (Hl.one b o) x := fun k => by
    by_cases e : k = b
    · subst e; exact .inr hxb
    · exact .inl (by simp [Hl.one, e])
  have d2 : Hl.disj g (Hl.one b o) := fun k => by
    by_cases e : k = b
    · subst e; exact .inl hgb
    · exact .inr (by simp [Hl.one, e])
  refine ⟨hos.trans h1, htape.trans h2, hout.trans h3, _, ⟨_, x, d1, rfl, rfl, s⟩, Hl.disj_un.2 ⟨d2, dg'.2⟩, fun k o2 hk2 => ?_⟩
  by_cases e : k = b
  · subst e
    simp [Hl.un, Hl.one, hgb] at hk2
    rw [← hk2]; exact hb
  · have hak : a k = none := by
      cases eg : g k with
      | some o' => exact (dg'.1 k).resolve_left (by simp [eg])
      | none =>
        have : x k ≠ none := by intro ex; simp [Hl.un, Hl.one, e, eg, ex] at hk2
        exact (d k).resolve_right this
    have : Hl.un g (Hl.un a x) k = some o2 := by
      simp only [Hl.un, Hl.one, e, if_false, hak] at hk2 ⊢
      exact hk2
    have h4 := ag k o2 this
    rw [hk k (lt_of_block h4) hak]; exact h4
/-- The front block holds another thing now, and nothing else has turned. -/
theorem update {b : Nat} {o o' : Obj} (hs : Sat W w g (obj b o :: H)) (hos : w'.os = w.os) (htape : w'.tape = w.tape) (hout : w'.output = w.output)
    (hb : w'.heap[b]? = some o') (hk : ∀ k, k < w.heap.size → k ≠ b → w'.heap[k]? = w.heap[k]?) : Sat W w' g (obj b o' :: H) :=
  hs.replace hos htape hout (fun a ha => by
    cases ha
    exact ⟨fun k h1 h2 => hk k h1 (by rintro rfl; simp [Hl.one] at h2), .inl (by simp [Hl.one])⟩) hb
theorem set {b : Nat} {xs : List Value} {e : TypeId} (hs : Sat W w g (blk b xs e :: H)) (j : Nat) (u : Value) : Sat W (w.setCell ⟨b, j, none⟩ u) g (blk b (xs.set j u) e :: H) :=
  update hs rfl rfl rfl (blk_set hs.block j u) fun k _ hk => Below.heap_setCell w _ u k hk
/-- What is not owned and not the pool's has turned, or is new. -/
theorem grow (hs : Sat W w g H) (hos : w'.os = w.os) (htape : w'.tape = w.tape) (hout : w'.output = w.output) (hk : ∀ k, k < w.heap.size → w'.heap[k]? = w.heap[k]?) : Sat W w' g H := by
  obtain ⟨h1, h2, h3, h, s, dg, ag⟩ := hs
  exact ⟨hos.trans h1, htape.trans h2, hout.trans h3, h, s, dg, fun k o h => by have h4 := ag k o h; rw [hk k (lt_of_block h4)]; exact h4⟩
/-- A new block. -/
theorem new {b : Nat} {o : Obj} (hs : Sat W w g H) (hb : w.heap.size ≤ b) (hos : w'.os = w.os) (htape : w'.tape = w.tape) (hout : w'.output = w.output) (hk : ∀ k, k < w.heap.size → w'.heap[k]? = w.heap[k]?) (hn : w'.heap[b]? = some o) :
    Sat W w' g (obj b o :: H) :=
  hs.mknothing.replace hos htape hout (fun _ _ => ⟨fun k h1 _ => hk k h1, .inr hb⟩) hn
theorem alloc (hs : Sat W w g H) (o : Obj) : Sat W (w.alloc o) g (obj w.heap.size o :: H) :=
  hs.new (Nat.le_refl _) rfl rfl rfl (fun k hk => Below.heap_alloc w o k hk) (heap_alloc_new w o)
end Sat
/-- An own row as a thing: a slice value, its elements' cells. -/
def ownP (E : TypeId) (size : Nat) (v : Value) (n : Nat) (xs : List Value) (h : Hl) : Prop :=
  xs.length = n * size ∧ ((v = .slice none 0 0 ∧ n = 0 ∧ h = Hl.emp) ∨
    ∃ (b cap : Nat) (cur : Array Value), v = .slice (some ⟨b, 0, none⟩) n cap ∧ n ≤ cap ∧ cap ≤ maxLen ∧ cur.size = cap * size ∧ cur.toList.take (n * size) = xs ∧ h = Hl.one b (.cells cur E (0, 0)))
def own (E : TypeId) (size : Nat) (v : Value) (n : Nat) (xs : List Value) : HP := ⟨fun _ h => ownP E size v n xs h, fun _ _ _ _ h => h⟩
namespace Sat
variable {W w w' : World} {g g' : Hl} {P Q A B C : HP} {H H' : List HP} {E : TypeId} {size : Nat} {v : Value} {n : Nat} {xs : List Value}
/-- An own row that has turned, in its old block or a new one. -/
theorem turn {v' : Value} {n' : Nat} {xs' : List Value} (hs : Sat W w g (own E size v n xs :: H)) (hown : w'.ownsRow 0 E size v' n' xs') (hgr : w.grownBy w' v.ownBlock) (hv : v'.ownBlock = v.ownBlock ∨ ∃ k, v'.ownBlock = some k ∧ w.heap.size ≤ k) :
    Sat W w' g (own E size v' n' xs' :: H) := by
  have key : ∀ a, (own E size v n xs).p g a → ∀ k, k < w.heap.size → a k = none → w'.heap[k]? = w.heap[k]? := by
    rintro a ⟨_, hp⟩ k hk hak
    refine hgr.block k hk fun e => ?_
    rcases hp with ⟨rfl, _, _⟩ | ⟨b', cap, cur, rfl, _, _, _, _, rfl⟩
    · simp [Value.ownBlock] at e
    · simp only [Value.ownBlock, Option.some.injEq] at e
      subst e
      simp [Hl.one] at hak
  have hblk : ∀ b a, (own E size v n xs).p g a → v.ownBlock = some b → a b ≠ none := by
    rintro b a ⟨_, hp⟩ e
    rcases hp with ⟨rfl, _, _⟩ | ⟨b', cap, cur, rfl, _, _, _, _, rfl⟩
    · simp [Value.ownBlock] at e
    · simp only [Value.ownBlock, Option.some.injEq] at e
      subst e
      simp [Hl.one]
  rcases hown.2 with ⟨rfl, rfl⟩ | ⟨b, cap, cur, rfl, _, hb, hn, hm, hcs, ht⟩
  · -- nil: nothing was there
    have hvn : v.ownBlock = none := by
      rcases hv with h | ⟨k, h, _⟩
      · rw [← h]; rfl
      · simp [Value.ownBlock] at h
    have h2 : Sat W w' g H := hs.drop.grow hgr.os hgr.tape hgr.output fun k hk => hgr.block k hk (by rw [hvn]; simp)
    exact h2.mknothing.conv fun h e => ⟨hown.1, .inl ⟨rfl, rfl, e⟩⟩
  · refine (hs.replace hgr.os hgr.tape hgr.output (fun a ha => ⟨key a ha, ?_⟩) hb).conv fun h e => ⟨hown.1, .inr ⟨b, cap, cur, rfl, hn, hm, hcs, ht, e⟩⟩
    rcases hv with h | ⟨k, h, hge⟩
    · exact .inl (hblk b a ha h.symm)
    · simp only [Value.ownBlock, Option.some.injEq] at h
      subst h
      exact .inr hge
/-- A new own row. -/
theorem newOwn (hs : Sat W w g H) (hown : w'.ownsRow w.heap.size E size v n xs) (hb : Below w.heap.size w w') : Sat W w' g (own E size v n xs :: H) := by
  have h1 : Sat W w g (own E size (.slice none 0 0) 0 [] :: H) := hs.mknothing.conv fun h e => ⟨by simp, .inl ⟨rfl, rfl, e⟩⟩
  have hlt := hown.lt
  refine h1.turn (owns_base hown fun _ _ => Nat.zero_le _) ⟨hb.os, hb.tape, hb.output, hb.size, fun k hk _ => hb.block k hk⟩ ?_
  cases e : v.ownBlock with
  | none => exact .inl rfl
  | some k => exact .inr ⟨k, rfl, (hlt k e).1⟩
end Sat
/-- A row of the pool's: a slice value that reads as the cells xs. -/
def Pr (size : Nat) (g : Hl) (v : Value) (n : Nat) (xs : List Value) : Prop :=
  xs.length = n * size ∧ ∃ a c, v = .slice a n c ∧ n ≤ c ∧ c ≤ maxLen ∧ (a = none → n = 0 ∧ c = 0) ∧
    (n = 0 ∨ ∃ b o cur e fz, a = some ⟨b, o, none⟩ ∧ g b = some (.cells cur e fz) ∧ (cur.toList.drop o).take (n * size) = xs)
namespace Pr
variable {size : Nat} {g g' : Hl} {v : Value} {n : Nat} {xs : List Value}
theorem mono (h : Pr size g v n xs) (hg : Hl.le g g') : Pr size g' v n xs := by
  obtain ⟨h1, a, c, hv, hn, hc, ha, h⟩ := h
  refine ⟨h1, a, c, hv, hn, hc, ha, h.imp id ?_⟩
  rintro ⟨b, o, cur, t, fz, e, hb, ht⟩
  exact ⟨b, o, cur, t, fz, e, hg _ _ hb, ht⟩
theorem row {W w : World} {H : List HP} (h : Pr size g v n xs) (hs : Sat W w g H) : Row size w (fun _ => True) v n xs := by
  obtain ⟨h1, a, c, hv, hn, hc, ha, h⟩ := h
  refine ⟨h1, a, c, hv, hn, hc, ha, h.imp id ?_⟩
  rintro ⟨b, o, cur, t, fz, e, hb, ht⟩
  exact ⟨b, o, cur, t, fz, e, trivial, hs.pool hb, ht⟩
theorem nil : Pr size g (.slice none 0 0) 0 [] := ⟨by simp, none, 0, rfl, Nat.le_refl _, Nat.zero_le _, fun _ => ⟨rfl, rfl⟩, .inl rfl⟩
theorem len (h : Pr size g v n xs) : ∃ a c, v = .slice a n c ∧ n ≤ c ∧ c ≤ 9223372036854775807 := by
  obtain ⟨_, a, c, hv, hn, hc, _⟩ := h
  exact ⟨a, c, hv, hn, by unfold maxLen at hc; omega⟩
end Pr
namespace Sat
variable {W w w' : World} {g g' : Hl} {P Q A B C : HP} {H H' : List HP} {E : TypeId} {size : Nat} {v : Value} {n : Nat} {xs : List Value}
end Sat
section
variable {Pg : Program} {W w : World} {g : Hl} {H : List HP} {t e : TypeId} {z : Value} {size bytes : Nat}
end
namespace Sat
variable {W w : World} {g : Hl} {H : List HP} {E : TypeId} {size : Nat} {v : Value} {n : Nat} {xs : List Value}
theorem allocAt (hs : Sat W w g H) (b : Nat) (xs : List Value) (e : TypeId) (hb : b = w.heap.size) : Sat W (w.alloc (.cells xs.toArray e)) g (blk b xs e :: H) := by subst hb; exact hs.alloc _
end Sat
/-- A struct's or an array's type, of so many cells. -/
def AggOf (P : Program) (ty : TypeId) (n : Nat) : Prop := ∃ d, P.underlying ty = some d ∧ (match d with | .struct _ | .array _ _ => true | _ => false) = true ∧ (P.info? ty).map (·.size) = some n
section
variable {Pg : Program} {w : World} {fn : Func} {R : Ending → World → Prop} {a : Act} {b : Nat} {xs : List Value} {e ty : TypeId} {p u : Tmp}
theorem run_load_blk (st : AggOf Pg ty xs.length) (hb : Blk w b xs e) : (loadVar ty ⟨b, 0, none⟩).run Pg w = .ok (.agg xs.toArray) w := by
  obtain ⟨d, h1, h2, h3⟩ := st
  exact run_loadVar_row w b e ty xs.toArray (0, 0) d hb h1 (by cases d <;> first | rfl | simp at h2) (by simpa using h3)
end
namespace Sat
variable {W w : World} {g : Hl} {H : List HP} {E : TypeId} {size : Nat} {n c b : Nat} {xs : List Value}
end Sat
namespace Sat
theorem start (W : World) : Sat W W (fun k => W.heap[k]?) [] := ⟨rfl, rfl, rfl, Hl.emp, rfl, Hl.disj_emp _, fun k o h => by simpa [Hl.un, Hl.emp] using h⟩
theorem below {W w : World} {g : Hl} {H : List HP} (hs : Sat W w g H) (hg : Hl.le (fun k => W.heap[k]?) g) : Below W.heap.size W w := by
  have hb : ∀ k, k < W.heap.size → w.heap[k]? = W.heap[k]? := fun k hk => by
    have h : W.heap[k]? = some W.heap[k] := Array.getElem?_eq_getElem hk
    rw [h]
    exact hs.pool (hg k _ h)
  refine ⟨hs.os, hs.tape, hs.output, ?_, hb⟩
  rcases Nat.eq_zero_or_pos W.heap.size with h | h
  · omega
  · have h1 := hb (W.heap.size - 1) (by omega)
    rw [Array.getElem?_eq_getElem (show W.heap.size - 1 < W.heap.size by omega)] at h1
    have := lt_of_block h1
    omega
end Sat
/-- The cells of bytes. -/
def bs (l : List UInt8) : List Value := l.map fun b => .int .u8 b.toNat
@[simp] theorem bs_length (l : List UInt8) : (bs l).length = l.length := by simp [bs]
theorem bs_get {l : List UInt8} {j : Nat} (h : j < l.length) : (bs l)[j]? = some (.int .u8 (l[j].toNat : Int)) := by simp [bs, h]
/-- A slice of integers that came in, as a row of the pool's. -/
theorem pr_ints {k : IntKind} {w : World} {a : Option Addr} {len cap : Nat} {zs : List Int}
    (h : (a = none ∧ len = 0 ∧ cap = 0 ∧ zs = []) ∨ ∃ x, a = some x ∧ len ≤ cap ∧ cap ≤ maxLen ∧ zs.length = cap ∧ (∀ i, i < zs.length → w.cell? (x.add i) = some (.int k (zs.getD i 0))) ∧ ∀ n ∈ zs, (Lit.int k n).wf = true) :
    Pr 1 (fun b => w.heap[b]?) (.slice a len cap) len ((zs.take len).map (Value.int k)) ∧ len ≤ zs.length ∧ ∀ n ∈ zs, (Lit.int k n).wf = true := by
  rcases h with ⟨rfl, rfl, rfl, rfl⟩ | ⟨x, rfl, hl, hm, hz, hc, hwf⟩
  · exact ⟨Pr.nil, Nat.le_refl _, fun n h => by cases h⟩
  · refine ⟨⟨by simp [hz, hl], _, cap, rfl, hl, hm, fun e => by simp at e, ?_⟩, by omega, hwf⟩
    rcases Nat.eq_zero_or_pos len with h0 | h0
    · exact .inl h0
    · obtain ⟨b, o, sp⟩ := x
      have c0 := hc 0 (by omega)
      simp only [Addr.add, if_true] at c0
      have hsp : sp = none := by simpa using World.cell?_spot c0
      subst hsp
      unfold World.cell? at c0
      simp only at c0
      cases hb : w.heap[b]? with
      | none => rw [hb] at c0; simp at c0
      | some ob =>
        cases ob with
        | cells cur e fz =>
          refine .inr ⟨b, o, cur, e, fz, rfl, hb, ?_⟩
          apply List.ext_getElem?
          intro j
          rw [List.getElem?_take, Nat.mul_one]
          by_cases hj : j < len
          · rw [if_pos hj]
            have cj := hc j (by omega)
            rw [Addr.add_lit] at cj
            simp only [World.cell?, hb] at cj
            simp at cj
            rw [List.getElem?_drop, Array.getElem?_toList, cj]
            have hjz : j < zs.length := by omega
            rw [List.getElem?_map, List.getElem?_take]
            simp [hj, hjz]
          · rw [if_neg hj, List.getElem?_eq_none (by simp; omega)]
        | _ => rw [hb] at c0; simp at c0
/-- Bytes that came in. -/
theorem pr_bytes {w : World} {a : Option Addr} {len cap : Nat} {zs : List Int}
    (h : (a = none ∧ len = 0 ∧ cap = 0 ∧ zs = []) ∨ ∃ x, a = some x ∧ len ≤ cap ∧ cap ≤ maxLen ∧ zs.length = cap ∧ (∀ i, i < zs.length → w.cell? (x.add i) = some (.int .u8 (zs.getD i 0))) ∧ ∀ n ∈ zs, (Lit.int .u8 n).wf = true) :
    ∃ l : List UInt8, l.length = len ∧ Pr 1 (fun b => w.heap[b]?) (.slice a len cap) len (bs l) := by
  obtain ⟨h1, h2, h3⟩ := pr_ints h
  refine ⟨(zs.take len).map fun n => UInt8.ofNat n.toNat, by simp [h2], ?_⟩
  have e : bs ((zs.take len).map fun n => UInt8.ofNat n.toNat) = (zs.take len).map (Value.int .u8) := by
    unfold bs
    rw [List.map_map]
    refine List.map_congr_left fun n hn => ?_
    have := h3 n (List.mem_of_mem_take hn)
    simp [Lit.wf, IntKind.min, IntKind.max, IntKind.signed, IntKind.bits] at this
    simp
    omega
  rw [e]
  exact h1
/-- string(b). -/
theorem run_string {P : Program} {w : World} {src dst e : TypeId} (hs : P.underlying src = some (.slice e)) (he : P.underlying e = some (.int .u8)) (hd : P.underlying dst = some .string)
    {D : Nat → Prop} {v : Value} {n : Nat} {l : List UInt8} (h : Row 1 w D v n (bs l)) : (convert src dst v).run P w = .ok (.string ⟨l.toArray⟩) w := by
  rcases h.news with ⟨rfl, rfl, e0⟩ | ⟨a, c, rfl, hl, hc⟩
  · have : l = [] := by simpa [bs] using e0
    subst this
    simp [convert, run_underlying hs, run_underlying hd, run_underlying he, Conv.bytesToString]
    rfl
  · obtain rfl : l.length = n := by simpa using hl
    exact run_convert_bytes_back w src dst e a c l hs he hd fun j hj => hc j _ (bs_get hj)
section
variable {Pg : Program} {W w : World} {g : Hl} {H : List HP} {t e : TypeId} {z : Value} {size bytes : Nat}
end
end Go.Proofs.YtgciifalclgeeaaGreatDoor
