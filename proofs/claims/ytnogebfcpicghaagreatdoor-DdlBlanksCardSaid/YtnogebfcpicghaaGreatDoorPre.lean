import Derived.Test.YtnogebfcpicghaaGreatDoorW1
import Derived.Test.YtnogebfcpicghaaGreatDoorProg
import Derived.KernelRfl
import Derived.Shelf.Lays
import Derived.Shelf.LaysM
import Derived.Shelf.LaysC
import Derived.Deep.RegionLaw
import Derived.Shelf.Strconv.Itoa3
import Derived.Shelf.Strconv.ErrVarAll
import Derived.Shelf.Strings.Replace
import Derived.Shelf.Strings.Search3
set_option linter.all false
set_option linter.unusedVariables false
set_option linter.unusedSimpArgs false
set_option linter.unusedSectionVars false
set_option maxRecDepth 100000
namespace Go.Proofs.Ytnogebfcpicghaa
open Go Lv Go.Proofs Go.RowKit Go.Shelf
def Tryz.lays171_ren : Go.Shelf.Ren := ⟨fun | 171 => 42 | 243 => 76 | 246 => 106 | 283 => 126 | 284 => 127 | 285 => 128 | 286 => 129 | 129 => 144 | 317 => 143 | 318 => 145 | 319 => 146 | 320 => 147 | 337 => 160 | 338 => 161 | n => n, fun | 3 => 3 | 9 => 9 | 2 => 2 | 4 => 4 | 171 => 154 | 0 => 0 | 53 => 122 | 37 => 87 | 5 => 5 | 173 => 157 | 212 => 169 | 51 => 170 | 20 => 20 | 213 => 171 | 46 => 173 | 232 => 194 | 233 => 195 | n => n, fun | 17 => 1 | 18 => 4 | 19 => 5 | n => n⟩
theorem Tryz.lays171 : Go.Proofs.LaysM.n171 Tryz.prog Tryz.lays171_ren where
  mixed := by kernel_rfl
  f129 := Tryz.func144.trans (congrArg some (by kernel_rfl))
  f171 := Tryz.func42.trans (congrArg some (by kernel_rfl))
  f243 := Tryz.func76.trans (congrArg some (by kernel_rfl))
  f246 := Tryz.func106.trans (congrArg some (by kernel_rfl))
  f283 := Tryz.func126.trans (congrArg some (by kernel_rfl))
  f284 := Tryz.func127.trans (congrArg some (by kernel_rfl))
  f285 := Tryz.func128.trans (congrArg some (by kernel_rfl))
  f286 := Tryz.func129.trans (congrArg some (by kernel_rfl))
  f317 := Tryz.func143.trans (congrArg some (by kernel_rfl))
  f318 := Tryz.func145.trans (congrArg some (by kernel_rfl))
  f319 := Tryz.func146.trans (congrArg some (by kernel_rfl))
  f320 := Tryz.func147.trans (congrArg some (by kernel_rfl))
  f337 := Tryz.func160.trans (congrArg some (by kernel_rfl))
  f338 := Tryz.func161.trans (congrArg some (by kernel_rfl))
  t0 := Tryz.underlying0
  a0 := Tryz.isAgg0
  z0 := Tryz.sizeOf0
  v0 := Tryz.zeroValue0
  t2 := Tryz.underlying2
  a2 := Tryz.isAgg2
  z2 := Tryz.sizeOf2
  v2 := Tryz.zeroValue2
  t3 := Tryz.underlying3
  a3 := Tryz.isAgg3
  z3 := Tryz.sizeOf3
  v3 := Tryz.zeroValue3
  t4 := Tryz.underlying4
  a4 := Tryz.isAgg4
  z4 := Tryz.sizeOf4
  v4 := Tryz.zeroValue4
  t5 := Tryz.underlying5
  a5 := Tryz.isAgg5
  z5 := Tryz.sizeOf5
  v5 := Tryz.zeroValue5
  t9 := Tryz.underlying9
  a9 := Tryz.isAgg9
  z9 := Tryz.sizeOf9
  v9 := Tryz.zeroValue9
  t20 := Tryz.underlying20
  a20 := Tryz.isAgg20
  z20 := Tryz.sizeOf20
  v20 := Tryz.zeroValue20
  t37 := Tryz.underlying87
  a37 := Tryz.isAgg87
  z37 := Tryz.sizeOf87
  v37 := Tryz.zeroValue87
  t46 := Tryz.underlying173
  a46 := Tryz.isAgg173
  z46 := Tryz.sizeOf173
  v46 := Tryz.zeroValue173
  t51 := Tryz.underlying170
  a51 := Tryz.isAgg170
  z51 := Tryz.sizeOf170
  v51 := Tryz.zeroValue170
  t53 := Tryz.underlying122
  a53 := Tryz.isAgg122
  z53 := Tryz.sizeOf122
  v53 := Tryz.zeroValue122
  t171 := Tryz.underlying154
  a171 := Tryz.isAgg154
  z171 := Tryz.sizeOf154
  v171 := Tryz.zeroValue154
  t173 := Tryz.underlying157
  a173 := Tryz.isAgg157
  z173 := Tryz.sizeOf157
  v173 := Tryz.zeroValue157
  t212 := Tryz.underlying169
  a212 := Tryz.isAgg169
  z212 := Tryz.sizeOf169
  v212 := Tryz.zeroValue169
  t213 := Tryz.underlying171
  a213 := Tryz.isAgg171
  z213 := Tryz.sizeOf171
  t232 := Tryz.underlying194
  a232 := Tryz.isAgg194
  z232 := Tryz.sizeOf194
  v232 := Tryz.zeroValue194
  t233 := Tryz.underlying195
  a233 := Tryz.isAgg195
  z233 := Tryz.sizeOf195
  v233 := Tryz.zeroValue195
  g17 := by kernel_rfl
  g18 := by kernel_rfl
  g19 := by kernel_rfl
  i0 := by kernel_rfl
  i2 := by kernel_rfl
  i3 := by kernel_rfl
  i4 := by kernel_rfl
  i5 := by kernel_rfl
  i9 := by kernel_rfl
  i20 := by kernel_rfl
  i37 := by kernel_rfl
  i46 := by kernel_rfl
  i51 := by kernel_rfl
  i53 := by kernel_rfl
  i171 := by kernel_rfl
  i173 := by kernel_rfl
  i212 := by kernel_rfl
  i232 := by kernel_rfl
  i233 := by kernel_rfl
  m17 := by kernel_rfl
  m18 := by kernel_rfl
  m19 := by kernel_rfl
def Tryz.lays144_ren : Go.Shelf.Ren := ⟨fun | 144 => 99 | 143 => 119 | 219 => 138 | 217 => 153 | 225 => 154 | 224 => 155 | 267 => 156 | 266 => 165 | 314 => 166 | n => n, fun | 9 => 9 | 4 => 4 | 3 => 3 | 5 => 5 | 46 => 173 | 146 => 190 | 51 => 170 | n => n, fun | 1 => 0 | n => n⟩
theorem Tryz.lays144 : Go.Proofs.Lays.n144 Tryz.prog Tryz.lays144_ren where
  mixed := by kernel_rfl
  f143 := Tryz.func119.trans (congrArg some (by kernel_rfl))
  f144 := Tryz.func99.trans (congrArg some (by kernel_rfl))
  f217 := Tryz.func153.trans (congrArg some (by kernel_rfl))
  f219 := Tryz.func138.trans (congrArg some (by kernel_rfl))
  f224 := Tryz.func155.trans (congrArg some (by kernel_rfl))
  f225 := Tryz.func154.trans (congrArg some (by kernel_rfl))
  f266 := Tryz.func165.trans (congrArg some (by kernel_rfl))
  f267 := Tryz.func156.trans (congrArg some (by kernel_rfl))
  f314 := Tryz.func166.trans (congrArg some (by kernel_rfl))
  t3 := Tryz.underlying3
  a3 := Tryz.isAgg3
  z3 := Tryz.sizeOf3
  v3 := Tryz.zeroValue3
  t4 := Tryz.underlying4
  a4 := Tryz.isAgg4
  z4 := Tryz.sizeOf4
  v4 := Tryz.zeroValue4
  t5 := Tryz.underlying5
  a5 := Tryz.isAgg5
  z5 := Tryz.sizeOf5
  v5 := Tryz.zeroValue5
  t9 := Tryz.underlying9
  a9 := Tryz.isAgg9
  z9 := Tryz.sizeOf9
  v9 := Tryz.zeroValue9
  t46 := Tryz.underlying173
  a46 := Tryz.isAgg173
  z46 := Tryz.sizeOf173
  v46 := Tryz.zeroValue173
  t51 := Tryz.underlying170
  a51 := Tryz.isAgg170
  z51 := Tryz.sizeOf170
  v51 := Tryz.zeroValue170
  t146 := Tryz.underlying190
  a146 := Tryz.isAgg190
  z146 := Tryz.sizeOf190
  v146 := Tryz.zeroValue190
  g1 := by kernel_rfl
def Tryz.lays155_ren : Go.Shelf.Ren := ⟨fun | 155 => 142 | 154 => 159 | 138 => 168 | 165 => 45 | 143 => 119 | 166 => 46 | 197 => 169 | 169 => 47 | 195 => 172 | 218 => 173 | 240 => 77 | 241 => 78 | 219 => 138 | 260 => 174 | 276 => 107 | 277 => 108 | 217 => 153 | 225 => 154 | 224 => 155 | 267 => 156 | 266 => 165 | 314 => 166 | n => n, fun | 9 => 9 | 3 => 3 | 4 => 4 | 72 => 89 | 0 => 0 | 76 => 92 | 105 => 192 | 21 => 21 | 5 => 5 | 70 => 86 | 20 => 20 | 37 => 87 | 75 => 91 | 127 => 120 | 164 => 142 | 46 => 173 | 119 => 201 | 139 => 204 | 138 => 203 | 146 => 190 | 51 => 170 | 80 => 94 | n => n, fun | 1 => 0 | 3 => 6 | 4 => 7 | n => n⟩
theorem Tryz.lays155 : Go.Proofs.Lays.n155 Tryz.prog Tryz.lays155_ren where
  mixed := by kernel_rfl
  f138 := Tryz.func168.trans (congrArg some (by kernel_rfl))
  f143 := Tryz.func119.trans (congrArg some (by kernel_rfl))
  f154 := Tryz.func159.trans (congrArg some (by kernel_rfl))
  f155 := Tryz.func142.trans (congrArg some (by kernel_rfl))
  f165 := Tryz.func45.trans (congrArg some (by kernel_rfl))
  f166 := Tryz.func46.trans (congrArg some (by kernel_rfl))
  f169 := Tryz.func47.trans (congrArg some (by kernel_rfl))
  f195 := Tryz.func172.trans (congrArg some (by kernel_rfl))
  f197 := Tryz.func169.trans (congrArg some (by kernel_rfl))
  f217 := Tryz.func153.trans (congrArg some (by kernel_rfl))
  f218 := Tryz.func173.trans (congrArg some (by kernel_rfl))
  f219 := Tryz.func138.trans (congrArg some (by kernel_rfl))
  f224 := Tryz.func155.trans (congrArg some (by kernel_rfl))
  f225 := Tryz.func154.trans (congrArg some (by kernel_rfl))
  f240 := Tryz.func77.trans (congrArg some (by kernel_rfl))
  f241 := Tryz.func78.trans (congrArg some (by kernel_rfl))
  f260 := Tryz.func174.trans (congrArg some (by kernel_rfl))
  f266 := Tryz.func165.trans (congrArg some (by kernel_rfl))
  f267 := Tryz.func156.trans (congrArg some (by kernel_rfl))
  f276 := Tryz.func107.trans (congrArg some (by kernel_rfl))
  f277 := Tryz.func108.trans (congrArg some (by kernel_rfl))
  f314 := Tryz.func166.trans (congrArg some (by kernel_rfl))
  t0 := Tryz.underlying0
  a0 := Tryz.isAgg0
  z0 := Tryz.sizeOf0
  v0 := Tryz.zeroValue0
  t3 := Tryz.underlying3
  a3 := Tryz.isAgg3
  z3 := Tryz.sizeOf3
  v3 := Tryz.zeroValue3
  t4 := Tryz.underlying4
  a4 := Tryz.isAgg4
  z4 := Tryz.sizeOf4
  v4 := Tryz.zeroValue4
  t5 := Tryz.underlying5
  a5 := Tryz.isAgg5
  z5 := Tryz.sizeOf5
  v5 := Tryz.zeroValue5
  t9 := Tryz.underlying9
  a9 := Tryz.isAgg9
  z9 := Tryz.sizeOf9
  v9 := Tryz.zeroValue9
  t20 := Tryz.underlying20
  a20 := Tryz.isAgg20
  z20 := Tryz.sizeOf20
  v20 := Tryz.zeroValue20
  t21 := Tryz.underlying21
  a21 := Tryz.isAgg21
  z21 := Tryz.sizeOf21
  v21 := Tryz.zeroValue21
  t37 := Tryz.underlying87
  a37 := Tryz.isAgg87
  z37 := Tryz.sizeOf87
  v37 := Tryz.zeroValue87
  t46 := Tryz.underlying173
  a46 := Tryz.isAgg173
  z46 := Tryz.sizeOf173
  v46 := Tryz.zeroValue173
  t51 := Tryz.underlying170
  a51 := Tryz.isAgg170
  z51 := Tryz.sizeOf170
  v51 := Tryz.zeroValue170
  t70 := Tryz.underlying86
  a70 := Tryz.isAgg86
  z70 := Tryz.sizeOf86
  v70 := Tryz.zeroValue86
  t72 := Tryz.underlying89
  a72 := Tryz.isAgg89
  z72 := Tryz.sizeOf89
  v72 := Tryz.zeroValue89
  t75 := Tryz.underlying91
  a75 := Tryz.isAgg91
  z75 := Tryz.sizeOf91
  v75 := Tryz.zeroValue91
  t76 := Tryz.underlying92
  a76 := Tryz.isAgg92
  z76 := Tryz.sizeOf92
  v76 := Tryz.zeroValue92
  t105 := Tryz.underlying192
  a105 := Tryz.isAgg192
  z105 := Tryz.sizeOf192
  v105 := Tryz.zeroValue192
  t119 := Tryz.underlying201
  a119 := Tryz.isAgg201
  z119 := Tryz.sizeOf201
  t127 := Tryz.underlying120
  a127 := Tryz.isAgg120
  z127 := Tryz.sizeOf120
  v127 := Tryz.zeroValue120
  t138 := Tryz.underlying203
  a138 := Tryz.isAgg203
  z138 := Tryz.sizeOf203
  v138 := Tryz.zeroValue203
  t139 := Tryz.underlying204
  a139 := Tryz.isAgg204
  z139 := Tryz.sizeOf204
  v139 := Tryz.zeroValue204
  t146 := Tryz.underlying190
  a146 := Tryz.isAgg190
  z146 := Tryz.sizeOf190
  v146 := Tryz.zeroValue190
  t164 := Tryz.underlying142
  a164 := Tryz.isAgg142
  z164 := Tryz.sizeOf142
  v164 := Tryz.zeroValue142
  g1 := by kernel_rfl
  g3 := by kernel_rfl
  g4 := by kernel_rfl
def Tryz.lays156_ren : Go.Shelf.Ren := ⟨fun | 156 => 21 | 165 => 45 | 166 => 46 | 169 => 47 | 240 => 77 | 241 => 78 | 276 => 107 | 277 => 108 | n => n, fun | 31 => 55 | 9 => 9 | 3 => 3 | 4 => 4 | 0 => 0 | 20 => 20 | 72 => 89 | 76 => 92 | 70 => 86 | 37 => 87 | 75 => 91 | 127 => 120 | 164 => 142 | 5 => 5 | 80 => 94 | n => n, fun | n => n⟩
theorem Tryz.lays156 : Go.Proofs.Lays.n156 Tryz.prog Tryz.lays156_ren where
  mixed := by kernel_rfl
  f156 := Tryz.func21.trans (congrArg some (by kernel_rfl))
  f165 := Tryz.func45.trans (congrArg some (by kernel_rfl))
  f166 := Tryz.func46.trans (congrArg some (by kernel_rfl))
  f169 := Tryz.func47.trans (congrArg some (by kernel_rfl))
  f240 := Tryz.func77.trans (congrArg some (by kernel_rfl))
  f241 := Tryz.func78.trans (congrArg some (by kernel_rfl))
  f276 := Tryz.func107.trans (congrArg some (by kernel_rfl))
  f277 := Tryz.func108.trans (congrArg some (by kernel_rfl))
  t0 := Tryz.underlying0
  a0 := Tryz.isAgg0
  z0 := Tryz.sizeOf0
  v0 := Tryz.zeroValue0
  t3 := Tryz.underlying3
  a3 := Tryz.isAgg3
  z3 := Tryz.sizeOf3
  v3 := Tryz.zeroValue3
  t4 := Tryz.underlying4
  a4 := Tryz.isAgg4
  z4 := Tryz.sizeOf4
  v4 := Tryz.zeroValue4
  t9 := Tryz.underlying9
  a9 := Tryz.isAgg9
  z9 := Tryz.sizeOf9
  v9 := Tryz.zeroValue9
  t20 := Tryz.underlying20
  a20 := Tryz.isAgg20
  z20 := Tryz.sizeOf20
  v20 := Tryz.zeroValue20
  t31 := Tryz.underlying55
  a31 := Tryz.isAgg55
  z31 := Tryz.sizeOf55
  v31 := Tryz.zeroValue55
  t37 := Tryz.underlying87
  a37 := Tryz.isAgg87
  z37 := Tryz.sizeOf87
  v37 := Tryz.zeroValue87
  t70 := Tryz.underlying86
  a70 := Tryz.isAgg86
  z70 := Tryz.sizeOf86
  v70 := Tryz.zeroValue86
  t72 := Tryz.underlying89
  a72 := Tryz.isAgg89
  z72 := Tryz.sizeOf89
  v72 := Tryz.zeroValue89
  t75 := Tryz.underlying91
  a75 := Tryz.isAgg91
  z75 := Tryz.sizeOf91
  v75 := Tryz.zeroValue91
  t76 := Tryz.underlying92
  a76 := Tryz.isAgg92
  z76 := Tryz.sizeOf92
  v76 := Tryz.zeroValue92
  t127 := Tryz.underlying120
  a127 := Tryz.isAgg120
  z127 := Tryz.sizeOf120
  v127 := Tryz.zeroValue120
  t164 := Tryz.underlying142
  a164 := Tryz.isAgg142
  z164 := Tryz.sizeOf142
  v164 := Tryz.zeroValue142
def Tryz.lays169_ren : Go.Shelf.Ren := ⟨fun | 169 => 47 | n => n, fun | 70 => 86 | 9 => 9 | 0 => 0 | 72 => 89 | 37 => 87 | 127 => 120 | 3 => 3 | 5 => 5 | n => n, fun | n => n⟩
theorem Tryz.lays169 : Go.Proofs.Lays.n169 Tryz.prog Tryz.lays169_ren where
  mixed := by kernel_rfl
  f169 := Tryz.func47.trans (congrArg some (by kernel_rfl))
  t0 := Tryz.underlying0
  a0 := Tryz.isAgg0
  z0 := Tryz.sizeOf0
  v0 := Tryz.zeroValue0
  t3 := Tryz.underlying3
  a3 := Tryz.isAgg3
  z3 := Tryz.sizeOf3
  v3 := Tryz.zeroValue3
  t9 := Tryz.underlying9
  a9 := Tryz.isAgg9
  z9 := Tryz.sizeOf9
  v9 := Tryz.zeroValue9
  t37 := Tryz.underlying87
  a37 := Tryz.isAgg87
  z37 := Tryz.sizeOf87
  v37 := Tryz.zeroValue87
  t70 := Tryz.underlying86
  a70 := Tryz.isAgg86
  z70 := Tryz.sizeOf86
  v70 := Tryz.zeroValue86
  t72 := Tryz.underlying89
  a72 := Tryz.isAgg89
  z72 := Tryz.sizeOf89
  v72 := Tryz.zeroValue89
  t127 := Tryz.underlying120
  a127 := Tryz.isAgg120
  z127 := Tryz.sizeOf120
  v127 := Tryz.zeroValue120
def Tryz.lays172_ren : Go.Shelf.Ren := ⟨fun | 172 => 116 | 244 => 136 | 245 => 137 | 247 => 148 | 279 => 149 | 280 => 150 | 281 => 151 | 282 => 152 | 287 => 162 | 316 => 163 | 171 => 42 | 205 => 164 | 321 => 170 | 322 => 171 | 243 => 76 | 246 => 106 | 283 => 126 | 284 => 127 | 285 => 128 | 286 => 129 | 129 => 144 | 317 => 143 | 318 => 145 | 319 => 146 | 320 => 147 | 337 => 160 | 338 => 161 | n => n, fun | 9 => 9 | 3 => 3 | 75 => 91 | 76 => 92 | 4 => 4 | 5 => 5 | 167 => 175 | 37 => 87 | 0 => 0 | 85 => 176 | 2 => 2 | 168 => 178 | 53 => 122 | 175 => 184 | 46 => 173 | 210 => 188 | 127 => 120 | 145 => 199 | 143 => 197 | 21 => 21 | 171 => 154 | 173 => 157 | 212 => 169 | 51 => 170 | 20 => 20 | 213 => 171 | 232 => 194 | 233 => 195 | 80 => 94 | n => n, fun | 15 => 2 | 16 => 3 | 17 => 1 | 18 => 4 | 19 => 5 | n => n⟩
theorem Tryz.lays172 : Go.Proofs.LaysC.n172 Tryz.prog Tryz.lays172_ren where
  mixed := by kernel_rfl
  f129 := Tryz.func144.trans (congrArg some (by kernel_rfl))
  f171 := Tryz.func42.trans (congrArg some (by kernel_rfl))
  f172 := Tryz.func116.trans (congrArg some (by kernel_rfl))
  f205 := Tryz.func164.trans (congrArg some (by kernel_rfl))
  f243 := Tryz.func76.trans (congrArg some (by kernel_rfl))
  f244 := Tryz.func136.trans (congrArg some (by kernel_rfl))
  f245 := Tryz.func137.trans (congrArg some (by kernel_rfl))
  f246 := Tryz.func106.trans (congrArg some (by kernel_rfl))
  f247 := Tryz.func148.trans (congrArg some (by kernel_rfl))
  f279 := Tryz.func149.trans (congrArg some (by kernel_rfl))
  f280 := Tryz.func150.trans (congrArg some (by kernel_rfl))
  f281 := Tryz.func151.trans (congrArg some (by kernel_rfl))
  f282 := Tryz.func152.trans (congrArg some (by kernel_rfl))
  f283 := Tryz.func126.trans (congrArg some (by kernel_rfl))
  f284 := Tryz.func127.trans (congrArg some (by kernel_rfl))
  f285 := Tryz.func128.trans (congrArg some (by kernel_rfl))
  f286 := Tryz.func129.trans (congrArg some (by kernel_rfl))
  f287 := Tryz.func162.trans (congrArg some (by kernel_rfl))
  f316 := Tryz.func163.trans (congrArg some (by kernel_rfl))
  f317 := Tryz.func143.trans (congrArg some (by kernel_rfl))
  f318 := Tryz.func145.trans (congrArg some (by kernel_rfl))
  f319 := Tryz.func146.trans (congrArg some (by kernel_rfl))
  f320 := Tryz.func147.trans (congrArg some (by kernel_rfl))
  f321 := Tryz.func170.trans (congrArg some (by kernel_rfl))
  f322 := Tryz.func171.trans (congrArg some (by kernel_rfl))
  f337 := Tryz.func160.trans (congrArg some (by kernel_rfl))
  f338 := Tryz.func161.trans (congrArg some (by kernel_rfl))
  t0 := Tryz.underlying0
  a0 := Tryz.isAgg0
  z0 := Tryz.sizeOf0
  v0 := Tryz.zeroValue0
  t2 := Tryz.underlying2
  a2 := Tryz.isAgg2
  z2 := Tryz.sizeOf2
  v2 := Tryz.zeroValue2
  t3 := Tryz.underlying3
  a3 := Tryz.isAgg3
  z3 := Tryz.sizeOf3
  v3 := Tryz.zeroValue3
  t4 := Tryz.underlying4
  a4 := Tryz.isAgg4
  z4 := Tryz.sizeOf4
  v4 := Tryz.zeroValue4
  t5 := Tryz.underlying5
  a5 := Tryz.isAgg5
  z5 := Tryz.sizeOf5
  v5 := Tryz.zeroValue5
  t9 := Tryz.underlying9
  a9 := Tryz.isAgg9
  z9 := Tryz.sizeOf9
  v9 := Tryz.zeroValue9
  t20 := Tryz.underlying20
  a20 := Tryz.isAgg20
  z20 := Tryz.sizeOf20
  v20 := Tryz.zeroValue20
  t21 := Tryz.underlying21
  a21 := Tryz.isAgg21
  z21 := Tryz.sizeOf21
  v21 := Tryz.zeroValue21
  t37 := Tryz.underlying87
  a37 := Tryz.isAgg87
  z37 := Tryz.sizeOf87
  v37 := Tryz.zeroValue87
  t46 := Tryz.underlying173
  a46 := Tryz.isAgg173
  z46 := Tryz.sizeOf173
  v46 := Tryz.zeroValue173
  t51 := Tryz.underlying170
  a51 := Tryz.isAgg170
  z51 := Tryz.sizeOf170
  v51 := Tryz.zeroValue170
  t53 := Tryz.underlying122
  a53 := Tryz.isAgg122
  z53 := Tryz.sizeOf122
  v53 := Tryz.zeroValue122
  t75 := Tryz.underlying91
  a75 := Tryz.isAgg91
  z75 := Tryz.sizeOf91
  v75 := Tryz.zeroValue91
  t76 := Tryz.underlying92
  a76 := Tryz.isAgg92
  z76 := Tryz.sizeOf92
  v76 := Tryz.zeroValue92
  t85 := Tryz.underlying176
  a85 := Tryz.isAgg176
  z85 := Tryz.sizeOf176
  v85 := Tryz.zeroValue176
  t127 := Tryz.underlying120
  a127 := Tryz.isAgg120
  z127 := Tryz.sizeOf120
  v127 := Tryz.zeroValue120
  t143 := Tryz.underlying197
  a143 := Tryz.isAgg197
  z143 := Tryz.sizeOf197
  v143 := Tryz.zeroValue197
  t145 := Tryz.underlying199
  a145 := Tryz.isAgg199
  z145 := Tryz.sizeOf199
  v145 := Tryz.zeroValue199
  t167 := Tryz.underlying175
  a167 := Tryz.isAgg175
  z167 := Tryz.sizeOf175
  v167 := Tryz.zeroValue175
  t168 := Tryz.underlying178
  a168 := Tryz.isAgg178
  z168 := Tryz.sizeOf178
  v168 := Tryz.zeroValue178
  t171 := Tryz.underlying154
  a171 := Tryz.isAgg154
  z171 := Tryz.sizeOf154
  v171 := Tryz.zeroValue154
  t173 := Tryz.underlying157
  a173 := Tryz.isAgg157
  z173 := Tryz.sizeOf157
  v173 := Tryz.zeroValue157
  t175 := Tryz.underlying184
  a175 := Tryz.isAgg184
  z175 := Tryz.sizeOf184
  v175 := Tryz.zeroValue184
  t210 := Tryz.underlying188
  a210 := Tryz.isAgg188
  z210 := Tryz.sizeOf188
  v210 := Tryz.zeroValue188
  t212 := Tryz.underlying169
  a212 := Tryz.isAgg169
  z212 := Tryz.sizeOf169
  v212 := Tryz.zeroValue169
  t213 := Tryz.underlying171
  a213 := Tryz.isAgg171
  z213 := Tryz.sizeOf171
  t232 := Tryz.underlying194
  a232 := Tryz.isAgg194
  z232 := Tryz.sizeOf194
  v232 := Tryz.zeroValue194
  t233 := Tryz.underlying195
  a233 := Tryz.isAgg195
  z233 := Tryz.sizeOf195
  v233 := Tryz.zeroValue195
  g15 := by kernel_rfl
  g16 := by kernel_rfl
  g17 := by kernel_rfl
  g18 := by kernel_rfl
  g19 := by kernel_rfl
  t80 := Tryz.underlying94
  a80 := Tryz.isAgg94
  z80 := Tryz.sizeOf94
  v80 := Tryz.zeroValue94
  i0 := by kernel_rfl
  i2 := by kernel_rfl
  i3 := by kernel_rfl
  i4 := by kernel_rfl
  i5 := by kernel_rfl
  i9 := by kernel_rfl
  i20 := by kernel_rfl
  i21 := by kernel_rfl
  i37 := by kernel_rfl
  i46 := by kernel_rfl
  i51 := by kernel_rfl
  i53 := by kernel_rfl
  i75 := by kernel_rfl
  i76 := by kernel_rfl
  i80 := by kernel_rfl
  i85 := by kernel_rfl
  i127 := by kernel_rfl
  i143 := by kernel_rfl
  i145 := by kernel_rfl
  i167 := by kernel_rfl
  i168 := by kernel_rfl
  i171 := by kernel_rfl
  i173 := by kernel_rfl
  i175 := by kernel_rfl
  i210 := by kernel_rfl
  i212 := by kernel_rfl
  i232 := by kernel_rfl
  i233 := by kernel_rfl
  m15 := by kernel_rfl
  m16 := by kernel_rfl
  m17 := by kernel_rfl
  m18 := by kernel_rfl
  m19 := by kernel_rfl
  c0 := by kernel_rfl
  c2 := by kernel_rfl
  c3 := by kernel_rfl
  c4 := by kernel_rfl
  c5 := by kernel_rfl
  c9 := by kernel_rfl
  c20 := by kernel_rfl
  c21 := by kernel_rfl
  c37 := by kernel_rfl
  c46 := by kernel_rfl
  c51 := by kernel_rfl
  c53 := by kernel_rfl
  c75 := by kernel_rfl
  c76 := by kernel_rfl
  c80 := by kernel_rfl
  c85 := by kernel_rfl
  c127 := by kernel_rfl
  c143 := by kernel_rfl
  c145 := by kernel_rfl
  c167 := by kernel_rfl
  c168 := by kernel_rfl
  c171 := by kernel_rfl
  c173 := by kernel_rfl
  c175 := by kernel_rfl
  c210 := by kernel_rfl
  c212 := by kernel_rfl
  c213 := by kernel_rfl
  c232 := by kernel_rfl
  c233 := by kernel_rfl
@[reducible] noncomputable def gvars : List (String × Nat × (Array Value → Prop)) := [
  ("internal/bytealg.MaxLen", 0, fun cs => ∃ m, cs[0]? = some (.int .i64 m)),
  ("internal/strconv.uint64pow10", 1, fun cs => cs = (Lib.pow10Tab.map fun z => Value.int .u64 z).toArray),
  ("strconv.ErrSyntax", 2, fun cs => ∃ t p, cs = #[.iface t p]),
  ("strconv.ErrRange", 3, fun cs => ∃ t p, cs = #[.iface t p])]
noncomputable instance hasG : HasG := varG Tryz.prog gvars false
theorem g0 {w : World} (h : HasG.hold w) : ∃ m, w.cell? ⟨0, 0, none⟩ = some (.int .i64 m) := by
  have h : ∀ v ∈ gvars, VarIs Tryz.prog w v := h
  obtain ⟨h1, cs, h2, m, h3⟩ := h (gvars[0]'(by simp [gvars])) (by simp [gvars])
  exact ⟨m, (World.var?_cell h1 h2 0).trans h3⟩
theorem g1 {w : World} (h : HasG.hold w) : Lib.TabIs Tryz.prog w "internal/strconv.uint64pow10" .u64 Lib.pow10Tab := by
  have h : ∀ v ∈ gvars, VarIs Tryz.prog w v := h
  obtain ⟨h1, cs, h2, rfl⟩ := h (gvars[1]'(by simp [gvars])) (by simp [gvars])
  exact h2
theorem g2 {w : World} (h : HasG.hold w) : ∃ t p, w.var? Tryz.prog "strconv.ErrSyntax" = some #[.iface t p] := by
  have h : ∀ v ∈ gvars, VarIs Tryz.prog w v := h
  obtain ⟨h1, cs, h2, t, p, rfl⟩ := h (gvars[2]'(by simp [gvars])) (by simp [gvars])
  exact ⟨t, p, h2⟩
theorem g3 {w : World} (h : HasG.hold w) : ∃ t p, w.var? Tryz.prog "strconv.ErrRange" = some #[.iface t p] := by
  have h : ∀ v ∈ gvars, VarIs Tryz.prog w v := h
  obtain ⟨h1, cs, h2, t, p, rfl⟩ := h (gvars[3]'(by simp [gvars])) (by simp [gvars])
  exact ⟨t, p, h2⟩
theorem grow_below (w : World) (k : Nat) (os : Array Obj) : Below w.heap.size w (Sort.grow (w.drewN k) os) :=
  ⟨rfl, rfl, rfl, by simp [Sort.grow], fun b hb => by simp [Sort.grow, Array.getElem?_append_left, hb]⟩

noncomputable def itoaB (n : Int) : ByteArray := ⟨(Lib.itoa n).toArray⟩
noncomputable def itoaF : Int × Unit → Option (ByteArray × Unit) := fun (n, _) => if -9223372036854775808 ≤ n ∧ n ≤ 9223372036854775807 then some (itoaB n, ()) else none
theorem itoa_ok : SpecOk Tryz.prog 42 ⟨1, ⟨[(0, .v false [.int .i64])], [], [], 0, []⟩, ⟨[(0, .v false [.str])], [], [], 1000, []⟩, itoaF⟩ :=
  i2s_spec (F := itoaB) rfl fun n w h0 h1 hg => (Any.strconv_Itoa Tryz.lays171 n h0 h1 w (g1 hg)).mono (by
    rintro e w' ⟨rfl, k, os, rfl⟩
    exact ⟨rfl, grow_below w k os⟩)
noncomputable def containsF : ByteArray × ByteArray × Unit → Option (Bool × Unit) := fun (a, b, _) => if a.size < 4294967281 then some (Lib.contains a.data.toList b.data.toList, ()) else none
theorem contains_ok : SpecOk Tryz.prog 99 ⟨2, ⟨[(0, .v false [.str]), (1, .v false [.str])], [], [], 0, []⟩, ⟨[(0, .v false [.bool])], [], [], 1000, []⟩, containsF⟩ :=
  ss2b_spec (F := fun a b => Lib.contains a.data.toList b.data.toList) (C := fun a _ => a.size < 4294967281) rfl fun a b w hc hg => by
    obtain ⟨m, hm⟩ := g0 hg
    refine (Any.strings_Contains Tryz.lays144 a b m w hc hm).mono ?_
    rintro e w' ⟨rfl, rfl⟩
    exact ⟨rfl, Below.refl _ _⟩
theorem bldX : Builder.Extra Tryz.prog Tryz.lays156_ren where
  sizeBuilder := by kernel_rfl
  liesBuilder := by kernel_rfl
  t5 := by kernel_rfl
  a5 := run_isAgg_plain (d := .int .u8) (by kernel_rfl) rfl
  z5 := fun w => by rfl
  v5 := fun w => by rfl
  infoByte := by kernel_rfl
  cellsByte := by kernel_rfl
  sizeByte := by kernel_rfl
  neB5 := by decide
noncomputable def replaceB (a b c : ByteArray) : ByteArray := ⟨(Lib.replaceAll a.data.toList b.data.toList c.data.toList).toArray⟩
noncomputable def replaceF : ByteArray × ByteArray × ByteArray × Unit → Option (ByteArray × Unit) := fun (a, b, c, _) => if a.size < 4294967281 ∧ 1 ≤ b.size ∧ a.size + Lib.countB a b * c.size ≤ 140737488355328 then some (replaceB a b c, ()) else none
theorem replace_ok : SpecOk Tryz.prog 142 ⟨3, ⟨[(0, .v false [.str]), (1, .v false [.str]), (2, .v false [.str])], [], [], 0, []⟩, ⟨[(0, .v false [.str])], [], [], 1000, []⟩, replaceF⟩ :=
  sss2s_spec (F := replaceB) (C := fun a b c => a.size < 4294967281 ∧ 1 ≤ b.size ∧ a.size + Lib.countB a b * c.size ≤ 140737488355328) rfl fun a b c w hc hg => by
    obtain ⟨m, hm⟩ := g0 hg
    exact Any.strings_ReplaceAll Tryz.lays155 { bldX with } a b c m w hc.1 hm hc.2.1 hc.2.2
theorem join_ok : SpecOk Tryz.prog 21 ⟨2, ⟨[(0, .v false [.sl 9 .str]), (1, .v false [.str])], [], [], 0, []⟩, ⟨[(0, .v false [.str])], [], [], 1000, []⟩, fun (xs, sep, _) => if xs.length ≤ 140737488355328 ∧ (joinB xs sep).size ≤ 140737488355328 then some (joinB xs sep, ()) else none⟩ :=
  join_spec rfl Tryz.lays156 bldX rfl
theorem check_ok : SpecOk Tryz.prog 77 ⟨1, ⟨[(0, .v false [.ptr 0 0])], [(0, true, .box 89 [.np 0, .ref 1]), (1, true, .arr 5 (.int .u8))], [], 2, []⟩,
      ⟨[(0, .tup [])], [(0, true, .box 89 [.np 0, .ref 1000]), (1000, true, .arr 5 (.int .u8))], [], 1001, []⟩, fun (bs, _) => some (bs, ())⟩ :=
  bld_check_spec rfl (ρs := Tryz.lays156_ren) { Tryz.lays156 with } bldX.toX72 rfl rfl
theorem string_ok : SpecOk Tryz.prog 47 ⟨1, ⟨[(0, .v false [.ptr 0 0])], [(0, true, .box 89 [.np 0, .ref 1]), (1, true, .arr 5 (.int .u8))], [], 2, []⟩, ⟨[(0, .v false [.str])], [], [], 1000, []⟩,
      fun (bs, _) => if (∀ x ∈ bs, 0 ≤ x ∧ x < 256) then some (bytesOf bs, ()) else none⟩ :=
  bld_string_spec rfl (ρs := Tryz.lays156_ren) { Tryz.lays156 with } bldX rfl rfl rfl
noncomputable def atoiR (s : ByteArray) : Int × Bool := match Lib.atoiAll s.data.toList with
  | .ok v => (v, true)
  | .range => (Lib.atoiSat s.data.toList, false)
  | _ => (0, false)
noncomputable def atoiF : ByteArray × Unit → Option (Int × Bool × Unit) := fun (a, _) => if a.size ≤ 281474976710656 then some ((atoiR a).1, (atoiR a).2, ()) else none
theorem atoi_ok : SpecOk Tryz.prog 116 ⟨1, ⟨[(0, .v false [.str])], [], [], 0, []⟩, ⟨[(0, .tup [(false, [.int .i64]), (false, [.ifc])])], [], [], 1000, []⟩, atoiF⟩ :=
  s2ie_spec (F := atoiR) (C := fun a => a.size ≤ 281474976710656) rfl fun a w hc hg => by
    cases h : Lib.atoiAll a.data.toList with
    | ok v =>
      refine (Any.strconv_Atoi_ok Tryz.lays172 a (by omega) v h w).mono ?_
      rintro e w' ⟨rfl, hw⟩
      refine ⟨.nilIface, by simp [atoiR, h], .inl ⟨by simp [atoiR, h], rfl⟩, ?_⟩
      rcases hw with rfl | ⟨t, rfl⟩
      · exact Below.refl _ _
      · exact Lib.below_freeze ((Below.drew (Below.refl _ w)).alloc (Nat.le_refl _) _) (p := ⟨w.heap.size, _, none⟩) (Nat.le_refl _) 1
    | range =>
      obtain ⟨t, p, hv⟩ := g3 hg
      refine (Any.strconv_Atoi_range_var Tryz.lays172 a hc h t p w hv).mono ?_
      rintro e w' ⟨N, rfl, _, _, hb⟩
      refine ⟨.iface (Tryz.lays172_ren.t 168) (.pointer (some ⟨N, 0, none⟩)), ?_, .inr ⟨by simp [atoiR, h], _, _, rfl⟩, hb⟩
      simp [atoiR, h]
    | _ =>
      obtain ⟨t, p, hv⟩ := g2 hg
      refine (Any.strconv_Atoi_syntax_var Tryz.lays172 a hc h t p w hv).mono ?_
      rintro e w' ⟨N, rfl, _, _, hb⟩
      refine ⟨.iface (Tryz.lays172_ren.t 168) (.pointer (some ⟨N, 0, none⟩)), ?_, .inr ⟨by simp [atoiR, h], _, _, rfl⟩, hb⟩
      simp [atoiR, h]
end Go.Proofs.Ytnogebfcpicghaa
