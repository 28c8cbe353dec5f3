/- The law holds: part 350. Conditions: none. -/
import Derived.Test.YtpndfdfipkadkaaGreatDoorKU4
import Derived.Test.YtpndfdfipkadkaaGreatDoorKU5
import Derived.Shelf.LaysM
import Derived.Shelf.Strconv.Itoa3
import Derived.Shelf.Strings.Search2
import Derived.Shelf.Strconv.AtoiAll
import Derived.Shelf.Strconv.ErrVarAll
import Derived.Shelf.Strings.Prefix
import Derived.Shelf.Strings.OnBuilder
import Derived.Test.YtpndfdfipkadkaaGreatDoorProg
import Derived.Lib.IndexLaws
set_option linter.all false
namespace Go.Proofs
open Go.Shelf
def Tryz.laysM171_ren:Go.Shelf.Ren:=⟨fun | 171=>72 | 243=>142 | 246=>192 | 283=>225 | 284=>226 | 285=>227 | 286=>228 | 129=>255 | 317=>264 | 318=>265 | 319=>266 | 320=>267 | 337=>290 | 338=>291 | n=>n,fun | 3=>3 | 9=>9 | 2=>2 | 4=>4 | 171=>258 | 0=>0 | 53=>259 | 37=>170 | 5=>5 | 173=>262 | 212=>295 | 51=>288 | 20=>20 | 213=>296 | 46=>256 | 232=>328 | 233=>329 | n=>n,fun | 17=>3 | 18=>4 | 19=>5 | n=>n⟩
theorem Tryz.laysM171 : Go.Proofs.LaysM.n171 Tryz.prog Tryz.laysM171_ren := {
  mixed := by kernel_rfl
  f129 := Tryz.func255.trans (congrArg some (by kernel_rfl))
  f171 := Tryz.func72.trans (congrArg some (by kernel_rfl))
  f243 := Tryz.func142.trans (congrArg some (by kernel_rfl))
  f246 := Tryz.func192.trans (congrArg some (by kernel_rfl))
  f283 := Tryz.func225.trans (congrArg some (by kernel_rfl))
  f284 := Tryz.func226.trans (congrArg some (by kernel_rfl))
  f285 := Tryz.func227.trans (congrArg some (by kernel_rfl))
  f286 := Tryz.func228.trans (congrArg some (by kernel_rfl))
  f317 := Tryz.func264.trans (congrArg some (by kernel_rfl))
  f318 := Tryz.func265.trans (congrArg some (by kernel_rfl))
  f319 := Tryz.func266.trans (congrArg some (by kernel_rfl))
  f320 := Tryz.func267.trans (congrArg some (by kernel_rfl))
  f337 := Tryz.func290.trans (congrArg some (by kernel_rfl))
  f338 := Tryz.func291.trans (congrArg some (by kernel_rfl))
  t0 := Tryz.underlying0
  a0 := Tryz.isAgg0
  z0 := Tryz.sizeOf0
  v0 := Tryz.zeroValue0
  t2 := Tryz.underlying2
  a2 := Tryz.isAgg2
  z2 := Tryz.sizeOf2
  v2 := Tryz.zeroValue2
  t3 := Tryz.underlying3
  a3 := Tryz.isAgg3
  z3 := Tryz.sizeOf3
  v3 := Tryz.zeroValue3
  t4 := Tryz.underlying4
  a4 := Tryz.isAgg4
  z4 := Tryz.sizeOf4
  v4 := Tryz.zeroValue4
  t5 := Tryz.underlying5
  a5 := Tryz.isAgg5
  z5 := Tryz.sizeOf5
  v5 := Tryz.zeroValue5
  t9 := Tryz.underlying9
  a9 := Tryz.isAgg9
  z9 := Tryz.sizeOf9
  v9 := Tryz.zeroValue9
  t20 := Tryz.underlying20
  a20 := Tryz.isAgg20
  z20 := Tryz.sizeOf20
  v20 := Tryz.zeroValue20
  t37 := Tryz.underlying170
  a37 := Tryz.isAgg170
  z37 := Tryz.sizeOf170
  v37 := Tryz.zeroValue170
  t46 := Tryz.underlying256
  a46 := Tryz.isAgg256
  z46 := Tryz.sizeOf256
  v46 := Tryz.zeroValue256
  t51 := Tryz.underlying288
  a51 := Tryz.isAgg288
  z51 := Tryz.sizeOf288
  v51 := Tryz.zeroValue288
  t53 := Tryz.underlying259
  a53 := Tryz.isAgg259
  z53 := Tryz.sizeOf259
  v53 := Tryz.zeroValue259
  t171 := Tryz.underlying258
  a171 := Tryz.isAgg258
  z171 := Tryz.sizeOf258
  v171 := Tryz.zeroValue258
  t173 := Tryz.underlying262
  a173 := Tryz.isAgg262
  z173 := Tryz.sizeOf262
  v173 := Tryz.zeroValue262
  t212 := Tryz.underlying295
  a212 := Tryz.isAgg295
  z212 := Tryz.sizeOf295
  v212 := Tryz.zeroValue295
  t213 := Tryz.underlying296
  a213 := Tryz.isAgg296
  z213 := Tryz.sizeOf296
  t232 := Tryz.underlying328
  a232 := Tryz.isAgg328
  z232 := Tryz.sizeOf328
  v232 := Tryz.zeroValue328
  t233 := Tryz.underlying329
  a233 := Tryz.isAgg329
  z233 := Tryz.sizeOf329
  v233 := Tryz.zeroValue329
  g17 := by kernel_rfl
  g18 := by kernel_rfl
  g19 := by kernel_rfl
  i0 := by kernel_rfl
  i2 := by kernel_rfl
  i3 := by kernel_rfl
  i4 := by kernel_rfl
  i5 := by kernel_rfl
  i9 := by kernel_rfl
  i20 := by kernel_rfl
  i37 := by kernel_rfl
  i46 := by kernel_rfl
  i51 := by kernel_rfl
  i53 := by kernel_rfl
  i171 := by kernel_rfl
  i173 := by kernel_rfl
  i212 := by kernel_rfl
  i232 := by kernel_rfl
  i233 := by kernel_rfl
  m17 := by kernel_rfl
  m18 := by kernel_rfl
  m19 := by kernel_rfl }
def Tryz.lays219_ren:Go.Shelf.Ren:=⟨fun | 219=>196 | 217=>231 | 225=>232 | 224=>233 | 267=>234 | 266=>268 | 314=>269 | n=>n,fun | 9=>9 | 3=>3 | 4=>4 | 5=>5 | 46=>256 | 146=>297 | 51=>288 | n=>n,fun | 1=>0 | n=>n⟩
theorem Tryz.lays219 : Go.Proofs.Lays.n219 Tryz.prog Tryz.lays219_ren := {
  mixed := by kernel_rfl
  f217 := Tryz.func231.trans (congrArg some (by kernel_rfl))
  f219 := Tryz.func196.trans (congrArg some (by kernel_rfl))
  f224 := Tryz.func233.trans (congrArg some (by kernel_rfl))
  f225 := Tryz.func232.trans (congrArg some (by kernel_rfl))
  f266 := Tryz.func268.trans (congrArg some (by kernel_rfl))
  f267 := Tryz.func234.trans (congrArg some (by kernel_rfl))
  f314 := Tryz.func269.trans (congrArg some (by kernel_rfl))
  t3 := Tryz.underlying3
  a3 := Tryz.isAgg3
  z3 := Tryz.sizeOf3
  v3 := Tryz.zeroValue3
  t4 := Tryz.underlying4
  a4 := Tryz.isAgg4
  z4 := Tryz.sizeOf4
  v4 := Tryz.zeroValue4
  t5 := Tryz.underlying5
  a5 := Tryz.isAgg5
  z5 := Tryz.sizeOf5
  v5 := Tryz.zeroValue5
  t9 := Tryz.underlying9
  a9 := Tryz.isAgg9
  z9 := Tryz.sizeOf9
  v9 := Tryz.zeroValue9
  t46 := Tryz.underlying256
  a46 := Tryz.isAgg256
  z46 := Tryz.sizeOf256
  v46 := Tryz.zeroValue256
  t51 := Tryz.underlying288
  a51 := Tryz.isAgg288
  z51 := Tryz.sizeOf288
  v51 := Tryz.zeroValue288
  t146 := Tryz.underlying297
  a146 := Tryz.isAgg297
  z146 := Tryz.sizeOf297
  v146 := Tryz.zeroValue297
  g1 := by kernel_rfl }
def Tryz.laysC172_ren:Go.Shelf.Ren:=⟨fun | 172=>79 | 244=>149 | 245=>150 | 247=>197 | 279=>198 | 280=>199 | 281=>200 | 282=>201 | 287=>235 | 316=>236 | 171=>72 | 205=>237 | 321=>270 | 322=>271 | 243=>142 | 246=>192 | 283=>225 | 284=>226 | 285=>227 | 286=>228 | 129=>255 | 317=>264 | 318=>265 | 319=>266 | 320=>267 | 337=>290 | 338=>291 | n=>n,fun | 9=>9 | 3=>3 | 75=>97 | 76=>98 | 4=>4 | 5=>5 | 167=>223 | 37=>170 | 0=>0 | 85=>224 | 2=>2 | 168=>226 | 53=>259 | 175=>269 | 46=>256 | 210=>273 | 127=>221 | 145=>302 | 143=>300 | 21=>21 | 171=>258 | 173=>262 | 212=>295 | 51=>288 | 20=>20 | 213=>296 | 232=>328 | 233=>329 | 80=>174 | n=>n,fun | 15=>1 | 16=>2 | 17=>3 | 18=>4 | 19=>5 | n=>n⟩
theorem Tryz.laysC172 : Go.Proofs.LaysC.n172 Tryz.prog Tryz.laysC172_ren := {
  mixed := by kernel_rfl
  f129 := Tryz.func255.trans (congrArg some (by kernel_rfl))
  f171 := Tryz.func72.trans (congrArg some (by kernel_rfl))
  f172 := Tryz.func79.trans (congrArg some (by kernel_rfl))
  f205 := Tryz.func237.trans (congrArg some (by kernel_rfl))
  f243 := Tryz.func142.trans (congrArg some (by kernel_rfl))
  f244 := Tryz.func149.trans (congrArg some (by kernel_rfl))
  f245 := Tryz.func150.trans (congrArg some (by kernel_rfl))
  f246 := Tryz.func192.trans (congrArg some (by kernel_rfl))
  f247 := Tryz.func197.trans (congrArg some (by kernel_rfl))
  f279 := Tryz.func198.trans (congrArg some (by kernel_rfl))
  f280 := Tryz.func199.trans (congrArg some (by kernel_rfl))
  f281 := Tryz.func200.trans (congrArg some (by kernel_rfl))
  f282 := Tryz.func201.trans (congrArg some (by kernel_rfl))
  f283 := Tryz.func225.trans (congrArg some (by kernel_rfl))
  f284 := Tryz.func226.trans (congrArg some (by kernel_rfl))
  f285 := Tryz.func227.trans (congrArg some (by kernel_rfl))
  f286 := Tryz.func228.trans (congrArg some (by kernel_rfl))
  f287 := Tryz.func235.trans (congrArg some (by kernel_rfl))
  f316 := Tryz.func236.trans (congrArg some (by kernel_rfl))
  f317 := Tryz.func264.trans (congrArg some (by kernel_rfl))
  f318 := Tryz.func265.trans (congrArg some (by kernel_rfl))
  f319 := Tryz.func266.trans (congrArg some (by kernel_rfl))
  f320 := Tryz.func267.trans (congrArg some (by kernel_rfl))
  f321 := Tryz.func270.trans (congrArg some (by kernel_rfl))
  f322 := Tryz.func271.trans (congrArg some (by kernel_rfl))
  f337 := Tryz.func290.trans (congrArg some (by kernel_rfl))
  f338 := Tryz.func291.trans (congrArg some (by kernel_rfl))
  t0 := Tryz.underlying0
  a0 := Tryz.isAgg0
  z0 := Tryz.sizeOf0
  v0 := Tryz.zeroValue0
  t2 := Tryz.underlying2
  a2 := Tryz.isAgg2
  z2 := Tryz.sizeOf2
  v2 := Tryz.zeroValue2
  t3 := Tryz.underlying3
  a3 := Tryz.isAgg3
  z3 := Tryz.sizeOf3
  v3 := Tryz.zeroValue3
  t4 := Tryz.underlying4
  a4 := Tryz.isAgg4
  z4 := Tryz.sizeOf4
  v4 := Tryz.zeroValue4
  t5 := Tryz.underlying5
  a5 := Tryz.isAgg5
  z5 := Tryz.sizeOf5
  v5 := Tryz.zeroValue5
  t9 := Tryz.underlying9
  a9 := Tryz.isAgg9
  z9 := Tryz.sizeOf9
  v9 := Tryz.zeroValue9
  t20 := Tryz.underlying20
  a20 := Tryz.isAgg20
  z20 := Tryz.sizeOf20
  v20 := Tryz.zeroValue20
  t21 := Tryz.underlying21
  a21 := Tryz.isAgg21
  z21 := Tryz.sizeOf21
  v21 := Tryz.zeroValue21
  t37 := Tryz.underlying170
  a37 := Tryz.isAgg170
  z37 := Tryz.sizeOf170
  v37 := Tryz.zeroValue170
  t46 := Tryz.underlying256
  a46 := Tryz.isAgg256
  z46 := Tryz.sizeOf256
  v46 := Tryz.zeroValue256
  t51 := Tryz.underlying288
  a51 := Tryz.isAgg288
  z51 := Tryz.sizeOf288
  v51 := Tryz.zeroValue288
  t53 := Tryz.underlying259
  a53 := Tryz.isAgg259
  z53 := Tryz.sizeOf259
  v53 := Tryz.zeroValue259
  t75 := Tryz.underlying97
  a75 := Tryz.isAgg97
  z75 := Tryz.sizeOf97
  v75 := Tryz.zeroValue97
  t76 := Tryz.underlying98
  a76 := Tryz.isAgg98
  z76 := Tryz.sizeOf98
  v76 := Tryz.zeroValue98
  t85 := Tryz.underlying224
  a85 := Tryz.isAgg224
  z85 := Tryz.sizeOf224
  v85 := Tryz.zeroValue224
  t127 := Tryz.underlying221
  a127 := Tryz.isAgg221
  z127 := Tryz.sizeOf221
  v127 := Tryz.zeroValue221
  t143 := Tryz.underlying300
  a143 := Tryz.isAgg300
  z143 := Tryz.sizeOf300
  v143 := Tryz.zeroValue300
  t145 := Tryz.underlying302
  a145 := Tryz.isAgg302
  z145 := Tryz.sizeOf302
  v145 := Tryz.zeroValue302
  t167 := Tryz.underlying223
  a167 := Tryz.isAgg223
  z167 := Tryz.sizeOf223
  v167 := Tryz.zeroValue223
  t168 := Tryz.underlying226
  a168 := Tryz.isAgg226
  z168 := Tryz.sizeOf226
  v168 := Tryz.zeroValue226
  t171 := Tryz.underlying258
  a171 := Tryz.isAgg258
  z171 := Tryz.sizeOf258
  v171 := Tryz.zeroValue258
  t173 := Tryz.underlying262
  a173 := Tryz.isAgg262
  z173 := Tryz.sizeOf262
  v173 := Tryz.zeroValue262
  t175 := Tryz.underlying269
  a175 := Tryz.isAgg269
  z175 := Tryz.sizeOf269
  v175 := Tryz.zeroValue269
  t210 := Tryz.underlying273
  a210 := Tryz.isAgg273
  z210 := Tryz.sizeOf273
  v210 := Tryz.zeroValue273
  t212 := Tryz.underlying295
  a212 := Tryz.isAgg295
  z212 := Tryz.sizeOf295
  v212 := Tryz.zeroValue295
  t213 := Tryz.underlying296
  a213 := Tryz.isAgg296
  z213 := Tryz.sizeOf296
  t232 := Tryz.underlying328
  a232 := Tryz.isAgg328
  z232 := Tryz.sizeOf328
  v232 := Tryz.zeroValue328
  t233 := Tryz.underlying329
  a233 := Tryz.isAgg329
  z233 := Tryz.sizeOf329
  v233 := Tryz.zeroValue329
  g15 := by kernel_rfl
  g16 := by kernel_rfl
  g17 := by kernel_rfl
  g18 := by kernel_rfl
  g19 := by kernel_rfl
  t80 := Tryz.underlying174
  a80 := Tryz.isAgg174
  z80 := Tryz.sizeOf174
  v80 := Tryz.zeroValue174
  i0 := by kernel_rfl
  i2 := by kernel_rfl
  i3 := by kernel_rfl
  i4 := by kernel_rfl
  i5 := by kernel_rfl
  i9 := by kernel_rfl
  i20 := by kernel_rfl
  i21 := by kernel_rfl
  i37 := by kernel_rfl
  i46 := by kernel_rfl
  i51 := by kernel_rfl
  i53 := by kernel_rfl
  i75 := by kernel_rfl
  i76 := by kernel_rfl
  i80 := by kernel_rfl
  i85 := by kernel_rfl
  i127 := by kernel_rfl
  i143 := by kernel_rfl
  i145 := by kernel_rfl
  i167 := by kernel_rfl
  i168 := by kernel_rfl
  i171 := by kernel_rfl
  i173 := by kernel_rfl
  i175 := by kernel_rfl
  i210 := by kernel_rfl
  i212 := by kernel_rfl
  i232 := by kernel_rfl
  i233 := by kernel_rfl
  m15 := by kernel_rfl
  m16 := by kernel_rfl
  m17 := by kernel_rfl
  m18 := by kernel_rfl
  m19 := by kernel_rfl
  c0 := by kernel_rfl
  c2 := by kernel_rfl
  c3 := by kernel_rfl
  c4 := by kernel_rfl
  c5 := by kernel_rfl
  c9 := by kernel_rfl
  c20 := by kernel_rfl
  c21 := by kernel_rfl
  c37 := by kernel_rfl
  c46 := by kernel_rfl
  c51 := by kernel_rfl
  c53 := by kernel_rfl
  c75 := by kernel_rfl
  c76 := by kernel_rfl
  c80 := by kernel_rfl
  c85 := by kernel_rfl
  c127 := by kernel_rfl
  c143 := by kernel_rfl
  c145 := by kernel_rfl
  c167 := by kernel_rfl
  c168 := by kernel_rfl
  c171 := by kernel_rfl
  c173 := by kernel_rfl
  c175 := by kernel_rfl
  c210 := by kernel_rfl
  c212 := by kernel_rfl
  c213 := by kernel_rfl
  c232 := by kernel_rfl
  c233 := by kernel_rfl }
def Tryz.lays99_ren:Go.Shelf.Ren:=⟨fun | 99=>156 | 206=>208 | n=>n,fun | 9=>9 | 4=>4 | 3=>3 | n=>n,fun | n=>n⟩
theorem Tryz.lays99 : Go.Proofs.Lays.n99 Tryz.prog Tryz.lays99_ren := {
  mixed := by kernel_rfl
  f99 := Tryz.func156.trans (congrArg some (by kernel_rfl))
  f206 := Tryz.func208.trans (congrArg some (by kernel_rfl))
  t3 := Tryz.underlying3
  a3 := Tryz.isAgg3
  z3 := Tryz.sizeOf3
  v3 := Tryz.zeroValue3
  t4 := Tryz.underlying4
  a4 := Tryz.isAgg4
  z4 := Tryz.sizeOf4
  v4 := Tryz.zeroValue4
  t9 := Tryz.underlying9
  a9 := Tryz.isAgg9
  z9 := Tryz.sizeOf9
  v9 := Tryz.zeroValue9 }
def Tryz.lays156_ren:Go.Shelf.Ren:=⟨fun | 156=>74 | 165=>143 | 166=>144 | 169=>145 | 240=>193 | 241=>194 | 276=>229 | 277=>230 | n=>n,fun | 31=>40 | 9=>9 | 3=>3 | 4=>4 | 0=>0 | 20=>20 | 72=>172 | 76=>98 | 70=>169 | 37=>170 | 75=>97 | 127=>221 | 164=>264 | 5=>5 | 80=>174 | n=>n,fun | n=>n⟩
theorem Tryz.lays156 : Go.Proofs.Lays.n156 Tryz.prog Tryz.lays156_ren := {
  mixed := by kernel_rfl
  f156 := Tryz.func74.trans (congrArg some (by kernel_rfl))
  f165 := Tryz.func143.trans (congrArg some (by kernel_rfl))
  f166 := Tryz.func144.trans (congrArg some (by kernel_rfl))
  f169 := Tryz.func145.trans (congrArg some (by kernel_rfl))
  f240 := Tryz.func193.trans (congrArg some (by kernel_rfl))
  f241 := Tryz.func194.trans (congrArg some (by kernel_rfl))
  f276 := Tryz.func229.trans (congrArg some (by kernel_rfl))
  f277 := Tryz.func230.trans (congrArg some (by kernel_rfl))
  t0 := Tryz.underlying0
  a0 := Tryz.isAgg0
  z0 := Tryz.sizeOf0
  v0 := Tryz.zeroValue0
  t3 := Tryz.underlying3
  a3 := Tryz.isAgg3
  z3 := Tryz.sizeOf3
  v3 := Tryz.zeroValue3
  t4 := Tryz.underlying4
  a4 := Tryz.isAgg4
  z4 := Tryz.sizeOf4
  v4 := Tryz.zeroValue4
  t9 := Tryz.underlying9
  a9 := Tryz.isAgg9
  z9 := Tryz.sizeOf9
  v9 := Tryz.zeroValue9
  t20 := Tryz.underlying20
  a20 := Tryz.isAgg20
  z20 := Tryz.sizeOf20
  v20 := Tryz.zeroValue20
  t31 := Tryz.underlying40
  a31 := Tryz.isAgg40
  z31 := Tryz.sizeOf40
  v31 := Tryz.zeroValue40
  t37 := Tryz.underlying170
  a37 := Tryz.isAgg170
  z37 := Tryz.sizeOf170
  v37 := Tryz.zeroValue170
  t70 := Tryz.underlying169
  a70 := Tryz.isAgg169
  z70 := Tryz.sizeOf169
  v70 := Tryz.zeroValue169
  t72 := Tryz.underlying172
  a72 := Tryz.isAgg172
  z72 := Tryz.sizeOf172
  v72 := Tryz.zeroValue172
  t75 := Tryz.underlying97
  a75 := Tryz.isAgg97
  z75 := Tryz.sizeOf97
  v75 := Tryz.zeroValue97
  t76 := Tryz.underlying98
  a76 := Tryz.isAgg98
  z76 := Tryz.sizeOf98
  v76 := Tryz.zeroValue98
  t127 := Tryz.underlying221
  a127 := Tryz.isAgg221
  z127 := Tryz.sizeOf221
  v127 := Tryz.zeroValue221
  t164 := Tryz.underlying264
  a164 := Tryz.isAgg264
  z164 := Tryz.sizeOf264
  v164 := Tryz.zeroValue264 }
end Go.Proofs
set_option maxRecDepth 100000
namespace Go.Proofs.YtpndfdfipkadkaaGreatDoor
open Go Go.Wx Go.Ax
theorem ext_bytes(w:World)(e:TypeId)(s:ByteArray):Ext w (Lib.bytesWorld w e s):=by
 refine⟨?_,?_,?_,by rw[Lib.bytesWorld_size];omega,fun b hb _=>Lib.bytesWorld_at_old w e s b hb⟩
 all_goals (unfold Lib.bytesWorld World.freeze;split<;>rfl)
def itoaB(n:Int):ByteArray:=⟨(Lib.itoa n).toArray⟩
theorem itoa_c(n:Int)(h0: -9223372036854775808≤n)(h1:n≤9223372036854775807):Pur Pg 72 [di n] (ds' (itoaB n)):=
 Pur_libv (args:=[.int .i64 n]) (by kernel_rfl) fun w hw=>Calls.mono (Any.strconv_Itoa Tryz.laysM171 n h0 h1 w hw.1) fun e w' ⟨h1,k,os,h2⟩=>⟨h1,by rw[h2];exact ext_grow k os⟩
theorem prefix_c(s p:ByteArray):Pur Pg 156 [ds' s,ds' p] (db (Lib.hasPrefix s.data.toList p.data.toList)):=
 Pur_libv (args:=[.string s,.string p]) (by kernel_rfl) fun w hw=>Calls.mono (Any.strings_HasPrefix Tryz.lays99 s p w) fun e w' ⟨h1,h2⟩=>⟨h1,by rw[h2];exact Frm.refl _ _⟩
theorem index1_c(s:ByteArray)(c:UInt8):Pur Pg 196 [ds' s,ds' ⟨#[c]⟩] (di (Lib.indexByte s.data.toList c)):=
 Pur_libv (args:=[.string s,.string ⟨#[c]⟩]) (by kernel_rfl) fun w hw=>Calls.mono (Any.stringslite_Index_one Tryz.lays219 s c w) fun e w' ⟨h1,h2⟩=>⟨h1,by rw[h2];exact Frm.refl _ _⟩
theorem atoiOk_c(s:ByteArray)(v:Int)(hs:s.size≤9223372036854775806)(h:Lib.atoiAll s.data.toList= .ok v):Pur Pg 79 [ds' s] (.tup [di v,.v .nilIface]):=
 Pur_lib (args:=[.string s]) (by kernel_rfl) fun w hw=>Calls.mono (Any.strconv_Atoi_ok Tryz.laysC172 s hs v h w) fun e w' ⟨h1,h2⟩=>⟨_,h1,by
  rcases h2 with rfl | ⟨t,rfl⟩
  ·exact Frm.refl _ _
  ·exact ext_bytes _ _ _,fun X _=> .tup rfl fun j d x g1 g2=>by
   match j,g1,g2 with
   | 0,g1,g2=>cases g1;cases g2;exact .v _
   | 1,g1,g2=>cases g1;cases g2;exact .v _
   | n+2,g1,_=>simp at g1⟩
theorem ext_below{w w':World}(h:Go.RowKit.Below w.heap.size w w'):Ext w w':=⟨h.os,h.tape,h.output,h.size,fun b hb _=>h.block b hb⟩
def errT:TypeId:=Tryz.laysC172_ren.t 168
theorem atoiErr_c(s:ByteArray)(hs:s.size≤281474976710656)(h:∀v,Lib.atoiAll s.data.toList≠ .ok v):∃n:Int,Pur Pg 79 [ds' s] (.tup [di n,.ifc errT .any]):=by
 have fin:∀(n:Int) (q:Value) (X:Cx),Rp X (.tup [di n,.ifc errT .any]) (.tuple #[.int .i64 n,.iface errT q]):=fun n q X=> .tup rfl fun j d x g1 g2=>by
  match j,g1,g2 with
  | 0,g1,g2=>cases g1;cases g2;exact .v _
  | 1,g1,g2=>cases g1;cases g2;exact .ifc (.any _)
  | n+2,g1,_=>simp at g1
 cases ha:Lib.atoiAll s.data.toList with
 | ok v=>exact absurd ha (h v)
 | range=>
  refine⟨Lib.atoiSat s.data.toList,Pur_lib (args:=[.string s]) (by kernel_rfl) fun w hw=>?_⟩
  obtain⟨tp,p,hv⟩:=hw.2.2
  exact Calls.mono (Any.strconv_Atoi_range_var Tryz.laysC172 s hs ha tp p w hv) fun e w' ⟨N,h1,_,_,h2⟩=>⟨_,h1,ext_below h2,fun X _=>fin _ _ X⟩
 | _=>
  refine⟨0,Pur_lib (args:=[.string s]) (by kernel_rfl) fun w hw=>?_⟩
  obtain⟨tp,p,hv⟩:=hw.2.1
  exact Calls.mono (Any.strconv_Atoi_syntax_var Tryz.laysC172 s hs ha tp p w hv) fun e w' ⟨N,h1,_,_,h2⟩=>⟨_,h1,ext_below h2,fun X _=>fin 0 _ X⟩
theorem extra156:Builder.Extra Pg Tryz.lays156_ren where
 sizeBuilder:=by kernel_rfl
 liesBuilder:=by kernel_rfl
 t5:=Tryz.underlying5
 a5:=Tryz.isAgg5
 z5:=Tryz.sizeOf5
 v5:=Tryz.zeroValue5
 infoByte:=by kernel_rfl
 cellsByte:=by kernel_rfl
 sizeByte:=by kernel_rfl
 neB5:=by decide
def joinB(xs:List ByteArray)(sep:ByteArray):ByteArray:=⟨(Lib.join (xs.map (·.data.toList)) sep.data.toList).toArray⟩
theorem join_c(xs:List ByteArray)(sep:ByteArray){b n:Nat}{H:Heap}(hb:H[b]? =some (.arr 9 1 (xs.map fun s=>[ds' s])))(hn:xs.length=n)(hm:n≤1000000)(hl:(Lib.join (xs.map (·.data.toList)) sep.data.toList).length≤140737488355328):Ex Pg 74 [.sl b 0 n n,ds' sep] H (ds' (joinB xs sep)):=by
 refine Ex_lib (by kernel_rfl) fun X M vs hs hH hv=>?_
 obtain⟨y1,y2,rfl⟩:∃y1 y2,vs=[y1,y2]:=by
  match vs,hv.1 with
  |[a,b],_=>exact⟨a,b,rfl⟩
 have r1:=hv.2 0 _ _ rfl rfl
 have r2:=hv.2 1 _ _ rfl rfl
 rw[r2.v_inv]
 obtain⟨a,c,rfl⟩:∃a c,y1= .slice a n c:=by cases r1;exact⟨_,_,rfl⟩
 subst hH
 suffices base:Calls Pg 74 #[.slice a n c,.string sep] X.w fun e w'=>e= .returned (.string (joinB xs sep))∧Go.RowKit.Below X.w.heap.size X.w w' from
  Calls.mono base fun e w' ⟨h1,h2⟩=>⟨_,h1,ext_below h2,fun X' _=> .v _⟩
 rcases hs.sl r1 hb (by simpa using hn)with⟨h0,hc⟩ | ⟨hg,rfl,hnc,hcm,cur,hcur,hcs⟩
 ·have hx:xs=[]:=List.eq_nil_of_length_eq_zero (by omega)
  subst hx
  rw[h0]
  exact Calls.mono (Any.strings_Join_none Tryz.lays156 extra156 a c sep X.w) fun e w' ⟨h1,h2⟩=>⟨h1,by rw[h2];exact .refl _ _⟩
 ·rw[Nat.zero_mul,←hn]
  have:=Any.strings_Join Tryz.lays156 extra156 (X.ρ b) 0 c xs sep X.w (fun j x hj=>?_) (At.lt hcur) (by omega) (by omega) hl
  ·exact this
  ·rcases hs.blk b _ hb with⟨hg',_⟩ | ⟨_,cur2,hcur2,_,_,hvv⟩
   ·rw[hg]at hg';cases hg'
   ·rw[hcur]at hcur2;cases hcur2
    obtain⟨y,hy,_,hr⟩:=hvv j 0 (ds' x) (at2_some.2 ⟨[ds' x],by rw[List.getElem?_map,hj];rfl,rfl⟩)
    rw[Nat.zero_add]
    rw[hr.v_inv]at hy
    have:=cell_blk hcur hy
    simpa using this
def cutD(s:ByteArray)(c:UInt8):D:=if Lib.indexByte s.data.toList c≥0 then .tup [ds' (s.extract 0 (Lib.indexByte s.data.toList c).toNat),ds' (s.extract ((Lib.indexByte s.data.toList c).toNat+1) s.size),db true]else .tup [ds' s,ds' ⟨#[]⟩,db false]
def pl148:Plan:=[(3,[.p 0,.p 1,.p 2,.p 3,.p 4,.p 5,.p 6,.p 7,.p 8,.p 9,.p 10,.p 11])]
theorem cut1_c(s:ByteArray)(c:UInt8)(hs:s.size≤maxLen):Pur Pg 148 [ds' s,ds' ⟨#[c]⟩] (cutD s c):=by
 refine fn Tryz.func148 [] pl148 (.cons (.v _) (.cons (.v _) .nil)) ?_
 refine(index1_c s c).call ?_
 refine if_ (fun h=>?_) fun h=>?_
 ·have h0:Lib.indexByte s.data.toList c≥0:=by simpa using h
  rw[cutD,if_pos h0]
  obtain⟨j,hj⟩:=Int.eq_ofNat_of_zero_le h0
  have hjl:j<s.size:=by
   have:=(List.getElem?_eq_some_iff.1 (Lib.indexByte_some hj).1).1
   simpa using this
  rw[hj]
  conv=>whnf
  have hw:IntKind.wrap .i64 ((j:Int)+1)=((j+1:Nat):Int):=by rw[wadd (by omega) (by simp only[maxLen]at hs;omega)];omega
  have hp1:pos' (some (j:Int))=true:=by
   have h:(0:Int)≤(j:Int):=by omega
   exact nonneg_iff.2 h
  have hp2:pos' (some (IntKind.wrap .i64 ((j:Int)+1)))=true:=by
   rw[hw]
   have h:(0:Int)≤((j+1:Nat):Int):=by omega
   exact nonneg_iff.2 h
  have hb1:(lo' none).ble (hi' s.size (some (j:Int)))=true:=Nat.ble_eq_true_of_le (Nat.zero_le _)
  have hb2:(hi' s.size (some (j:Int))).ble s.size=true:=Nat.ble_eq_true_of_le (by show j≤s.size;omega)
  have hb3:(lo' (some (IntKind.wrap .i64 ((j:Int)+1)))).ble (hi' s.size none)=true:=by
   rw[hw]
   exact Nat.ble_eq_true_of_le (by show j+1≤s.size;omega)
  have hb4:(hi' s.size none).ble s.size=true:=Nat.ble_eq_true_of_le (Nat.le_refl _)
  have he:s.extract (lo' (some (IntKind.wrap .i64 ((j:Int)+1)))) (hi' s.size none)=s.extract (j+1) s.size:=by rw[hw];rfl
  refine ck (and_t (and_t rfl (and_t hp1 (and_t hb1 hb2))) rfl) ?_
  conv=>whnf
  refine ck (and_t (and_t hp2 (and_t rfl (and_t hb3 hb4))) rfl) ?_
  have he2:FrzK 0 ([]:Heap) (.tup [ds' (s.extract (lo' none) (hi' s.size (some (j:Int)))),ds' (s.extract (lo' (some (IntKind.wrap .i64 ((j:Int)+1)))) (hi' s.size none)),db true]) (.tup [ds' (s.extract 0 (Int.ofNat j).toNat),ds' (s.extract ((Int.ofNat j).toNat+1) s.size),db true]):=by
   rw[he]
   exact .pd (.tup fun d hd=>by simp at hd;rcases hd with rfl | rfl | rfl<;>exact .v _)
  exact he2
 ·have h0:¬Lib.indexByte s.data.toList c≥0:=by simpa using h
  rw[cutD,if_neg h0]
  exact .pd (.tup fun d hd=>by simp at hd;rcases hd with rfl | rfl | rfl<;>exact .v _)
theorem cut_c(s:ByteArray)(c:UInt8)(hs:s.size≤maxLen):Pur Pg 78 [ds' s,ds' ⟨#[c]⟩] (cutD s c):=by
 have h:=cut1_c s c hs
 refine fn Tryz.func78 [] [] (.cons (.v _) (.cons (.v _) .nil)) ?_
 unfold cutD at h ⊢
 split at h
 ·rename_i h0
  rw[if_pos h0]
  refine h.call ?_
  exact .pd (.tup fun d hd=>by simp at hd;rcases hd with rfl | rfl | rfl<;>exact .v _)
 ·rename_i h0
  rw[if_neg h0]
  refine h.call ?_
  exact .pd (.tup fun d hd=>by simp at hd;rcases hd with rfl | rfl | rfl<;>exact .v _)
end Go.Proofs.YtpndfdfipkadkaaGreatDoor
