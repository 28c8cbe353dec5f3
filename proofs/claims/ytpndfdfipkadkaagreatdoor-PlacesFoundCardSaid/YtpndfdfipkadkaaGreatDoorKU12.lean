/- The law holds: part 344. Conditions: none. -/
import Derived.Test.YtpndfdfipkadkaaGreatDoorKU4
import Derived.Test.YtpndfdfipkadkaaGreatDoorKU11
import Derived.Shelf.Sort.Plain
import Derived.Shelf.Slices.In.SortNone
import Derived.Shelf.Slices.CompactI
import Derived.Shelf.Slices.CompactS
import Derived.Test.YtpndfdfipkadkaaGreatDoorProg
import Derived.Sort.Walk0
set_option linter.all false
namespace Go.Proofs
open Go.Shelf
def Tryz.lays189_ren:Go.Shelf.Ren:=⟨fun | 189=>179 | 125=>221 | 257=>220 | 128=>254 | 129=>255 | 294=>245 | 295=>246 | 296=>247 | 297=>248 | 298=>249 | 299=>250 | 216=>251 | 300=>252 | 301=>253 | 328=>282 | 329=>283 | 330=>284 | 331=>285 | 332=>286 | 215=>239 | 343=>305 | n=>n,fun | 28=>54 | 3=>3 | 46=>256 | 0=>0 | 51=>288 | 53=>259 | 4=>4 | 183=>281 | 182=>280 | 131=>285 | 5=>5 | 9=>9 | 218=>309 | 222=>313 | 228=>324 | 229=>325 | n=>n,fun | n=>n⟩
theorem Tryz.lays189 : Go.Proofs.Lays.n189 Tryz.prog Tryz.lays189_ren := {
  mixed := by kernel_rfl
  f125 := Tryz.func221.trans (congrArg some (by kernel_rfl))
  f128 := Tryz.func254.trans (congrArg some (by kernel_rfl))
  f129 := Tryz.func255.trans (congrArg some (by kernel_rfl))
  f189 := Tryz.func179.trans (congrArg some (by kernel_rfl))
  f215 := Tryz.func239.trans (congrArg some (by kernel_rfl))
  f216 := Tryz.func251.trans (congrArg some (by kernel_rfl))
  f257 := Tryz.func220.trans (congrArg some (by kernel_rfl))
  f294 := Tryz.func245.trans (congrArg some (by kernel_rfl))
  f295 := Tryz.func246.trans (congrArg some (by kernel_rfl))
  f296 := Tryz.func247.trans (congrArg some (by kernel_rfl))
  f297 := Tryz.func248.trans (congrArg some (by kernel_rfl))
  f298 := Tryz.func249.trans (congrArg some (by kernel_rfl))
  f299 := Tryz.func250.trans (congrArg some (by kernel_rfl))
  f300 := Tryz.func252.trans (congrArg some (by kernel_rfl))
  f301 := Tryz.func253.trans (congrArg some (by kernel_rfl))
  f328 := Tryz.func282.trans (congrArg some (by kernel_rfl))
  f329 := Tryz.func283.trans (congrArg some (by kernel_rfl))
  f330 := Tryz.func284.trans (congrArg some (by kernel_rfl))
  f331 := Tryz.func285.trans (congrArg some (by kernel_rfl))
  f332 := Tryz.func286.trans (congrArg some (by kernel_rfl))
  f343 := Tryz.func305.trans (congrArg some (by kernel_rfl))
  t0 := Tryz.underlying0
  a0 := Tryz.isAgg0
  z0 := Tryz.sizeOf0
  v0 := Tryz.zeroValue0
  t3 := Tryz.underlying3
  a3 := Tryz.isAgg3
  z3 := Tryz.sizeOf3
  v3 := Tryz.zeroValue3
  t4 := Tryz.underlying4
  a4 := Tryz.isAgg4
  z4 := Tryz.sizeOf4
  v4 := Tryz.zeroValue4
  t5 := Tryz.underlying5
  a5 := Tryz.isAgg5
  z5 := Tryz.sizeOf5
  v5 := Tryz.zeroValue5
  t9 := Tryz.underlying9
  a9 := Tryz.isAgg9
  z9 := Tryz.sizeOf9
  v9 := Tryz.zeroValue9
  t28 := Tryz.underlying54
  a28 := Tryz.isAgg54
  z28 := Tryz.sizeOf54
  v28 := Tryz.zeroValue54
  t46 := Tryz.underlying256
  a46 := Tryz.isAgg256
  z46 := Tryz.sizeOf256
  v46 := Tryz.zeroValue256
  t51 := Tryz.underlying288
  a51 := Tryz.isAgg288
  z51 := Tryz.sizeOf288
  v51 := Tryz.zeroValue288
  t53 := Tryz.underlying259
  a53 := Tryz.isAgg259
  z53 := Tryz.sizeOf259
  v53 := Tryz.zeroValue259
  t131 := Tryz.underlying285
  a131 := Tryz.isAgg285
  z131 := Tryz.sizeOf285
  v131 := Tryz.zeroValue285
  t182 := Tryz.underlying280
  a182 := Tryz.isAgg280
  z182 := Tryz.sizeOf280
  v182 := Tryz.zeroValue280
  t183 := Tryz.underlying281
  a183 := Tryz.isAgg281
  z183 := Tryz.sizeOf281
  v183 := Tryz.zeroValue281
  t218 := Tryz.underlying309
  a218 := Tryz.isAgg309
  z218 := Tryz.sizeOf309
  v218 := Tryz.zeroValue309
  t222 := Tryz.underlying313
  a222 := Tryz.isAgg313
  z222 := Tryz.sizeOf313
  v222 := Tryz.zeroValue313
  t228 := Tryz.underlying324
  a228 := Tryz.isAgg324
  z228 := Tryz.sizeOf324
  v228 := Tryz.zeroValue324
  t229 := Tryz.underlying325
  a229 := Tryz.isAgg325
  z229 := Tryz.sizeOf325
  v229 := Tryz.zeroValue325 }
def Tryz.lays190_ren:Go.Shelf.Ren:=⟨fun | 190=>240 | 125=>221 | 258=>272 | 128=>254 | 129=>255 | 302=>292 | 303=>293 | 304=>294 | 305=>295 | 306=>296 | 307=>297 | 308=>298 | 309=>299 | 310=>300 | 333=>307 | 329=>283 | 330=>284 | 334=>308 | 335=>309 | 336=>304 | 344=>311 | n=>n,fun | 31=>40 | 9=>9 | 3=>3 | 46=>256 | 0=>0 | 51=>288 | 53=>259 | 4=>4 | 183=>281 | 182=>280 | 131=>285 | 5=>5 | 218=>309 | 222=>313 | 228=>324 | 229=>325 | n=>n,fun | n=>n⟩
theorem Tryz.lays190 : Go.Proofs.Lays.n190 Tryz.prog Tryz.lays190_ren := {
  mixed := by kernel_rfl
  f125 := Tryz.func221.trans (congrArg some (by kernel_rfl))
  f128 := Tryz.func254.trans (congrArg some (by kernel_rfl))
  f129 := Tryz.func255.trans (congrArg some (by kernel_rfl))
  f190 := Tryz.func240.trans (congrArg some (by kernel_rfl))
  f258 := Tryz.func272.trans (congrArg some (by kernel_rfl))
  f302 := Tryz.func292.trans (congrArg some (by kernel_rfl))
  f303 := Tryz.func293.trans (congrArg some (by kernel_rfl))
  f304 := Tryz.func294.trans (congrArg some (by kernel_rfl))
  f305 := Tryz.func295.trans (congrArg some (by kernel_rfl))
  f306 := Tryz.func296.trans (congrArg some (by kernel_rfl))
  f307 := Tryz.func297.trans (congrArg some (by kernel_rfl))
  f308 := Tryz.func298.trans (congrArg some (by kernel_rfl))
  f309 := Tryz.func299.trans (congrArg some (by kernel_rfl))
  f310 := Tryz.func300.trans (congrArg some (by kernel_rfl))
  f329 := Tryz.func283.trans (congrArg some (by kernel_rfl))
  f330 := Tryz.func284.trans (congrArg some (by kernel_rfl))
  f333 := Tryz.func307.trans (congrArg some (by kernel_rfl))
  f334 := Tryz.func308.trans (congrArg some (by kernel_rfl))
  f335 := Tryz.func309.trans (congrArg some (by kernel_rfl))
  f336 := Tryz.func304.trans (congrArg some (by kernel_rfl))
  f344 := Tryz.func311.trans (congrArg some (by kernel_rfl))
  t0 := Tryz.underlying0
  a0 := Tryz.isAgg0
  z0 := Tryz.sizeOf0
  v0 := Tryz.zeroValue0
  t3 := Tryz.underlying3
  a3 := Tryz.isAgg3
  z3 := Tryz.sizeOf3
  v3 := Tryz.zeroValue3
  t4 := Tryz.underlying4
  a4 := Tryz.isAgg4
  z4 := Tryz.sizeOf4
  v4 := Tryz.zeroValue4
  t5 := Tryz.underlying5
  a5 := Tryz.isAgg5
  z5 := Tryz.sizeOf5
  v5 := Tryz.zeroValue5
  t9 := Tryz.underlying9
  a9 := Tryz.isAgg9
  z9 := Tryz.sizeOf9
  v9 := Tryz.zeroValue9
  t31 := Tryz.underlying40
  a31 := Tryz.isAgg40
  z31 := Tryz.sizeOf40
  v31 := Tryz.zeroValue40
  t46 := Tryz.underlying256
  a46 := Tryz.isAgg256
  z46 := Tryz.sizeOf256
  v46 := Tryz.zeroValue256
  t51 := Tryz.underlying288
  a51 := Tryz.isAgg288
  z51 := Tryz.sizeOf288
  v51 := Tryz.zeroValue288
  t53 := Tryz.underlying259
  a53 := Tryz.isAgg259
  z53 := Tryz.sizeOf259
  v53 := Tryz.zeroValue259
  t131 := Tryz.underlying285
  a131 := Tryz.isAgg285
  z131 := Tryz.sizeOf285
  v131 := Tryz.zeroValue285
  t182 := Tryz.underlying280
  a182 := Tryz.isAgg280
  z182 := Tryz.sizeOf280
  v182 := Tryz.zeroValue280
  t183 := Tryz.underlying281
  a183 := Tryz.isAgg281
  z183 := Tryz.sizeOf281
  v183 := Tryz.zeroValue281
  t218 := Tryz.underlying309
  a218 := Tryz.isAgg309
  z218 := Tryz.sizeOf309
  v218 := Tryz.zeroValue309
  t222 := Tryz.underlying313
  a222 := Tryz.isAgg313
  z222 := Tryz.sizeOf313
  v222 := Tryz.zeroValue313
  t228 := Tryz.underlying324
  a228 := Tryz.isAgg324
  z228 := Tryz.sizeOf324
  v228 := Tryz.zeroValue324
  t229 := Tryz.underlying325
  a229 := Tryz.isAgg325
  z229 := Tryz.sizeOf325
  v229 := Tryz.zeroValue325 }
def Tryz.laysNm220_ren:Go.Shelf.Ren:=⟨fun | 20=>180 | n=>n,fun | 22=>54 | 3=>3 | 4=>4 | 0=>0 | n=>n,fun | n=>n⟩
theorem Tryz.laysNm220 : Go.Proofs.Lays2.n20 Tryz.prog Tryz.laysNm220_ren := {
  mixed := by kernel_rfl
  f20 := Tryz.func180.trans (congrArg some (by kernel_rfl))
  t0 := Tryz.underlying0
  a0 := Tryz.isAgg0
  z0 := Tryz.sizeOf0
  v0 := Tryz.zeroValue0
  t3 := Tryz.underlying3
  a3 := Tryz.isAgg3
  z3 := Tryz.sizeOf3
  v3 := Tryz.zeroValue3
  t4 := Tryz.underlying4
  a4 := Tryz.isAgg4
  z4 := Tryz.sizeOf4
  v4 := Tryz.zeroValue4
  t22 := Tryz.underlying54
  a22 := Tryz.isAgg54
  z22 := Tryz.sizeOf54
  v22 := Tryz.zeroValue54
  i3 := by kernel_rfl }
def Tryz.lays194_ren:Go.Shelf.Ren:=⟨fun | 194=>241 | n=>n,fun | 31=>40 | 9=>9 | 3=>3 | 4=>4 | 0=>0 | n=>n,fun | n=>n⟩
theorem Tryz.lays194 : Go.Proofs.Lays.n194 Tryz.prog Tryz.lays194_ren := {
  mixed := by kernel_rfl
  f194 := Tryz.func241.trans (congrArg some (by kernel_rfl))
  t0 := Tryz.underlying0
  a0 := Tryz.isAgg0
  z0 := Tryz.sizeOf0
  v0 := Tryz.zeroValue0
  t3 := Tryz.underlying3
  a3 := Tryz.isAgg3
  z3 := Tryz.sizeOf3
  v3 := Tryz.zeroValue3
  t4 := Tryz.underlying4
  a4 := Tryz.isAgg4
  z4 := Tryz.sizeOf4
  v4 := Tryz.zeroValue4
  t9 := Tryz.underlying9
  a9 := Tryz.isAgg9
  z9 := Tryz.sizeOf9
  v9 := Tryz.zeroValue9
  t31 := Tryz.underlying40
  a31 := Tryz.isAgg40
  z31 := Tryz.sizeOf40
  v31 := Tryz.zeroValue40 }
end Go.Proofs
set_option maxRecDepth 100000
namespace Go.Proofs.YtpndfdfipkadkaaGreatDoor
open Go Go.Wx Go.Ax Go.Sort
section
variable {α : Type} {lt : α → α → Prop}
theorem rise_ext(hi:∀x,¬lt x x)(ht:∀x y z,lt x y→lt y z→lt x z):∀{a b:List α},a.Pairwise lt→b.Pairwise lt→(∀x,x∈a↔x∈b)→a=b
 |[],[],_,_,_=>rfl
 |[],y::b,_,_,h=>absurd ((h y).2 List.mem_cons_self) (by simp)
 | x::a,[],_,_,h=>absurd ((h x).1 List.mem_cons_self) (by simp)
 | x::a,y::b,ha,hb,h=>by
  obtain⟨h1,h2⟩:=List.pairwise_cons.1 ha
  obtain⟨g1,g2⟩:=List.pairwise_cons.1 hb
  have hxy:x=y:=by
   rcases List.mem_cons.1 ((h x).1 List.mem_cons_self)with e | hm
   ·exact e
   ·rcases List.mem_cons.1 ((h y).2 List.mem_cons_self)with e | hm'
    ·exact e.symm
    ·exact absurd (ht _ _ _ (g1 x hm) (h1 y hm')) (hi y)
  subst hxy
  congr 1
  refine rise_ext hi ht h2 g2 fun z=>⟨fun hz=>?_,fun hz=>?_⟩
  ·rcases List.mem_cons.1 ((h z).1 (List.mem_cons_of_mem _ hz))with e | hm
   ·subst e;exact absurd (h1 z hz) (hi z)
   ·exact hm
  ·rcases List.mem_cons.1 ((h z).2 (List.mem_cons_of_mem _ hz))with e | hm
   ·subst e;exact absurd (g1 z hz) (hi z)
   ·exact hm
variable [Inhabited α] [DecidableEq α]
theorem compact_rise(ht:∀x y z,lt x y→lt y z→lt x z){zs:List α}(hz:zs.Pairwise fun x y=>lt x y∨x=y):(Lib.compact zs).Pairwise lt∧∀x,x∈Lib.compact zs↔x∈zs:=by
 have hle:∀i j,i≤j→j<zs.length→lt zs.toArray[i]! zs.toArray[j]! ∨zs.toArray[i]! =zs.toArray[j]! :=by
  intro i j hij hj
  rcases Nat.lt_or_eq_of_le hij with h | rfl
  ·have:=List.pairwise_iff_getElem.1 hz i j (by omega) hj h
   rw[getElem!_pos _ i (by simp;omega),getElem!_pos _ j (by simpa using hj)]
   simpa using this
  ·exact .inr rfl
 have main:∀m,m≤zs.length→(Lib.compactUpTo zs.toArray m).Pairwise lt∧∀x,x∈Lib.compactUpTo zs.toArray m↔∃j,j<m∧x=zs.toArray[j]! :=by
  intro m
  induction m with
  | zero=>intro _;simp[Lib.compactUpTo]
  | succ m ih=>
   intro hm
   obtain⟨h1,h2⟩:=ih (by omega)
   rw[Lib.compactUpTo_succ]
   by_cases hk:Lib.keeps zs.toArray m=true
   ·rw[if_pos hk]
    have hk':m=0∨zs.toArray[m]! ≠zs.toArray[m-1]! :=by simpa[Lib.keeps]using hk
    refine⟨List.pairwise_append.2 ⟨h1,by simp,fun a ha b hb=>?_⟩,fun x=>?_⟩
    ·rw[List.mem_singleton]at hb
     subst hb
     obtain⟨j,hj,rfl⟩:=(h2 a).1 ha
     have hne:=hk'.resolve_left (by omega)
     have a1:=hle j (m-1) (by omega) (by omega)
     have a2:=(hle (m-1) m (by omega) (by omega)).resolve_right fun e=>hne e.symm
     rcases a1 with a1 | a1
     ·exact ht _ _ _ a1 a2
     ·rw[a1];exact a2
    ·rw[List.mem_append,h2,List.mem_singleton]
     constructor
     ·rintro(⟨j,hj,rfl⟩ | rfl)
      ·exact⟨j,by omega,rfl⟩
      ·exact⟨m,by omega,rfl⟩
     ·rintro⟨j,hj,rfl⟩
      rcases Nat.lt_or_eq_of_le (Nat.le_of_lt_succ hj)with h | rfl
      ·exact .inl ⟨j,h,rfl⟩
      ·exact .inr rfl
   ·rw[if_neg hk,List.append_nil]
    have hk':¬(m=0∨zs.toArray[m]! ≠zs.toArray[m-1]!):=by simpa[Lib.keeps]using hk
    have hm0:m≠0:=fun e=>hk' (.inl e)
    have heq:zs.toArray[m]! =zs.toArray[m-1]! :=Decidable.byContradiction fun h=>hk' (.inr h)
    refine⟨h1,fun x=>?_⟩
    rw[h2]
    constructor
    ·rintro⟨j,hj,rfl⟩;exact⟨j,by omega,rfl⟩
    ·rintro⟨j,hj,rfl⟩
     rcases Nat.lt_or_eq_of_le (Nat.le_of_lt_succ hj)with h | rfl
     ·exact⟨j,h,rfl⟩
     ·exact⟨j-1,by omega,heq⟩
 obtain⟨h1,h2⟩:=main zs.length (Nat.le_refl _)
 refine⟨h1,fun x=>?_⟩
 rw[show Lib.compact zs=Lib.compactUpTo zs.toArray zs.length from rfl,h2]
 constructor
 ·rintro⟨j,hj,rfl⟩
  rw[getElem!_pos _ j (by simpa using hj)]
  simp
 ·intro hx
  obtain⟨j,hj,rfl⟩:=List.getElem_of_mem hx
  exact⟨j,hj,by rw[getElem!_pos _ j (by simpa using hj)];simp⟩
end
theorem addI_mem{l:List Int}{s x:Int}:x∈addI l s↔x=s∨x∈l:=by
 induction l with
 | nil=>simp[addI]
 | cons y r ih=>
  rw[addI]
  split
  ·split
   ·rename_i h1 h2
    have:s=y:=by simpa using h2
    subst this
    simp
   ·simp
  ·rw[List.mem_cons,ih,List.mem_cons]
   constructor
   ·rintro(h | h | h)
    ·exact .inr (.inl h)
    ·exact .inl h
    ·exact .inr (.inr h)
   ·rintro(h | h | h)
    ·exact .inr (.inl h)
    ·exact .inl h
    ·exact .inr (.inr h)
theorem addI_rise{l:List Int}{s:Int}(h:l.Pairwise (· < ·)):(addI l s).Pairwise (· < ·):=by
 induction l with
 | nil=>simp[addI]
 | cons y r ih=>
  obtain⟨h1,h2⟩:=List.pairwise_cons.1 h
  rw[addI]
  split
  ·rename_i hle
   have hle:s≤y:=by simpa using hle
   split
   ·rename_i he
    have he:s=y:=by simpa using he
    subst he
    exact h
   ·rename_i he
    have he:s≠y:=by simpa using he
    refine List.pairwise_cons.2 ⟨fun z hz=>?_,h⟩
    rcases List.mem_cons.1 hz with rfl | hz
    ·omega
    ·have:=h1 z hz;omega
  ·rename_i hle
   have hle:¬s≤y:=by simpa using hle
   refine List.pairwise_cons.2 ⟨fun z hz=>?_,ih h2⟩
   rcases addI_mem.1 hz with rfl | hz
   ·omega
   ·exact h1 z hz
def uniqI(l:List Int):List Int:=l.foldl addI []
theorem foldI:∀(l out:List Int),out.Pairwise (· < ·)→(l.foldl addI out).Pairwise (· < ·)∧∀x,x∈l.foldl addI out↔x∈out∨x∈l
 |[],out,h=>⟨h,fun x=>by simp⟩
 | s::l,out,h=>by
  obtain⟨h1,h2⟩:=foldI l (addI out s) (addI_rise h)
  refine⟨h1,fun x=>?_⟩
  rw[List.foldl_cons,h2,addI_mem,List.mem_cons]
  constructor
  ·rintro((h | h) | h)
   ·exact .inr (.inl h)
   ·exact .inl h
   ·exact .inr (.inr h)
  ·rintro(h | h | h)
   ·exact .inl (.inr h)
   ·exact .inl (.inl h)
   ·exact .inr h
theorem uniqI_rise(l:List Int):(uniqI l).Pairwise (· < ·):=(foldI l [] .nil).1
theorem uniqI_mem{l:List Int}{x:Int}:x∈uniqI l↔x∈l:=by rw[uniqI,(foldI l [] .nil).2];simp
theorem rise_eq{a b:List Int}(ha:a.Pairwise (· < ·))(hb:b.Pairwise (· < ·))(h:∀x,x∈a↔x∈b):a=b:=rise_ext (lt:=(· < ·)) (fun x=>by omega) (fun x y z=>by omega) ha hb h
theorem compactI(l:List Int):Lib.compact (l.mergeSort fun x y=>decide (x≤y))=uniqI l:=by
 have hs:(l.mergeSort fun x y=>decide (x≤y)).Pairwise fun x y=>x<y∨x=y:=by
  have:=List.pairwise_mergeSort (le:=fun(x y:Int)=>decide (x≤y)) (fun a b c h1 h2=>by simp at*;omega) (fun a b=>by simp;omega) l
  exact this.imp fun{a b} h=>by simp at h;omega
 obtain⟨h1,h2⟩:=compact_rise (lt:=(· < ·)) (fun x y z=>by omega) hs
 exact rise_eq h1 (uniqI_rise l) fun x=>by rw[h2,List.mem_mergeSort,uniqI_mem]
theorem strLt_eq(x y:ByteArray):strLt x y=ltStr x.data.toList y.data.toList:=by
 unfold strLt ltStr
 rw[Go.Proofs.bytesLess_eq,ByteArray.toList_eq,ByteArray.toList_eq]
theorem strLt_irr(x:ByteArray):¬strLt x x=true:=by rw[strLt_eq,swo_ltStr.irrefl];simp
theorem strLt_tr(x y z:ByteArray)(h1:strLt x y=true)(h2:strLt y z=true):strLt x z=true:=by rw[strLt_eq]at*;exact swo_ltStr.trans _ _ _ h1 h2
theorem strLt_anti{x y:ByteArray}(h1:strLt x y=false)(h2:strLt y x=false):x=y:=by
 rw[strLt_eq]at h1 h2
 simp only[ltStr,decide_eq_false_iff_not,List.not_lt]at h1 h2
 have h:=List.le_antisymm h2 h1
 cases x;cases y
 simp only at h
 congr 1
 exact Array.ext' h
theorem addS_mem{l:List ByteArray}{s x:ByteArray}:x∈addS l s↔x=s∨x∈l:=by
 induction l with
 | nil=>simp[addS]
 | cons y r ih=>
  rw[addS]
  split
  ·split
   ·rename_i h1 h2
    have:s=y:=strEq_iff.1 h2
    subst this
    simp
   ·simp
  ·rw[List.mem_cons,ih,List.mem_cons]
   constructor
   ·rintro(h | h | h)
    ·exact .inr (.inl h)
    ·exact .inl h
    ·exact .inr (.inr h)
   ·rintro(h | h | h)
    ·exact .inr (.inl h)
    ·exact .inl h
    ·exact .inr (.inr h)
abbrev SLt(x y:ByteArray):Prop:=strLt x y=true
theorem addS_rise{l:List ByteArray}{s:ByteArray}(h:l.Pairwise SLt):(addS l s).Pairwise SLt:=by
 induction l with
 | nil=>simp[addS]
 | cons y r ih=>
  obtain⟨h1,h2⟩:=List.pairwise_cons.1 h
  rw[addS]
  split
  ·rename_i hle
   split
   ·rename_i he
    have he:s=y:=strEq_iff.1 he
    subst he
    exact h
   ·rename_i he
    have hlt:strLt s y=true:=by
     rw[Bool.or_eq_true]at hle
     exact hle.resolve_right (by simpa using he)
    refine List.pairwise_cons.2 ⟨fun z hz=>?_,h⟩
    rcases List.mem_cons.1 hz with rfl | hz
    ·exact hlt
    ·exact strLt_tr _ _ _ hlt (h1 z hz)
  ·rename_i hle
   rw[Bool.or_eq_true,not_or]at hle
   have hys:strLt y s=true:=by
    cases hc:strLt y s with
    | true=>rfl
    | false=>exact absurd (strEq_iff.2 (strLt_anti (by simpa using hle.1) hc)) hle.2
   refine List.pairwise_cons.2 ⟨fun z hz=>?_,ih h2⟩
   rcases addS_mem.1 hz with rfl | hz
   ·exact hys
   ·exact h1 z hz
def uniqS(l:List ByteArray):List ByteArray:=l.foldl addS []
theorem foldS:∀(l out:List ByteArray),out.Pairwise SLt→(l.foldl addS out).Pairwise SLt∧∀x,x∈l.foldl addS out↔x∈out∨x∈l
 |[],out,h=>⟨h,fun x=>by simp⟩
 | s::l,out,h=>by
  obtain⟨h1,h2⟩:=foldS l (addS out s) (addS_rise h)
  refine⟨h1,fun x=>?_⟩
  rw[List.foldl_cons,h2,addS_mem,List.mem_cons]
  constructor
  ·rintro((h | h) | h)
   ·exact .inr (.inl h)
   ·exact .inl h
   ·exact .inr (.inr h)
  ·rintro(h | h | h)
   ·exact .inl (.inr h)
   ·exact .inl (.inl h)
   ·exact .inr h
theorem uniqS_rise(l:List ByteArray):(uniqS l).Pairwise SLt:=(foldS l [] .nil).1
theorem uniqS_mem{l:List ByteArray}{x:ByteArray}:x∈uniqS l↔x∈l:=by rw[uniqS,(foldS l [] .nil).2];simp
theorem riseS_eq{a b:List ByteArray}(ha:a.Pairwise SLt)(hb:b.Pairwise SLt)(h:∀x,x∈a↔x∈b):a=b:=rise_ext strLt_irr strLt_tr ha hb h
def toB(l:List UInt8):ByteArray:=⟨l.toArray⟩
theorem toB_list(s:ByteArray):toB s.data.toList=s:=by cases s;rfl
theorem list_toB(l:List UInt8):(toB l).data.toList=l:=rfl
theorem compactS(l:List ByteArray):(Lib.compact ((l.map (·.data.toList)).mergeSort fun x y=>decide (x≤y))).map toB=uniqS l:=by
 have hs:((l.map (·.data.toList)).mergeSort fun(x y:List UInt8)=>decide (x≤y)).Pairwise fun x y=>x<y∨x=y:=by
  have:=List.pairwise_mergeSort (le:=fun(x y:List UInt8)=>decide (x≤y)) (fun a b c h1 h2=>by simp only[decide_eq_true_eq]at*;exact List.le_trans h1 h2) (fun a b=>by simp only[Bool.or_eq_true,decide_eq_true_eq];exact List.le_total a b) (l.map (·.data.toList))
  refine this.imp fun{a b} h=>?_
  simp only[decide_eq_true_eq]at h
  by_cases hab:a<b
  ·exact .inl hab
  ·exact .inr (List.le_antisymm h (List.not_lt.1 hab))
 obtain⟨h1,h2⟩:=compact_rise (lt:=fun(x y:List UInt8)=>x<y) (fun x y z h1 h2=>List.lt_trans h1 h2) hs
 refine riseS_eq ?_ (uniqS_rise l) fun x=>?_
 ·rw[List.pairwise_map]
  exact h1.imp fun{a b} h=>by
   show strLt _ _=true
   rw[strLt_eq,list_toB,list_toB]
   simpa[ltStr]using h
 ·rw[List.mem_map,uniqS_mem]
  constructor
  ·rintro⟨z,hz,rfl⟩
   rw[h2,List.mem_mergeSort,List.mem_map]at hz
   obtain⟨s,hs,rfl⟩:=hz
   rw[toB_list];exact hs
  ·intro hx
   exact⟨x.data.toList,by rw[h2,List.mem_mergeSort];exact List.mem_map.2 ⟨x,hx,rfl⟩,toB_list x⟩
end Go.Proofs.YtpndfdfipkadkaaGreatDoor
set_option maxRecDepth 100000
namespace Go.Proofs.YtpndfdfipkadkaaGreatDoor
open Go Go.Wx Go.Ax Go.Sort
theorem sortI_c (l : List Int) {b n : Nat} {H : Heap} (hb : H[b]? = some (.arr 3 1 (l.map ienc))) (hn : l.length = n) (hm : n ≤ 1000000) :
    AC Pg 179 [.sl b 0 n n] H fun _ H' ms => H' = H.set b (.arr 3 1 ((l.mergeSort fun x y => decide (x ≤ y)).map ienc)) ∧ ms = [b] := by
  refine AC_row (enc := Value.int .i64) (fun _ => rfl) (l := l) (l' := l.mergeSort fun x y => decide (x ≤ y)) hb hn (List.length_mergeSort l) (by kernel_rfl) (fun _ a c w => ?_) fun blk c w hnc hH hblk => ?_
  · refine Calls.mono (Any.slices_Sort_int_none Tryz.lays189 a c w) ?_
    rintro e w' ⟨rfl, rfl⟩
    exact ⟨_, rfl, rfl, fun X _ _ => ⟨.any, .any _, rfl, rfl⟩⟩
  · have := Any.slices_Sort_int Tryz.lays189 blk 0 c l w hH hblk (by omega)
    rw [hn] at this
    refine Calls.mono this ?_
    rintro e w' ⟨rfl, q, os, rfl⟩
    exact ⟨_, rfl, q, os, rfl, fun X _ _ => ⟨.any, .any _, rfl, rfl⟩⟩
theorem compactI_c (l : List Int) {b n : Nat} {H : Heap} (hb : H[b]? = some (.arr 3 1 (l.map ienc))) (hn : l.length = n) (hm : n ≤ 1000000) :
    AC Pg 180 [.sl b 0 n n] H fun d H' ms => d = .sl b 0 (Lib.compact l).length n ∧ H' = H.set b (.arr 3 1 ((Lib.compact l ++ List.replicate (l.length - (Lib.compact l).length) 0).map ienc)) ∧ ms = [b] := by
  have hle : (Lib.compact l).length ≤ l.length := by
    unfold Lib.compact Lib.compactUpTo
    rw [List.length_map]
    exact Nat.le_trans (List.length_filter_le _ _) (by simp)
  refine AC_row (enc := Value.int .i64) (fun _ => rfl) (l := l) (l' := Lib.compact l ++ List.replicate (l.length - (Lib.compact l).length) 0) hb hn (by simp; omega) (by kernel_rfl) (fun h0 a c w => ?_) fun blk c w hnc hH hblk => ?_
  · refine Calls.mono (Any.slices_Compact_int_empty Tryz.laysNm220 a c w) ?_
    rintro e w' ⟨rfl, rfl⟩
    refine ⟨_, rfl, rfl, fun X _ hr => ⟨.sl b 0 (Lib.compact l).length n, ?_, rfl, rfl, rfl⟩⟩
    subst h0
    exact hr 0 (Nat.zero_le _)
  · have := Any.slices_Compact_int Tryz.laysNm220 blk 0 c l w hH (by omega) (by omega)
    rw [hn] at this
    refine Calls.mono this ?_
    rintro e w' ⟨rfl, q, rfl⟩
    rw [hn]
    exact ⟨_, rfl, q, #[], by rw [grow_empty], fun X _ hr => ⟨.sl b 0 (Lib.compact l).length n, hr _ (by omega), rfl, rfl, rfl⟩⟩
theorem sortS_c (l : List ByteArray) {b n : Nat} {H : Heap} (hb : H[b]? = some (.arr 9 1 (l.map senc))) (hn : l.length = n) (hm : n ≤ 1000000) :
    AC Pg 240 [.sl b 0 n n] H fun _ H' ms => H' = H.set b (.arr 9 1 ((((l.map (·.data.toList)).mergeSort fun x y => decide (x ≤ y)).map toB).map senc)) ∧ ms = [b] := by
  have hb' : H[b]? = some (.arr 9 1 (encR encStr (l.map (·.data.toList)))) := by
    rw [hb]
    congr 2
    unfold encR
    rw [List.map_map]
    apply List.map_congr_left
    intro s _
    show [D.v (.string s)] = [D.v (.string (toB s.data.toList))]
    rw [toB_list]
  have hR : ∀ zs : List (List UInt8), encR encStr zs = (zs.map toB).map senc := fun zs => by unfold encR; rw [List.map_map]; rfl
  refine AC_row (enc := encStr) (fun _ => rfl) (l := l.map (·.data.toList)) (l' := (l.map (·.data.toList)).mergeSort fun x y => decide (x ≤ y)) hb' (by simpa using hn) (List.length_mergeSort _) (by kernel_rfl) (fun _ a c w => ?_) fun blk c w hnc hH hblk => ?_
  · refine Calls.mono (Any.slices_Sort_string_none Tryz.lays190 a c w) ?_
    rintro e w' ⟨rfl, rfl⟩
    exact ⟨_, rfl, rfl, fun X _ _ => ⟨.any, .any _, by rw [hR], rfl⟩⟩
  · have := Any.slices_Sort_string Tryz.lays190 blk 0 c (l.map (·.data.toList)) w hH hblk (by simp; omega)
    rw [List.length_map, hn] at this
    refine Calls.mono this ?_
    rintro e w' ⟨rfl, q, os, rfl⟩
    exact ⟨_, rfl, q, os, rfl, fun X _ _ => ⟨.any, .any _, by rw [hR], rfl⟩⟩
theorem compactS_c (l : List ByteArray) {b n : Nat} {H : Heap} (hb : H[b]? = some (.arr 9 1 (l.map senc))) (hn : l.length = n) (hm : n ≤ 1000000) :
    AC Pg 241 [.sl b 0 n n] H fun d H' ms => ∃ ys : List ByteArray, ys.length = n ∧ ys.take (Lib.compact (l.map (·.data.toList))).length = (Lib.compact (l.map (·.data.toList))).map toB ∧ (Lib.compact (l.map (·.data.toList))).length ≤ n ∧
      d = .sl b 0 (Lib.compact (l.map (·.data.toList))).length n ∧ H' = H.set b (.arr 9 1 (ys.map senc)) ∧ ms = [b] := by
  obtain ⟨zs, hzs⟩ : ∃ zs, zs = l.map (·.data.toList) := ⟨_, rfl⟩
  have hzl : zs.length = n := by rw [hzs]; simpa using hn
  have hle : (Lib.compact zs).length ≤ zs.length := by
    unfold Lib.compact Lib.compactUpTo
    rw [List.length_map]
    exact Nat.le_trans (List.length_filter_le _ _) (by simp)
  have hb' : H[b]? = some (.arr 9 1 (encR encStr zs)) := by
    rw [hb, hzs]
    congr 2
    unfold encR
    rw [List.map_map]
    apply List.map_congr_left
    intro s _
    show [D.v (.string s)] = [D.v (.string (toB s.data.toList))]
    rw [toB_list]
  have hR : ∀ zs : List (List UInt8), encR encStr zs = (zs.map toB).map senc := fun zs => by unfold encR; rw [List.map_map]; rfl
  rw [← hzs]
  have fin : ∀ d, d = D.sl b 0 (Lib.compact zs).length n → ∃ ys : List ByteArray, ys.length = n ∧ ys.take (Lib.compact zs).length = (Lib.compact zs).map toB ∧ (Lib.compact zs).length ≤ n ∧ d = .sl b 0 (Lib.compact zs).length n ∧
      H.set b (.arr 9 1 (encR encStr (Lib.compact zs ++ List.replicate (zs.length - (Lib.compact zs).length) []))) = H.set b (.arr 9 1 (ys.map senc)) ∧ [b] = [b] := fun d hd =>
    ⟨(Lib.compact zs ++ List.replicate (zs.length - (Lib.compact zs).length) []).map toB, by simp; omega, by rw [← List.map_take, List.take_left'] ; rfl, by omega, hd, by rw [hR], rfl⟩
  refine AC_row (enc := encStr) (fun _ => rfl) (l := zs) (l' := Lib.compact zs ++ List.replicate (zs.length - (Lib.compact zs).length) []) hb' hzl (by simp; omega) (by kernel_rfl) (fun h0 a c w => ?_) fun blk c w hnc hH hblk => ?_
  · refine Calls.mono (Any.slices_Compact_string_empty Tryz.lays194 a c w) ?_
    rintro e w' ⟨rfl, rfl⟩
    refine ⟨_, rfl, rfl, fun X _ hr => ⟨.sl b 0 (Lib.compact zs).length n, ?_, fin _ rfl⟩⟩
    have hz0 : zs.length = 0 := by rw [h0]; rfl
    have : (Lib.compact zs).length = 0 := by omega
    rw [this]
    exact hr 0 (Nat.zero_le _)
  · have := Any.slices_Compact_string Tryz.lays194 blk 0 c zs w hH (by omega) (by omega)
    rw [hzl] at this
    refine Calls.mono this ?_
    rintro e w' ⟨rfl, q, rfl⟩
    exact ⟨_, rfl, q, #[], by rw [grow_empty, hzl], fun X _ hr => ⟨.sl b 0 (Lib.compact zs).length n, hr _ (by omega), fin _ rfl⟩⟩
theorem uniqueI_c (l : List Int) {b n : Nat} {H : Heap} (hb : H[b]? = some (.arr 3 1 (l.map ienc))) (hn : l.length = n) (hm : n ≤ 1000000) :
    AC Pg 120 [.sl b 0 n n] H fun d H' ms => ∃ ys : List Int, ys.length = n ∧ ys.take (uniqI l).length = uniqI l ∧ (uniqI l).length ≤ n ∧ d = .sl b 0 (uniqI l).length n ∧ H' = H.set b (.arr 3 1 (ys.map ienc)) ∧ ms = [b] := by
  have hlt := lt_of_some hb
  refine AC_fn Tryz.func120 rfl rfl rfl [b] (Nat.beq b) (fun k _ h => by rw [← Nat.eq_of_beq_eq_true h]; simp) (go [] [] ?_)
  refine AC.mono (sortI_c l hb hn hm) ?_
  rintro d H' ms ⟨rfl, rfl⟩
  refine ck (and_t (Nat.beq_refl b) rfl) (force_to ?_)
  have hms : (l.mergeSort fun x y => decide (x ≤ y)).length = n := by rw [List.length_mergeSort]; exact hn
  refine AC.mono (compactI_c (l.mergeSort fun x y => decide (x ≤ y)) (List.getElem?_set_self hlt) hms hm) ?_
  rintro d' H' ms ⟨rfl, rfl, rfl⟩
  refine ck (and_t (Nat.beq_refl b) rfl) ?_
  rw [compactI, List.set_set]
  have hle : (uniqI l).length ≤ (l.mergeSort fun x y => decide (x ≤ y)).length := by
    rw [← compactI]
    unfold Lib.compact Lib.compactUpTo
    rw [List.length_map]
    exact Nat.le_trans (List.length_filter_le _ _) (by simp)
  exact ⟨uniqI l ++ List.replicate ((l.mergeSort fun x y => decide (x ≤ y)).length - (uniqI l).length) 0, by simp; simp at hle; omega, List.take_left' rfl, by simp at hle; omega, rfl, rfl, rfl⟩
theorem uniqueS_c (l : List ByteArray) {b n : Nat} {H : Heap} (hb : H[b]? = some (.arr 9 1 (l.map senc))) (hn : l.length = n) (hm : n ≤ 1000000) :
    AC Pg 210 [.sl b 0 n n] H fun d H' ms => ∃ ys : List ByteArray, ys.length = n ∧ ys.take (uniqS l).length = uniqS l ∧ (uniqS l).length ≤ n ∧ d = .sl b 0 (uniqS l).length n ∧ H' = H.set b (.arr 9 1 (ys.map senc)) ∧ ms = [b] := by
  have hlt := lt_of_some hb
  refine AC_fn Tryz.func210 rfl rfl rfl [b] (Nat.beq b) (fun k _ h => by rw [← Nat.eq_of_beq_eq_true h]; simp) (go [] [] ?_)
  refine AC.mono (sortS_c l hb hn hm) ?_
  rintro d H' ms ⟨rfl, rfl⟩
  refine ck (and_t (Nat.beq_refl b) rfl) (force_to ?_)
  obtain ⟨zs, hzs⟩ : ∃ zs, zs = ((l.map (·.data.toList)).mergeSort fun (x y : List UInt8) => decide (x ≤ y)).map toB := ⟨_, rfl⟩
  have hback : zs.map (·.data.toList) = (l.map (·.data.toList)).mergeSort fun (x y : List UInt8) => decide (x ≤ y) := by rw [hzs, List.map_map]; exact List.map_id _
  have hzl : zs.length = n := by rw [hzs, List.length_map, List.length_mergeSort, List.length_map]; exact hn
  rw [← hzs]
  refine AC.mono (compactS_c zs (List.getElem?_set_self hlt) hzl hm) ?_
  rintro d' H' ms ⟨ys, h1, h2, h3, rfl, rfl, rfl⟩
  refine ck (and_t (Nat.beq_refl b) rfl) ?_
  have hlen : (Lib.compact (zs.map (·.data.toList))).length = (uniqS l).length := by rw [← compactS l, hback, List.length_map]
  rw [hlen] at h2 h3 ⊢
  rw [hback, compactS] at h2
  rw [List.set_set]
  exact ⟨ys, h1, h2, h3, rfl, rfl, rfl⟩
end Go.Proofs.YtpndfdfipkadkaaGreatDoor
