/- The law holds: part 358. Conditions: none. -/
import Derived.Test.YtpndfdfipkadkaaGreatDoorKU25
set_option linter.all false
set_option maxRecDepth 100000
namespace Go.Proofs.YtpndfdfipkadkaaGreatDoor
open Go Go.Wx Go.Ax
def ruleOf(l:List Spell)(m:Mt):Spell:=(l[m.rule.toNat]?).getD ⟨⟨#[]⟩,⟨#[]⟩,0⟩
structure MtOk(s:ByteArray)(l:List Spell)(m:Mt):Prop where
 ex:∃(p k:Nat) (x:Spell),m=⟨p,k⟩∧p<s.size∧l[k]? =some x∧occB s p x.frm=true
theorem mtAt_ok{s:ByteArray}{l:List Spell}{i:Nat}(hi:i<s.size):∀m∈mtAt s l i,MtOk s l m:=fun m hm=>by
 unfold mtAt at hm
 obtain⟨k,hk,h⟩:=List.mem_filterMap.1 hm
 cases hx:l[k]? with
 | none=>rw[hx]at h;cases h
 | some x=>
  rw[hx]at h
  simp only at h
  split at h
  ·rename_i ho
   cases h
   exact⟨i,k,x,rfl,hi,hx,ho⟩
  ·cases h
theorem mtL_ok{s:ByteArray}{l:List Spell}:∀m∈mtL s l,MtOk s l m:=fun m hm=>by
 unfold mtL at hm
 obtain⟨i,hi,h⟩:=List.mem_flatMap.1 hm
 exact mtAt_ok (List.mem_range.1 hi) m h
def inK(l:List Spell)(ms:List Mt)(i:Nat):Nat→Int × List Int→Int × List Int
 | 0,st=>st
 | k+1,st=>match ms[k]? with
  | some m=>if m.at_+(ruleOf l m).frm.size=i then((inK l ms i k st).1+((ruleOf l m).to.size-1),(inK l ms i k st).2.set k (inK l ms i k st).1)else inK l ms i k st
  | none=>inK l ms i k st
structure Num where
 next:Int
 inner:List Int
 nums:List Int
def numU(l:List Spell)(ms:List Mt):Nat→Num
 | 0=>⟨0,List.replicate ms.length 0,[]⟩
 | i+1=>⟨(inK l ms i ms.length ((numU l ms i).next,(numU l ms i).inner)).1+1,(inK l ms i ms.length ((numU l ms i).next,(numU l ms i).inner)).2,(numU l ms i).nums++[(inK l ms i ms.length ((numU l ms i).next,(numU l ms i).inner)).1]⟩
def RuleOk(x:Spell):Prop:=1≤x.frm.size∧x.frm.size≤3∧1≤x.to.size∧x.to.size≤3∧0≤x.cost∧x.cost≤1000
theorem inK_inv{l:List Spell}{ms:List Mt}{i:Nat}(hr:∀m∈ms,RuleOk (ruleOf l m)):∀(k:Nat) (st:Int × List Int),st.1≤(inK l ms i k st).1∧(inK l ms i k st).1≤st.1+2*k∧(inK l ms i k st).2.length=st.2.length
 | 0,st=>⟨Int.le_refl _,by simp[inK],rfl⟩
 | k+1,st=>by
  obtain⟨h1,h2,h3⟩:=inK_inv (i:=i) hr k st
  unfold inK
  cases hm:ms[k]? with
  | none=>simp only;exact⟨h1,by omega,h3⟩
  | some m=>
   simp only
   have:=hr m (List.mem_of_getElem? hm)
   unfold RuleOk at this
   split
   ·refine⟨?_,?_,?_⟩
    ·simp only;omega
    ·simp only;omega
    ·simp only[List.length_set];exact h3
   ·exact⟨h1,by omega,h3⟩
theorem numU_inv{l:List Spell}{ms:List Mt}(hr:∀m∈ms,RuleOk (ruleOf l m)):∀i,0≤(numU l ms i).next∧(numU l ms i).next≤i*(2*ms.length+1)∧(numU l ms i).inner.length=ms.length∧(numU l ms i).nums.length=i
 | 0=>by simp[numU]
 | i+1=>by
  obtain⟨h1,h2,h3,h4⟩:=numU_inv hr i
  obtain⟨g1,g2,g3⟩:=inK_inv (i:=i) hr ms.length ((numU l ms i).next,(numU l ms i).inner)
  unfold numU
  simp only at g1 g2 g3 ⊢
  refine⟨by omega,?_,by rw[g3];exact h3,by simp[h4]⟩
  have:((i+1:Nat):Int)*(2*(ms.length:Int)+1)=(i:Int)*(2*ms.length+1)+(2*ms.length+1):=by
   rw[Int.natCast_add,Int.add_mul];simp
  omega
def endR(n:Int):D:= .row true [[di n,di 0]]
def letA(s:ByteArray)(nm:Num)(i:Nat):List Arc:=(List.range i).map fun j=>⟨nm.nums.getD j 0,nm.nums.getD (j+1) 0,byteAt s j,0⟩
def chA(l:List Spell)(nm:Num)(k:Nat)(m:Mt)(j:Nat):Arc:=
 ⟨if j=0 then nm.nums.getD m.at_.toNat 0 else nm.inner.getD k 0+(j-1),if j+1=(ruleOf l m).to.size then nm.nums.getD (m.at_.toNat+(ruleOf l m).frm.size) 0 else nm.inner.getD k 0+j,byteAt (ruleOf l m).to j,if j=0 then(ruleOf l m).cost else 0⟩
def chJ(l:List Spell)(nm:Num)(k:Nat)(m:Mt)(j:Nat):List Arc:=(List.range j).map (chA l nm k m)
def chK(l:List Spell)(ms:List Mt)(nm:Num)(k:Nat):List Arc:=match ms[k]? with
 | some m=>chJ l nm k m (ruleOf l m).to.size
 | none=>[]
def arcsM(s:ByteArray)(l:List Spell)(ms:List Mt)(nm:Num)(k:Nat):List Arc:=letA s nm s.size++(List.range k).flatMap (chK l ms nm)
theorem occ_le{s x:ByteArray}{p:Nat}(hp:p<s.size)(h:occB s p x=true):p+x.size≤s.size:=by
 unfold occB Lib.hasPrefix at h
 have h1:=(List.isPrefixOf_iff_prefix.1 h).length_le
 have h2:x.data.toList.length=x.size:=by simp
 have h3:(s.extract p s.size).data.toList.length=(s.extract p s.size).size:=by simp
 rw[h2,h3,ByteArray.size_extract]at h1
 omega
theorem inK_in{l:List Spell}{ms:List Mt}{i:Nat}(hr:∀m∈ms,RuleOk (ruleOf l m)):∀(k:Nat) (st:Int × List Int),0≤st.1→(∀y∈st.2,0≤y∧y≤st.1)→∀y∈(inK l ms i k st).2,0≤y∧y≤(inK l ms i k st).1
 | 0,st,_,h=>h
 | k+1,st,h0,h=>by
  have ih:=inK_in (i:=i) hr k st h0 h
  obtain⟨h1,_,_⟩:=inK_inv (l:=l) (ms:=ms) (i:=i) hr k st
  unfold inK
  cases hm:ms[k]? with
  | none=>exact ih
  | some m=>
   have:=hr m (List.mem_of_getElem? hm)
   unfold RuleOk at this
   simp only
   split
   ·intro y hy
    simp only at hy ⊢
    rcases List.mem_or_eq_of_mem_set hy with hy | rfl
    ·have:=ih y hy;omega
    ·omega
   ·exact ih
theorem numU_in{l:List Spell}{ms:List Mt}(hr:∀m∈ms,RuleOk (ruleOf l m)):∀i,∀y∈(numU l ms i).inner,0≤y∧y≤(numU l ms i).next
 | 0=>fun y hy=>by
  have:=List.eq_of_mem_replicate hy
  simp[numU,this]
 | i+1=>fun y hy=>by
  have h:=inK_in (i:=i) hr ms.length ((numU l ms i).next,(numU l ms i).inner) (numU_inv hr i).1 (numU_in hr i) y hy
  show 0≤y∧y≤(inK l ms i ms.length ((numU l ms i).next,(numU l ms i).inner)).1+1
  omega
noncomputable def c174:Code:=Tryz.f174.body.getD .skip
def pl174:Plan:=[(11,[.p 0,.l 1,.p 2,.p 3,.l 4,.p 5,.p 6,.l 7,.p 8,.p 9,.p 10,.p 11]),(22,[.p 0,.l 1,.p 2,.p 3,.p 4,.l 5,.p 6,.p 7,.p 8,.p 9,.l 10,.p 11,.p 12,.p 13,.p 14,.e 15,.e 16,.p 17,.e 18]),(28,[.p 0,.p 1,.l 2,.p 3,.l 4,.p 5,.l 6,.p 7,.p 8]),(35,[.p 0,.l 1,.p 2,.p 3,.p 4,.l 5,.p 6,.p 7,.p 8,.p 9,.e 10,.e 11,.p 12,.e 13])]
def Uniq(l:List Arc):Prop:=∀x∈l,∀y∈l,arcLt x y=false→arcLt y x=false→x=y
def arcsN(s:ByteArray)(l:List Spell):List Arc:=arcsM s l (mtL s l) (numU l (mtL s l) (s.size+1)) (mtL s l).length
def rawA(s:ByteArray)(l:List Spell):Auto:=⟨(numU l (mtL s l) (s.size+1)).next,isort arcLt (arcsN s l),[⟨(numU l (mtL s l) (s.size+1)).nums.getD s.size 0,0⟩]⟩
set_option maxHeartbeats 4000000 in
theorem raw_c(s:ByteArray)(l:List Spell)(hs:s.size≤100)(hl:l.length≤100)(hr:∀x∈l,RuleOk x)(hu:Uniq (arcsN s l)):Pur Pg 174 [ds' s,rows Spell.enc l] (.agg (rawA s l).enc):=by
 have hmo:=mtL_ok (s:=s) (l:=l)
 have hml:(mtL s l).length≤10000:=Nat.le_trans (mtU_len s l s.size) (Nat.mul_le_mul hs hl)
 have hmat:=(matches_c s l hs hl).pur (.cons (.v _) (.one (pd_rows pdSpell l)))
 unfold rawA arcsN
 unfold arcsN at hu
 generalize mtL s l=ms at hmo hml hmat hu
 have hrm:∀m∈ms,RuleOk (ruleOf l m):=fun m hm=>by
  obtain⟨p,k,x,rfl,_,hx,_⟩:=hmo m hm
  have:ruleOf l ⟨p,k⟩=x:=by simp[ruleOf,hx]
  rw[this];exact hr x (List.mem_of_getElem? hx)
 refine Pur_of (PdL.cons (.v _) (.one (pd_rows pdSpell l))) (AC_fn Tryz.func174 rfl rfl rfl [] (fun _=>true) (fun b h=>nomatch h) (AW_rest (c':=restC 0 c174) ?_))
 refine goC 5 [] pl174 ?_
 refine hmat.call ?_
 conv=>whnf
 have hw:IntKind.wrap .i64 ((s.size:Int)+1)=((s.size+1:Nat):Int):=by rw[wadd (by omega) (by omega)];rfl
 generalize IntKind.wrap .i64 ((s.size:Int)+1)=W at hw
 subst hw
 have mk:∀n:Nat,n≤20000→(Nat.ble n n&&(Nat.ble (8*n) 281474976710656&&Nat.ble n maxLen))=true:=fun n hn=>by
  refine and_t (Nat.ble_eq_true_of_le (Nat.le_refl _)) (and_t (Nat.ble_eq_true_of_le (by omega)) (Nat.ble_eq_true_of_le (by simp only[maxLen];omega)))
 refine ck (mk _ (by omega)) ?_
 conv=>whnf
 refine ck (mk _ (by rw[List.length_map];omega)) ?_
 conv=>whnf
 refine goC 1 [] pl174 ?_
 have hL:(ms.map Mt.enc).length=ms.length:=List.length_map _
 have hbd:∀i,i≤s.size+1→0≤(numU l ms i).next∧(numU l ms i).next≤3000000∧(numU l ms i).inner.length=ms.length∧(numU l ms i).nums.length=i:=fun i hi=>by
  obtain⟨h1,h2,h3,h4⟩:=numU_inv hrm i
  refine⟨h1,?_,h3,h4⟩
  have:(i:Int)*(2*ms.length+1)≤101*20001:=Int.mul_le_mul (by omega) (by omega) (by omega) (by omega)
  omega
 refine AW_idx (s.size+1) (fun i st=>HasG [(0,ds' s),(1,rows Spell.enc l),(4,.ptr 0 0 0 1),(5,rows Mt.enc ms),(6,.sl 1 0 (s.size+1) (s.size+1)),(7,.sl 2 0 ms.length ms.length),(8,di (numU l ms i).next),(32,di (s.size+1:Nat)),(33,di i)]
  [.arr 75 3 [[di 0,.v (.slice none 0 0),.v (.slice none 0 0)]],.arr 3 1 (((numU l ms i).nums++List.replicate (s.size+1-i) 0).map ienc),.arr 3 1 ((numU l ms i).inner.map ienc)] st) ?_ ?_
 ·refine hasG (G:=[]) ⟨rfl,rfl,rfl,rfl,rfl,congrArg (fun n=>D.sl 2 0 n n) hL,rfl,rfl,rfl,trivial⟩ ?_
  have h1:((numU l ms 0).nums++List.replicate (s.size+1-0) 0).map ienc=List.replicate (s.size+1) [di 0]:=by simp[numU,ienc]
  have h2:(numU l ms 0).inner.map ienc=List.replicate (ms.map Mt.enc).length [di 0]:=by simp[numU,ienc]
  rw[h1,h2]
  rfl
 rintro i _ hi ⟨e0,G,rfl⟩
 obtain⟨b1,b2,b3,b4⟩:=hbd i hi
 refine AW_drop (BlL.v (.cons (.pd (pd_rows pdSpell l)) (.cons (.ptr (by simp)) (.cons (.pd (pd_rows pdMt ms)) (.cons (.sl (by simp)) (.cons (.sl (by simp)) (.v (.v (.v .nil)))))))))
  (BlH.cons (fun y hy d hd=>by
   rw[List.mem_singleton.1 hy]at hd
   simp at hd
   rcases hd with rfl | rfl<;>exact .pd (.v _)) (.cons (BlO.enc pdI) (.cons (BlO.enc pdI) .nil))) (Nat.zero_le _) fun e=>?_
 refine go [] pl174 (if_ (fun hlt=>?_) (fun hlt=>?_))
 ·have hlt:i<s.size+1:=by simp at hlt;omega
  obtain⟨A,hA⟩:∃A,A=((numU l ms i).nums++List.replicate (s.size+1-i) 0):=⟨_,rfl⟩
  have hAl:A.length=s.size+1:=by rw[hA];simp[b4];omega
  rw[←hA]
  refine AW_idx ms.length (fun k st=>HasG [(0,ds' s),(1,rows Spell.enc l),(4,.ptr 0 0 0 1),(5,rows Mt.enc ms),(6,.sl 1 0 (s.size+1) (s.size+1)),(7,.sl 2 0 ms.length ms.length),(8,di (inK l ms i k ((numU l ms i).next,(numU l ms i).inner)).1),(9,di i),(32,di (s.size+1:Nat)),(33,di i),(36,rows Mt.enc ms),(37,di ms.length),(38,di k)]
   [.arr 75 3 [[di 0,.v (.slice none 0 0),.v (.slice none 0 0)]],.arr 3 1 (A.map ienc),.arr 3 1 ((inK l ms i k ((numU l ms i).next,(numU l ms i).inner)).2.map ienc)] st) (hasG (G:=[]) ⟨rfl,rfl,rfl,rfl,rfl,rfl,rfl,rfl,rfl,rfl,rfl,congrArg (fun n:Nat=>di n) hL,rfl,trivial⟩ rfl) ?_
  rintro k _ hk ⟨e1,G1,rfl⟩
  obtain⟨c1,c2,c3⟩:=inK_inv (i:=i) hrm k ((numU l ms i).next,(numU l ms i).inner)
  refine AW_drop (BlL.v (.cons (.pd (pd_rows pdSpell l)) (.cons (.ptr (by simp)) (.cons (.pd (pd_rows pdMt ms)) (.cons (.sl (by simp)) (.cons (.sl (by simp)) (.v (.v (.v (.v (.cons (.pd (pd_rows pdMt ms)) (.v (.v .nil)))))))))))))
   (BlH.cons (fun y hy d hd=>by
    rw[List.mem_singleton.1 hy]at hd
    simp at hd
    rcases hd with rfl | rfl<;>exact .pd (.v _)) (.cons (BlO.enc pdI) (.cons (BlO.enc pdI) .nil))) (Nat.zero_le _) fun e=>?_
  refine go [] pl174 (if_ (fun hklt=>?_) (fun hklt=>?_))
  ·simp at hklt
   refine row_at hklt ?_
   obtain⟨p,k',x,hm,hp,hx,hocc⟩:=(hmo _ (List.getElem_mem hklt)).ex
   have hmk:ms[k]? =some ⟨p,k'⟩:=by rw[List.getElem?_eq_getElem hklt,hm]
   generalize ms[k]=mm at hm
   subst hm
   have hru:ruleOf l ⟨p,k'⟩=x:=by simp[ruleOf,hx]
   obtain⟨r1,r2,r3,r4,r5,r6⟩:=hr x (List.mem_of_getElem? hx)
   obtain⟨hk',hxe⟩:=List.getElem?_eq_some_iff.1 hx
   conv=>whnf
   have hrow:ixl (l.map Spell.enc) 0 (l.map Spell.enc).length (k':Int)=some x.enc:=ixl_at (by rw[List.getElem?_map,hx];rfl)
   refine lst_at hrow ?_
   conv=>whnf
   have hwe:IntKind.wrap .i64 ((p:Int)+(x.frm.size:Int))=(p:Int)+(x.frm.size:Int):=wadd (by omega) (by omega)
   obtain⟨st,hst⟩:∃st,st=inK l ms i k ((numU l ms i).next,(numU l ms i).inner):=⟨_,rfl⟩
   have hsucc:inK l ms i (k+1) ((numU l ms i).next,(numU l ms i).inner)=if(p:Int)+(x.frm.size:Int)=i then(st.1+((x.to.size:Int)-1),st.2.set k st.1)else st:=by
    rw[hst]
    conv=>lhs;unfold inK
    rw[hmk]
    simp only[hru]
   rw[←hst]at c1 c2 c3
   simp only at c1 c2 c3
   rw[b3]at c3
   generalize inK l ms i k ((numU l ms i).next,(numU l ms i).inner)=st2 at hst
   subst hst
   refine if_ (fun h=>?_) fun h=>?_
   ·have he:(p:Int)+(x.frm.size:Int)=i:=by rw[hwe]at h;simpa using h
    rw[if_pos he]at hsucc
    conv=>whnf
    have hl2:(st.2.map ienc).length=ms.length:=by simpa using c3
    have hkl2:k<st.2.length:=by omega
    refine ck (and_t (beq_len hl2) rfl) ?_
    refine ixl_any (by omega) hklt ?_
    conv=>whnf
    refine ck (beq_len hl2) ?_
    refine nth_at (enc:=ienc) (xs:=st.2) hkl2 ?_
    repeat ((conv=>whnf);(first | refine lst_at hrow ?_))
    have hw1:IntKind.wrap .i64 ((x.to.size:Int)-1)=(x.to.size:Int)-1:=wrap_id (by omega) (by omega)
    have hw2:IntKind.wrap .i64 (st.1+((x.to.size:Int)-1))=st.1+((x.to.size:Int)-1):=wadd (by omega) (by omega)
    have hset:(st.2.map ienc).set (0+k) (ienc st.1)=(st.2.set k st.1).map ienc:=by rw[Nat.zero_add,List.map_set]
    refine⟨hklt,hasG (by rw[hsucc];exact⟨rfl,rfl,rfl,rfl,rfl,rfl,congrArg di (by rw[hw1,hw2]),rfl,rfl,rfl,rfl,rfl,inc hklt (by simp only[maxLen];omega),trivial⟩) (by rw[hsucc];exact congrArg (fun X=>AO.arr 75 3 [[di 0,.v (.slice none 0 0),.v (.slice none 0 0)]]::AO.arr 3 1 (A.map ienc)::AO.arr 3 1 X::_) hset)⟩
   ·have he:¬(p:Int)+(x.frm.size:Int)=i:=by rw[hwe]at h;simpa using h
    rw[if_neg he]at hsucc
    exact⟨hklt,hasG (by rw[hsucc];exact⟨rfl,rfl,rfl,rfl,rfl,rfl,rfl,rfl,rfl,rfl,rfl,rfl,inc hklt (by simp only[maxLen];omega),trivial⟩) (by rw[hsucc];rfl)⟩
  ·simp at hklt
   have hkl:k=ms.length:=by omega
   subst hkl
   obtain⟨st,hst⟩:∃st,st=inK l ms i ms.length ((numU l ms i).next,(numU l ms i).inner):=⟨_,rfl⟩
   have hnu:numU l ms (i+1)=⟨st.1+1,st.2,(numU l ms i).nums++[st.1]⟩:=by rw[hst];rfl
   rw[←hst]at c1 c2 c3
   simp only at c1 c2 c3
   generalize inK l ms i ms.length ((numU l ms i).next,(numU l ms i).inner)=st2 at hst
   subst hst
   have hAl2:(A.map ienc).length=s.size+1:=by simpa using hAl
   conv=>whnf
   refine ck (and_t (beq_len hAl2) rfl) ?_
   refine ixl_any (by omega) hlt ?_
   conv=>whnf
   refine ck (beq_len hAl2) ?_
   refine nth_at (enc:=ienc) (xs:=A) (i:=i) (by omega) ?_
   have hset:(A.map ienc).set (0+i) (ienc st.1)=((numU l ms (i+1)).nums++List.replicate (s.size+1-(i+1)) 0).map ienc:=by
    rw[Nat.zero_add,←List.map_set,hnu,hA,List.set_append_right _ _ (by omega),b4,Nat.sub_self,show s.size+1-i=(s.size+1-(i+1))+1 by omega,List.replicate_succ,List.set_cons_zero]
    simp
   have hw2:IntKind.wrap .i64 (st.1+1)=st.1+1:=wadd (by omega) (by omega)
   have hn1:(numU l ms (i+1)).next=st.1+1:=by rw[hnu]
   have hn2:(numU l ms (i+1)).inner=st.2:=by rw[hnu]
   rw[←hset,hn1,hn2]
   exact⟨hlt,hasG (G:=[]) ⟨rfl,rfl,rfl,rfl,rfl,rfl,congrArg di hw2,rfl,inc hlt (by simp only[maxLen];omega),trivial⟩ rfl⟩
 ·have hin:i=s.size+1:=by simp at hlt;omega
  subst hin
  rw[Nat.sub_self,List.replicate_zero,List.append_nil]
  conv=>whnf
  obtain⟨nm,hnm⟩:∃nm,nm=numU l ms (s.size+1):=⟨_,rfl⟩
  rw[←hnm]at hu
  have hinn:=numU_in hrm (s.size+1)
  rw[←hnm]at b1 b2 b3 b4 hinn
  rw[←hnm]
  have hNl:(nm.nums.map ienc).length=s.size+1:=by simpa using b4
  have hat:∀p,p≤s.size→∃h:p<nm.nums.length,(nm.nums.map ienc)[p]? =some [di (nm.nums[p]'h)]:=fun p hp=>⟨by omega,by rw[List.getElem?_map,List.getElem?_eq_getElem (by omega)];rfl⟩
  refine goC 1 [] pl174 ?_
  conv=>whnf
  refine ck (and_t (beq_len hNl) rfl) ?_
  refine ixl_any (by omega) (by omega) ?_
  conv=>whnf
  refine ck (beq_len hNl) ?_
  obtain⟨hz,hz2⟩:=hat s.size (Nat.le_refl _)
  refine lst_at (ds:=[di (nm.nums[s.size]'hz)]) (by rw[Nat.zero_add];exact hz2) ?_
  conv=>whnf
  have hzg:nm.nums[s.size]'hz=nm.nums.getD s.size 0:=by simp[List.getD_eq_getElem?_getD,hz]
  have hgd:∀p,p≤s.size→(nm.nums.map ienc)[p]? =some [di (nm.nums.getD p 0)]:=fun p hp=>by
   obtain⟨h1,h2⟩:=hat p hp
   rw[h2];simp[List.getD_eq_getElem?_getD,h1]
  have hix:∀p:Nat,p≤s.size→ixl (nm.nums.map ienc) 0 (s.size+1) (p:Int)=some [di (nm.nums.getD p 0)]:=fun p hp=>ixl_some.2 ⟨Int.natCast_nonneg p,by simp;omega,by simpa using hgd p hp⟩
  rw[hzg]
  refine AW_gcell 3 0 1 75 3 205 4 (xs:=[[di nm.next,.v (.slice none 0 0),.row true [[di (nm.nums.getD s.size 0),di 0]]]]) (ds:=[di nm.next,.v (.slice none 0 0),.row true [[di (nm.nums.getD s.size 0),di 0]]]) rfl rfl rfl (.inl (Nat.zero_le _)) (Nat.zero_le _) ?_
  refine goC 1 [] pl174 ?_
  refine AW_idx s.size (fun i st=>HasG [(0,ds' s),(1,rows Spell.enc l),(4,.ptr 0 0 0 1),(5,rows Mt.enc ms),(6,.sl 1 0 (s.size+1) (s.size+1)),(7,.sl 2 0 ms.length ms.length),(12,.ptr 3 0 0 1),(87,di s.size),(88,di i)]
   [.arr 75 3 [[di 0,.v (.slice none 0 0),.v (.slice none 0 0)]],.arr 3 1 (nm.nums.map ienc),.arr 3 1 (nm.inner.map ienc),.arr 75 3 [[di nm.next,.sl 4 0 i i,endR (nm.nums.getD s.size 0)]],.arr 205 4 ((letA s nm i).map Arc.enc)] st) ?_ ?_
  ·refine hasG (G:=[]) ⟨rfl,rfl,rfl,rfl,rfl,rfl,rfl,rfl,rfl,trivial⟩ ?_
   refine List.ext_getElem? fun q=>?_
   match q with
   | 0=>rfl
   | 1=>rfl
   | 2=>rfl
   | 3=>rfl
   | 4=>rfl
   | q+5=>rfl
  rintro i _ hi ⟨e1,G1,rfl⟩
  have hpE:Pd (endR (nm.nums.getD s.size 0)):= .row fun l hl d hd=>by rw[List.mem_singleton.1 hl]at hd;simp at hd;rcases hd with rfl | rfl<;>exact .v _
  refine AW_drop (BlL.v (.cons (.pd (pd_rows pdSpell l)) (.cons (.ptr (by simp)) (.cons (.pd (pd_rows pdMt ms)) (.cons (.sl (by simp)) (.cons (.sl (by simp)) (.cons (.ptr (by simp)) (.v (.v .nil)))))))))
   (BlH.cons (fun y hy d hd=>by
    rw[List.mem_singleton.1 hy]at hd
    simp at hd
    rcases hd with rfl | rfl<;>exact .pd (.v _)) (.cons (BlO.enc pdI) (.cons (BlO.enc pdI) (.cons (fun y hy d hd=>by
     rw[List.mem_singleton.1 hy]at hd
     simp at hd
     rcases hd with rfl | rfl | rfl
     ·exact .pd (.v _)
     ·exact .sl (by simp)
     ·exact .pd hpE) (.cons (BlO.enc pdArc) .nil))))) (Nat.zero_le _) fun e=>?_
  refine go [] pl174 (if_ (fun hlt=>?_) (fun hlt=>?_))
  ·simp at hlt
   have hwi:IntKind.wrap .i64 ((i:Int)+1)=((i+1:Nat):Int):=by rw[wadd (by omega) (by omega)];rfl
   have hll:(letA s nm i).length=i:=by simp[letA]
   conv=>whnf
   refine ck (and_t (beq_len hNl) rfl) ?_
   refine lst_at (hix i (by omega)) ?_
   conv=>whnf
   refine ck (beq_len hNl) ?_
   refine lst_at (ds:=[di (nm.nums.getD i 0)]) (by simpa using hgd i (by omega)) ?_
   conv=>whnf
   refine ck (and_t (beq_len hNl) rfl) ?_
   refine lst_at (ds:=[di (nm.nums.getD (i+1) 0)]) (by rw[hwi];exact hix (i+1) (by omega)) ?_
   conv=>whnf
   refine ck (beq_len hNl) ?_
   refine lst_at (ds:=[di (nm.nums.getD (i+1) 0)]) (by rw[hwi];simpa using hgd (i+1) (by omega)) ?_
   conv=>whnf
   refine ck (sidx hlt) ?_
   conv=>whnf
   refine push (by simp[hll]) (by omega) ?_
   refine⟨hlt,hasG (G:=[]) ⟨rfl,rfl,rfl,rfl,rfl,rfl,rfl,rfl,inc hlt (by simp only[maxLen];omega),trivial⟩ ?_⟩
   have hsucc:(letA s nm (i+1)).map Arc.enc=(letA s nm i).map Arc.enc++[Arc.enc ⟨nm.nums.getD i 0,nm.nums.getD (i+1) 0,byteAt s i,0⟩]:=by
    unfold letA
    rw[List.range_succ,List.map_append,List.map_append];rfl
   rw[hsucc]
   rfl
  ·simp at hlt
   have his:i=s.size:=by omega
   subst his
   conv=>whnf
   have hletl:(letA s nm s.size).length=s.size:=by simp[letA]
   refine goC 1 [] pl174 ?_
   refine AW_idx ms.length (fun k st=>∃az n,az=arcsM s l ms nm k∧az.length=n∧n≤s.size+3*k∧HasG [(0,ds' s),(1,rows Spell.enc l),(4,.ptr 0 0 0 1),(5,rows Mt.enc ms),(6,.sl 1 0 (s.size+1) (s.size+1)),(7,.sl 2 0 ms.length ms.length),(12,.ptr 3 0 0 1),(110,rows Mt.enc ms),(111,di ms.length),(112,di k)]
    [.arr 75 3 [[di 0,.v (.slice none 0 0),.v (.slice none 0 0)]],.arr 3 1 (nm.nums.map ienc),.arr 3 1 (nm.inner.map ienc),.arr 75 3 [[di nm.next,.sl 4 0 n n,endR (nm.nums.getD s.size 0)]],.arr 205 4 (az.map Arc.enc)] st) ?_ ?_
   ·exact⟨letA s nm s.size,s.size,by simp[arcsM],hletl,by omega,hasG (G:=[]) ⟨rfl,rfl,rfl,rfl,rfl,rfl,rfl,rfl,congrArg (fun n:Nat=>di n) hL,rfl,trivial⟩ rfl⟩
   clear hletl
   rintro k _ hk ⟨az,n,haz,hn,hnk,e2,G2,rfl⟩
   refine AW_drop (BlL.v (.cons (.pd (pd_rows pdSpell l)) (.cons (.ptr (by simp)) (.cons (.pd (pd_rows pdMt ms)) (.cons (.sl (by simp)) (.cons (.sl (by simp)) (.cons (.ptr (by simp)) (.cons (.pd (pd_rows pdMt ms)) (.v (.v .nil))))))))))
    (BlH.cons (fun y hy d hd=>by
     rw[List.mem_singleton.1 hy]at hd
     simp at hd
     rcases hd with rfl | rfl<;>exact .pd (.v _)) (.cons (BlO.enc pdI) (.cons (BlO.enc pdI) (.cons (fun y hy d hd=>by
      rw[List.mem_singleton.1 hy]at hd
      simp at hd
      rcases hd with rfl | rfl | rfl
      ·exact .pd (.v _)
      ·exact .sl (by simp)
      ·exact .pd hpE) (.cons (BlO.enc pdArc) .nil))))) (Nat.zero_le _) fun e=>?_
   refine go [] pl174 (if_ (fun hklt=>?_) (fun hklt=>?_))
   ·simp at hklt
    refine row_at hklt ?_
    obtain⟨p,k',x,hm,hp,hx,hocc⟩:=(hmo _ (List.getElem_mem hklt)).ex
    have hmk:ms[k]? =some ⟨p,k'⟩:=by rw[List.getElem?_eq_getElem hklt,hm]
    generalize ms[k]=mm at hm
    subst hm
    have hru:ruleOf l ⟨p,k'⟩=x:=by simp[ruleOf,hx]
    obtain⟨r1,r2,r3,r4,r5,r6⟩:=hr x (List.mem_of_getElem? hx)
    have hend:p+x.frm.size≤s.size:=occ_le hp hocc
    have hrow:ixl (l.map Spell.enc) 0 (l.map Spell.enc).length (k':Int)=some x.enc:=ixl_at (by rw[List.getElem?_map,hx];rfl)
    conv=>whnf
    refine lst_at hrow ?_
    conv=>whnf
    refine ck (and_t (beq_len hNl) rfl) ?_
    refine lst_at (hix p (by omega)) ?_
    conv=>whnf
    refine ck (beq_len hNl) ?_
    refine lst_at (ds:=[di (nm.nums.getD p 0)]) (by simpa using hgd p (by omega)) ?_
    conv=>whnf
    obtain⟨nx,hnx⟩:∃nx,nx=nm.inner.getD k 0:=⟨_,rfl⟩
    have hnxb:0≤nx∧nx≤3000000:=by
     have hmem:nx∈nm.inner:=by
      rw[hnx,List.getD_eq_getElem?_getD,List.getElem?_eq_getElem (by omega)]
      exact List.getElem_mem _
     have:=hinn nx hmem
     omega
    have hIl:(nm.inner.map ienc).length=ms.length:=by simpa using b3
    have hI1:(nm.inner.map ienc)[k]? =some [di nx]:=by
     rw[hnx,List.getElem?_map,List.getD_eq_getElem?_getD,List.getElem?_eq_getElem (by omega)];rfl
    have hI2:ixl (nm.inner.map ienc) 0 ms.length (k:Int)=some [di nx]:=ixl_some.2 ⟨Int.natCast_nonneg k,by simpa using hklt,by simpa using hI1⟩
    let atJ:Nat→Int:=fun j=>if j=0 then nm.nums.getD p 0 else if j=x.to.size then nm.nums.getD (p+x.frm.size) 0 else nx+(j-1)
    have hch:∀j,j<x.to.size→chA l nm k ⟨p,k'⟩ j=⟨atJ j,if j+1=x.to.size then nm.nums.getD (p+x.frm.size) 0 else nx+j,byteAt x.to j,if j=0 then x.cost else 0⟩:=fun j hj=>by
     have hne:j≠x.to.size:=by omega
     unfold chA
     rw[hru,←hnx]
     simp only[Int.toNat_natCast,atJ,if_neg hne]
    refine AW_idx x.to.size (fun j st=>HasG [(0,ds' s),(1,rows Spell.enc l),(4,.ptr 0 0 0 1),(5,rows Mt.enc ms),(6,.sl 1 0 (s.size+1) (s.size+1)),(7,.sl 2 0 ms.length ms.length),(12,.ptr 3 0 0 1),(14,di k),(15,.ptr 5 0 0 1),(16,.ptr 6 0 0 1),(17,di (atJ j)),(18,di (if j=0 then x.cost else 0)),(110,rows Mt.enc ms),(111,di ms.length),(112,di k),(131,di x.to.size),(132,di j)]
     [.arr 75 3 [[di 0,.v (.slice none 0 0),.v (.slice none 0 0)]],.arr 3 1 (nm.nums.map ienc),.arr 3 1 (nm.inner.map ienc),.arr 75 3 [[di nm.next,.sl 4 0 (n+j) (n+j),endR (nm.nums.getD s.size 0)]],.arr 205 4 ((az++chJ l nm k ⟨p,k'⟩ j).map Arc.enc),.arr 184 2 [[di p,di k']],.arr 113 3 [x.enc]] st) ?_ ?_
    ·refine hasG (G:=[]) ⟨rfl,rfl,rfl,rfl,rfl,rfl,rfl,rfl,rfl,rfl,rfl,rfl,rfl,rfl,rfl,rfl,rfl,trivial⟩ ?_
     have h0:az++chJ l nm k ⟨p,k'⟩ 0=az:=by simp[chJ]
     rw[h0]
     rfl
    rintro j _ hj ⟨e3,G3,rfl⟩
    refine AW_drop (BlL.v (.cons (.pd (pd_rows pdSpell l)) (.cons (.ptr (by simp)) (.cons (.pd (pd_rows pdMt ms)) (.cons (.sl (by simp)) (.cons (.sl (by simp)) (.cons (.ptr (by simp)) (.v (.cons (.ptr (by simp)) (.cons (.ptr (by simp)) (.v (.v (.cons (.pd (pd_rows pdMt ms)) (.v (.v (.v (.v .nil)))))))))))))))))
     (BlH.cons (fun y hy d hd=>by
      rw[List.mem_singleton.1 hy]at hd
      simp at hd
      rcases hd with rfl | rfl<;>exact .pd (.v _)) (.cons (BlO.enc pdI) (.cons (BlO.enc pdI) (.cons (fun y hy d hd=>by
       rw[List.mem_singleton.1 hy]at hd
       simp at hd
       rcases hd with rfl | rfl | rfl
       ·exact .pd (.v _)
       ·exact .sl (by simp)
       ·exact .pd hpE) (.cons (BlO.enc pdArc) (.cons (fun y hy d hd=>by
        rw[List.mem_singleton.1 hy]at hd
        simp at hd
        rcases hd with rfl | rfl<;>exact .pd (.v _)) (.cons (fun y hy d hd=>by
        rw[List.mem_singleton.1 hy]at hd
        exact .pd (pdSpell x d hd)) .nil))))))) (Nat.zero_le _) fun e=>?_
    refine go [] pl174 (if_ (fun hjlt=>?_) (fun hjlt=>?_))
    ·simp at hjlt
     conv=>whnf
     refine ck (and_t (beq_len hIl) rfl) ?_
     refine lst_at hI2 ?_
     conv=>whnf
     refine ck (beq_len hIl) ?_
     refine lst_at (ds:=[di nx]) (by simpa using hI1) ?_
     conv=>whnf
     have hw1:IntKind.wrap .i64 ((x.to.size:Int)-1)=(x.to.size:Int)-1:=wrap_id (by omega) (by omega)
     have hw2:IntKind.wrap .i64 (nx+(j:Int))=nx+j:=wadd (by omega) (by omega)
     have hw3:IntKind.wrap .i64 ((p:Int)+(x.frm.size:Int))=((p+x.frm.size:Nat):Int):=by rw[wadd (by omega) (by omega)];rfl
     have hazl:(az++chJ l nm k ⟨p,k'⟩ j).length=n+j:=by simp[hn,chJ]
     have hnj:n+j≤100000:=by omega
     have hjs:chJ l nm k ⟨p,k'⟩ (j+1)=chJ l nm k ⟨p,k'⟩ j++[chA l nm k ⟨p,k'⟩ j]:=by unfold chJ;rw[List.range_succ,List.map_append];rfl
     refine if_ (fun h=>?_) fun h=>?_
     ·have he:j+1=x.to.size:=by rw[hw1]at h;simp at h;omega
      conv=>whnf
      refine ck (and_t (beq_len hNl) rfl) ?_
      refine lst_at (ds:=[di (nm.nums.getD (p+x.frm.size) 0)]) (by rw[hw3];exact hix (p+x.frm.size) hend) ?_
      conv=>whnf
      refine ck (beq_len hNl) ?_
      refine lst_at (ds:=[di (nm.nums.getD (p+x.frm.size) 0)]) (by rw[hw3,Nat.zero_add];exact hgd (p+x.frm.size) hend) ?_
      conv=>whnf
      refine ck (sidx hjlt) ?_
      conv=>whnf
      refine push (by simp[hn,chJ]) (by omega) ?_
      have hc:=hch j hjlt
      rw[if_pos he]at hc
      have ha1:atJ (j+1)=nm.nums.getD (p+x.frm.size) 0:=by simp only[atJ];rw[if_neg (by omega),if_pos he]
      have hE:(az++chJ l nm k ⟨p,k'⟩ (j+1)).map Arc.enc=(az++chJ l nm k ⟨p,k'⟩ j).map Arc.enc++[[di (atJ j),di (nm.nums.getD (p+x.frm.size) 0),du (byteAt x.to j),di (if j=0 then x.cost else 0)]]:=by
       rw[hjs,←List.append_assoc,List.map_append (l₂:=[_]),hc];rfl
      refine⟨hjlt,hasG (G:=[]) ⟨rfl,rfl,rfl,rfl,rfl,rfl,rfl,rfl,rfl,rfl,congrArg di ha1.symm,congrArg di (if_neg (Nat.succ_ne_zero j)).symm,rfl,rfl,rfl,rfl,inc hjlt (by simp only[maxLen];omega),trivial⟩ ?_⟩
      rw[hE]
      rfl
     ·have he:¬j+1=x.to.size:=by rw[hw1]at h;simp at h;omega
      conv=>whnf
      refine ck (sidx hjlt) ?_
      conv=>whnf
      refine push (by simp[hn,chJ]) (by omega) ?_
      have hc:=hch j hjlt
      rw[if_neg he]at hc
      have ha1:atJ (j+1)=nx+j:=by simp only[atJ];rw[if_neg (by omega),if_neg he];push_cast;omega
      have hE:(az++chJ l nm k ⟨p,k'⟩ (j+1)).map Arc.enc=(az++chJ l nm k ⟨p,k'⟩ j).map Arc.enc++[[di (atJ j),di (IntKind.wrap .i64 (nx+(j:Int))),du (byteAt x.to j),di (if j=0 then x.cost else 0)]]:=by
       rw[hjs,←List.append_assoc,List.map_append (l₂:=[_]),hc,hw2];rfl
      refine⟨hjlt,hasG (G:=[]) ⟨rfl,rfl,rfl,rfl,rfl,rfl,rfl,rfl,rfl,rfl,congrArg di (hw2.trans ha1.symm),congrArg di (if_neg (Nat.succ_ne_zero j)).symm,rfl,rfl,rfl,rfl,inc hjlt (by simp only[maxLen];omega),trivial⟩ ?_⟩
      rw[hE]
      rfl
    ·simp at hjlt
     have hjl:j=x.to.size:=by omega
     subst hjl
     conv=>whnf
     refine⟨hklt,az++chJ l nm k ⟨p,k'⟩ x.to.size,n+x.to.size,?_,by simp[hn,chJ],by omega,hasG ⟨rfl,rfl,rfl,rfl,rfl,rfl,rfl,rfl,rfl,inc hklt (by simp only[maxLen];omega),trivial⟩ rfl⟩
     rw[haz]
     unfold arcsM
     rw[List.range_succ,List.flatMap_append,List.append_assoc]
     simp[chK,hmk,hru]
   ·simp at hklt
    have hkl:k=ms.length:=by omega
    subst hkl
    conv=>whnf
    rw[←haz]at hu
    refine goC 1 [] pl174 ?_
    refine AC.mono (sortArcs_c az hu (b:=4) (n:=n) ?_ hn (by omega)) ?_
    ·rfl
    rintro d H' msx ⟨rfl,rfl,rfl⟩
    conv=>whnf
    refine goC 2 [] pl174 ?_
    conv=>whnf
    refine .agg rfl fun j d d' h1 h2=>?_
    have hpe:=FrzK.row (k0:=0) (H:=[.arr 75 3 [[di nm.next,.sl 4 0 n n,endR (nm.nums.getD s.size 0)]],.arr 3 1 (nm.nums.map ienc),.arr 3 1 (nm.inner.map ienc),.arr 75 3 [[di nm.next,.sl 4 0 n n,endR (nm.nums.getD s.size 0)]],.arr 205 4 ((isort arcLt az).map Arc.enc)]) (cl:=true) (xs:=[[di (nm.nums.getD s.size 0),di 0]]) (fun l hl d hd=>by rw[List.mem_singleton.1 hl]at hd;simp at hd;rcases hd with rfl | rfl<;>exact .v _)
    match j with
    | 0=>cases h1;cases h2;exact .pd (.v _)
    | 1=>
     cases h1;cases h2
     rw[←haz]
     exact frzK_rows (enc:=Arc.enc) (xs:=isort arcLt az) (T:=205) (sz:=4) rfl ((isort_perm az).length_eq.trans hn) ((isort_perm az).length_eq.trans hn) pdArc (fun _=>rfl) (Nat.zero_le _)
    | 2=>cases h1;cases h2;exact hpe
    | j+3=>cases h1
end Go.Proofs.YtpndfdfipkadkaaGreatDoor
