/- The law holds: part 359. Conditions: none. -/
import Derived.Test.YtpndfdfipkadkaaGreatDoorKU4
import Derived.Test.YtpndfdfipkadkaaGreatDoorKU24
import Derived.Test.YtpndfdfipkadkaaGreatDoorKU26
set_option linter.all false
set_option maxRecDepth 100000
namespace Go.Proofs.YtpndfdfipkadkaaGreatDoor
open Go Go.Wx Go.Ax
def mEnd(l:List Spell)(m:Mt):Int:=m.at_+(ruleOf l m).frm.size
def mW(l:List Spell)(m:Mt):Int:=(ruleOf l m).to.size-1
theorem inK_some{l:List Spell}{ms:List Mt}{i k:Nat}{m:Mt}(hm:ms[k]? =some m)(st:Int × List Int):inK l ms i (k+1) st=if mEnd l m=i then((inK l ms i k st).1+mW l m,(inK l ms i k st).2.set k (inK l ms i k st).1)else inK l ms i k st:=by
 conv=>lhs;unfold inK
 rw[hm]
 rfl
structure InLay(l:List Spell)(ms:List Mt)(i k:Nat)(a b:Int × List Int):Prop where
 up:a.1≤b.1
 len:b.2.length=a.2.length
 own:∀q m,ms[q]? =some m→q<k→mEnd l m=i→a.1≤b.2.getD q 0∧b.2.getD q 0+mW l m≤b.1
 old:∀q m,ms[q]? =some m→¬(q<k∧mEnd l m=i)→b.2.getD q 0=a.2.getD q 0
 two:∀q q' m m',ms[q]? =some m→ms[q']? =some m'→q<q'→q'<k→mEnd l m=i→mEnd l m'=i→b.2.getD q 0+mW l m≤b.2.getD q' 0
theorem getD_set_self{xs:List Int}{k:Nat}{x:Int}(h:k<xs.length):(xs.set k x).getD k 0=x:=by
 rw[List.getD_eq_getElem?_getD,List.getElem?_set_self h];rfl
theorem getD_set_ne{xs:List Int}{k j:Nat}{x:Int}(h:k≠j):(xs.set k x).getD j 0=xs.getD j 0:=by
 rw[List.getD_eq_getElem?_getD,List.getElem?_set_ne h,←List.getD_eq_getElem?_getD]
theorem inK_lay{l:List Spell}{ms:List Mt}{i:Nat}(hr:∀m∈ms,RuleOk (ruleOf l m))(a:Int × List Int)(hl:a.2.length=ms.length):∀k,k≤ms.length→InLay l ms i k a (inK l ms i k a)
 | 0,_=>⟨Int.le_refl _,rfl,fun _ _ _ h=>absurd h (Nat.not_lt_zero _),fun _ _ _ _=>rfl,fun _ _ _ _ _ _ _ h=>absurd h (Nat.not_lt_zero _)⟩
 | k+1,hk=>by
  have ih:=inK_lay (i:=i) hr a hl k (by omega)
  obtain⟨m,hm⟩:∃m,ms[k]? =some m:=⟨_,List.getElem?_eq_getElem (by omega)⟩
  have hw:0≤mW l m:=by have:=hr m (List.mem_of_getElem? hm);unfold RuleOk at this;unfold mW;omega
  rw[inK_some hm]
  generalize inK l ms i k a=b at ih
  have hbl:k<b.2.length:=by rw[ih.len];omega
  split
  ·rename_i he
   refine⟨by have:=ih.up;simp only;omega,by simp only[List.length_set];exact ih.len,fun q m' hq hlt hq2=>?_,fun q m' hq hn=>?_,fun q q' m' m'' hq hq' h1 h2 h3 h4=>?_⟩
   ·simp only
    by_cases hqk:q=k
    ·subst hqk
     rw[hm]at hq;cases hq
     rw[getD_set_self hbl]
     exact⟨ih.up,Int.le_refl _⟩
    ·rw[getD_set_ne (Ne.symm hqk)]
     have:=ih.own q m' hq (by omega) hq2
     omega
   ·simp only
    have hqk:q≠k:=fun e=>hn ⟨by omega,by rw[e,hm]at hq;cases hq;exact he⟩
    rw[getD_set_ne (Ne.symm hqk)]
    exact ih.old q m' hq fun hh=>hn ⟨by omega,hh.2⟩
   ·simp only
    have hqk:q≠k:=by omega
    rw[getD_set_ne (Ne.symm hqk)]
    by_cases hqk':q'=k
    ·subst hqk'
     rw[getD_set_self hbl]
     exact(ih.own q m' hq h1 h3).2
    ·rw[getD_set_ne (Ne.symm hqk')]
     exact ih.two q q' m' m'' hq hq' h1 (by omega) h3 h4
  ·rename_i he
   refine⟨ih.up,ih.len,fun q m' hq hlt hq2=>ih.own q m' hq ?_ hq2,fun q m' hq hn=>ih.old q m' hq fun hh=>hn ⟨by omega,hh.2⟩,fun q q' m' m'' hq hq' h1 h2 h3 h4=>ih.two q q' m' m'' hq hq' h1 ?_ h3 h4⟩
   ·have:q≠k:=fun e=>he (by rw[e,hm]at hq;cases hq;exact hq2)
    omega
   ·have:q'≠k:=fun e=>he (by rw[e,hm]at hq';cases hq';exact h4)
    omega
structure NLay(l:List Spell)(ms:List Mt)(i:Nat)(N:Num):Prop where
 len:N.nums.length=i
 ilen:N.inner.length=ms.length
 n0:0≤N.next
 num:∀j,j<i→0≤N.nums.getD j 0∧N.nums.getD j 0<N.next
 nn:∀j j',j<j'→j'<i→N.nums.getD j 0<N.nums.getD j' 0
 inn:∀q m e,ms[q]? =some m→mEnd l m=(e:Nat)→e<i→0≤N.inner.getD q 0∧N.inner.getD q 0+mW l m≤N.nums.getD e 0∧∀e',e=e'+1→N.nums.getD e' 0<N.inner.getD q 0
 two:∀q q' m m' e,ms[q]? =some m→ms[q']? =some m'→q<q'→mEnd l m=(e:Nat)→mEnd l m'=(e:Nat)→e<i→N.inner.getD q 0+mW l m≤N.inner.getD q' 0
theorem getD_app_lt{xs ys:List Int}{j:Nat}(h:j<xs.length):(xs++ys).getD j 0=xs.getD j 0:=by
 rw[List.getD_eq_getElem?_getD,List.getElem?_append_left h,←List.getD_eq_getElem?_getD]
theorem getD_app_eq{xs:List Int}{x:Int}{j:Nat}(h:xs.length=j):(xs++[x]).getD j 0=x:=by
 rw[List.getD_eq_getElem?_getD,List.getElem?_append_right (by omega),h,Nat.sub_self];rfl
theorem numU_lay{l:List Spell}{ms:List Mt}(hr:∀m∈ms,RuleOk (ruleOf l m)):∀i,NLay l ms i (numU l ms i)
 | 0=>⟨rfl,by simp[numU],Int.le_refl _,fun _ h=>absurd h (Nat.not_lt_zero _),fun _ _ _ h=>absurd h (Nat.not_lt_zero _),fun _ _ _ _ _ h=>absurd h (Nat.not_lt_zero _),fun _ _ _ _ _ _ _ _ _ _ h=>absurd h (Nat.not_lt_zero _)⟩
 | i+1=>by
  have ih:=numU_lay hr i
  have hk:=inK_lay (i:=i) hr ((numU l ms i).next,(numU l ms i).inner) ih.ilen ms.length (Nat.le_refl _)
  unfold numU
  generalize inK l ms i ms.length ((numU l ms i).next,(numU l ms i).inner)=b at hk
  generalize numU l ms i=N at ih hk
  have hup:=hk.up
  simp only at hup
  have hn0:=ih.n0
  have hlt:∀{q:Nat} {m:Mt},ms[q]? =some m→q<ms.length:=fun h=>(List.getElem?_eq_some_iff.1 h).1
  have hw:∀{q:Nat} {m:Mt},ms[q]? =some m→0≤mW l m:=fun{q m} hm=>by have:=hr m (List.mem_of_getElem? hm);unfold RuleOk at this;unfold mW;omega
  refine⟨by simp[ih.len],by simp only;rw[hk.len];exact ih.ilen,by simp only;omega,fun j hj=>?_,fun j j' h1 h2=>?_,fun q m e hq he hei=>?_,fun q q' m m' e hq hq' h1 he he' hei=>?_⟩
  ·simp only
   by_cases hji:j=i
   ·subst hji;rw[getD_app_eq ih.len];omega
   ·rw[getD_app_lt (by rw[ih.len];omega)]
    have:=ih.num j (by omega)
    omega
  ·simp only
   rw[getD_app_lt (by rw[ih.len];omega)]
   by_cases hji:j'=i
   ·subst hji;rw[getD_app_eq ih.len]
    have:=ih.num j (by omega)
    omega
   ·rw[getD_app_lt (by rw[ih.len];omega)]
    exact ih.nn j j' h1 (by omega)
  ·simp only
   by_cases hee:e=i
   ·subst hee
    have h1:=hk.own q m hq (hlt hq) he
    simp only at h1
    rw[getD_app_eq ih.len]
    refine⟨by omega,h1.2,fun e' h=>?_⟩
    rw[getD_app_lt (by rw[ih.len];omega)]
    have:=ih.num e' (by omega)
    omega
   ·have h1:=hk.old q m hq (fun hh=>hee (by have:=hh.2;omega))
    simp only at h1
    have h2:=ih.inn q m e hq he (by omega)
    rw[h1,getD_app_lt (by rw[ih.len];omega)]
    refine⟨h2.1,h2.2.1,fun e' h=>?_⟩
    rw[getD_app_lt (by rw[ih.len];omega)]
    exact h2.2.2 e' h
  ·simp only
   by_cases hee:e=i
   ·subst hee
    exact hk.two q q' m m' hq hq' h1 (hlt hq') he he'
   ·have g1:=hk.old q m hq (fun hh=>hee (by have:=hh.2;omega))
    have g2:=hk.old q' m' hq' (fun hh=>hee (by have:=hh.2;omega))
    simp only at g1 g2
    rw[g1,g2]
    exact ih.two q q' m m' e hq hq' h1 he he' (by omega)
structure RulesOk(l:List Spell):Prop where
 len:l.length≤24
 ok:∀x∈l,RuleOk x
 ltr:∀x∈l,letS x.frm=true∧letS x.to=true
 ne:∀x∈l,x.frm≠x.to
 one:∀(k k':Nat) (x x':Spell),l[k]? =some x→l[k']? =some x'→x.frm=x'.frm→x.to=x'.to→k=k'
theorem firstN_zero{f:Nat→Int}{n:Nat}(h:firstN f n=0):∀j,j<n→f j=0:=fun j hj=>by
 apply Classical.byContradiction
 intro hne
 unfold firstN at h
 cases hf:((List.range n).map f).find? (· !=0)with
 | none=>
  have:=List.find?_eq_none.1 hf (f j) (List.mem_map.2 ⟨j,List.mem_range.2 hj,rfl⟩)
  simp at this
  exact hne this
 | some r=>
  rw[hf]at h
  have:=List.find?_some hf
  simp only[Option.getD_some]at h
  rw[h]at this
  simp at this
theorem sideB_ok{s:ByteArray}(h:sideB s=true):1≤s.size∧s.size≤3∧letS s=true:=by
 unfold sideB at h
 simp only[Bool.and_eq_true,decide_eq_true_eq]at h
 exact⟨by omega,by omega,h.2.2⟩
theorem rulesOk_of{l:List Spell}(h:chkS l=0):RulesOk l:=by
 have hlen:=chkS_len h
 unfold chkS at h
 rw[if_neg (by omega)]at h
 have hz:=firstN_zero h
 have hat:∀(k:Nat) (x:Spell),l[k]? =some x→sideB x.frm=true∧sideB x.to=true∧x.frm≠x.to∧0≤x.cost∧x.cost≤1000∧∀(j:Nat) y,j<k→l[j]? =some y→¬(y.frm=x.frm∧y.to=x.to):=fun k x hx=>by
  have hk:=(List.getElem?_eq_some_iff.1 hx).1
  have:=hz k hk
  unfold chkAt at this
  rw[hx]at this
  simp only at this
  split at this
  ·cases this
  rename_i h1
  split at this
  ·cases this
  rename_i h2
  split at this
  ·cases this
  rename_i h3
  simp only[Bool.or_eq_true,Bool.not_eq_true',not_or,Bool.not_eq_false]at h1
  simp only[Bool.or_eq_true,decide_eq_true_eq,not_or]at h2
  refine⟨h1.1,h1.2,fun e=>h2.1 (strEq_iff'.2 e),by omega,by omega,fun j y hj hy he=>h3 (List.any_eq_true.2 ⟨y,?_,?_⟩)⟩
  ·exact List.mem_of_getElem? (by rw[List.getElem?_take_of_lt hj];exact hy)
  ·unfold sameS
   rw[strEq_iff'.2 he.1,strEq_iff'.2 he.2];rfl
 have hmem:∀x∈l,∃k:Nat,l[k]? =some x:=fun x hx=>List.mem_iff_getElem?.1 hx
 refine⟨hlen,fun x hx=>?_,fun x hx=>?_,fun x hx=>?_,fun k k' x x' hx hx' h1 h2=>?_⟩
 ·obtain⟨k,hk⟩:=hmem x hx
  obtain⟨a,b,_,c,d,_⟩:=hat k x hk
  exact⟨(sideB_ok a).1,(sideB_ok a).2.1,(sideB_ok b).1,(sideB_ok b).2.1,c,d⟩
 ·obtain⟨k,hk⟩:=hmem x hx
  obtain⟨a,b,_⟩:=hat k x hk
  exact⟨(sideB_ok a).2.2,(sideB_ok b).2.2⟩
 ·obtain⟨k,hk⟩:=hmem x hx
  exact(hat k x hk).2.2.1
 ·rcases Nat.lt_trichotomy k k' with h | h | h
  ·exact absurd ⟨h1,h2⟩ ((hat k' x' hx').2.2.2.2.2 k x h hx)
  ·exact h
  ·exact absurd ⟨h1.symm,h2.symm⟩ ((hat k x hx).2.2.2.2.2 k' x' h hx')
structure NmOk(l:List Spell)(s:ByteArray)(ms:List Mt)(N:Num):Prop where
 lay:NLay l ms (s.size+1) N
 mt:∀(q:Nat) (m:Mt),ms[q]? =some m→∃(p k:Nat) (x:Spell),m=⟨p,k⟩∧l[k]? =some x∧ruleOf l m=x∧p+x.frm.size≤s.size∧occB s p x.frm=true
theorem nmOk{l:List Spell}(hr:∀x∈l,RuleOk x)(s:ByteArray):NmOk l s (mtL s l) (numU l (mtL s l) (s.size+1)):=by
 have hm:∀m∈mtL s l,∃(p k:Nat) (x:Spell),m=⟨p,k⟩∧l[k]? =some x∧ruleOf l m=x∧p+x.frm.size≤s.size∧occB s p x.frm=true:=fun m hm=>by
  obtain⟨p,k,x,rfl,h1,h2,h3⟩:=(mtL_ok m hm).ex
  exact⟨p,k,x,rfl,h2,by simp[ruleOf,h2],occ_le h1 h3,h3⟩
 refine⟨numU_lay (fun m h=>?_) _,fun q m h=>hm m (List.mem_of_getElem? h)⟩
 obtain⟨p,k,x,_,h2,h3,_⟩:=hm m h
 rw[h3];exact hr x (List.mem_of_getElem? h2)
section
variable {l : List Spell} {s : ByteArray} {ms : List Mt} {N : Num}
abbrev nmv(N:Num)(j:Nat):Int:=N.nums.getD j 0
abbrev inv(N:Num)(q:Nat):Int:=N.inner.getD q 0
theorem NmOk.mono(h:NmOk l s ms N){j j':Nat}(hj:j≤j')(hs:j'≤s.size):nmv N j≤nmv N j':=by
 rcases Nat.lt_or_eq_of_le hj with h1 | h1
 ·exact Int.le_of_lt (h.lay.nn j j' h1 (by omega))
 ·subst h1;exact Int.le_refl _
theorem NmOk.inj(h:NmOk l s ms N){j j':Nat}(hj:j≤s.size)(hs:j'≤s.size)(he:nmv N j=nmv N j'):j=j':=by
 rcases Nat.lt_trichotomy j j' with h1 | h1 | h1
 ·have:=h.lay.nn j j' h1 (by omega);simp only[nmv]at he;omega
 ·exact h1
 ·have:=h.lay.nn j' j h1 (by omega);simp only[nmv]at he;omega
theorem NmOk.btw(h:NmOk l s ms N)(hr:∀x∈l,RuleOk x){q:Nat}{m:Mt}(hq:ms[q]? =some m){o:Int}(h0:0≤o)(ho:o<mW l m):∃e,e+1≤s.size∧mEnd l m=((e+1:Nat):Int)∧nmv N e<inv N q+o∧inv N q+o<nmv N (e+1):=by
 obtain⟨p,k,x,rfl,hx,hru,hle,_⟩:=h.mt q m hq
 have hf:=hr x (List.mem_of_getElem? hx)
 unfold RuleOk at hf
 have hE:mEnd l ⟨p,k⟩=((p+x.frm.size-1+1:Nat):Int):=by unfold mEnd;rw[hru];simp only;omega
 obtain⟨_,h2,h3⟩:=h.lay.inn q _ _ hq hE (by omega)
 refine⟨p+x.frm.size-1,by omega,hE,?_,by simp only[nmv,inv];omega⟩
 have:=h3 _ rfl
 simp only[nmv,inv];omega
theorem NmOk.ne(h:NmOk l s ms N)(hr:∀x∈l,RuleOk x){q:Nat}{m:Mt}(hq:ms[q]? =some m){o:Int}(h0:0≤o)(ho:o<mW l m){j:Nat}(hj:j≤s.size):inv N q+o≠nmv N j:=by
 obtain⟨e,h1,_,h2,h3⟩:=h.btw hr hq h0 ho
 rcases Nat.lt_or_ge e j with hh | hh
 ·have:=h.mono (j:=e+1) (j':=j) (by omega) hj;omega
 ·have:=h.mono (j:=j) (j':=e) hh (by omega);omega
theorem NmOk.same(h:NmOk l s ms N)(hr:∀x∈l,RuleOk x){q q':Nat}{m m':Mt}(hq:ms[q]? =some m)(hq':ms[q']? =some m'){o o':Int}(h0:0≤o)(ho:o<mW l m)(h0':0≤o')(ho':o'<mW l m')(he:inv N q+o=inv N q'+o'):q=q'∧o=o':=by
 obtain⟨e,h1,h2,h3,h4⟩:=h.btw hr hq h0 ho
 obtain⟨e',h1',h2',h3',h4'⟩:=h.btw hr hq' h0' ho'
 have hee:e=e':=by
  rcases Nat.lt_trichotomy e e' with hh | hh | hh
  ·have:=h.mono (j:=e+1) (j':=e') (by omega) (by omega);omega
  ·exact hh
  ·have:=h.mono (j:=e'+1) (j':=e) (by omega) (by omega);omega
 subst hee
 rcases Nat.lt_trichotomy q q' with hh | hh | hh
 ·have:=h.lay.two q q' m m' (e+1) hq hq' hh h2 h2' (by omega)
  simp only[inv]at he;omega
 ·subst hh;exact⟨rfl,by omega⟩
 ·have:=h.lay.two q' q m' m (e+1) hq' hq hh h2' h2 (by omega)
  simp only[inv]at he;omega
end
end Go.Proofs.YtpndfdfipkadkaaGreatDoor
set_option maxRecDepth 100000
namespace Go.Proofs.YtpndfdfipkadkaaGreatDoor
open Go Go.Wx Go.Ax
def meetsB(a b:Auto):Bool:=chkA a==0&&(chkA b==0&&(meetA a b 0 0).isSome)
theorem meetD_ex(a b:Auto):∃w e,meetD a b= .tup [.agg (rdE w),db (meetsB a b),di e]:=by
 unfold meetD meetsB
 split
 ·rename_i h;exact⟨_,_,by rw[beq_eq_false_iff_ne.2 h];rfl⟩
 rename_i h
 split
 ·rename_i h2;exact⟨_,_,by rw[beq_eq_false_iff_ne.2 h2,Bool.false_and,Bool.and_false]⟩
 rename_i h2
 rw[beq_iff_eq.2 (Classical.not_not.1 h),beq_iff_eq.2 (Classical.not_not.1 h2)]
 split
 ·rename_i h3;exact⟨_,_,by rw[h3];rfl⟩
 ·rename_i h3;exact⟨_,_,by rw[h3];rfl⟩
structure NameOk(l:List Spell)(s:ByteArray):Prop where
 sz:s.size≤100
 un:Uniq (arcsN s l)
def touchB(l:List Spell)(xs ys:List ByteArray):Bool:=xs.any fun x=>ys.any fun y=>meetsB (rawA x l) (rawA y l)
noncomputable def c114:Code:=Tryz.f114.body.getD .skip
def pt114_9:Tre:=(.l 0 (.p 1 (.p 2 (.fork (.e 3 (.fork (.e 4 (.p 5 (.p 6 (.p 7 (.p 8 (.e 9 (.e 10 (.p 11 (.p 12 .done))))))))) (.e 9 (.e 4 (.p 5 (.p 6 (.p 7 (.p 8 (.e 10 (.p 11 (.p 12 .done))))))))))) (.e 9 (.e 3 (.e 4 (.p 5 (.p 6 (.p 7 (.p 8 (.e 10 (.p 11 (.p 12 .done))))))))))))))
set_option maxHeartbeats 4000000 in
theorem apart_c(l:List Spell)(xs ys:List ByteArray)(hl:l.length≤100)(hr:∀x∈l,RuleOk x)(hx:∀s∈xs,NameOk l s)(hy:∀s∈ys,NameOk l s):Pur Pg 114 [rows senc xs,rows senc ys,rows Spell.enc l] (db (!touchB l xs ys)):=by
 refine Pur_len 0 rfl fun hn=>Pur_len 1 rfl fun hm=>?_
 rw[List.length_map]at hn hm
 refine Pur_of (PdL.cons (pd_rows pdS xs) (.cons (pd_rows pdS ys) (.one (pd_rows pdSpell l)))) (AC_fn Tryz.func114 rfl rfl rfl [] (fun _=>true) (fun b h=>nomatch h) (AW_rest (c':=restC 0 c114) ?_))
 refine goC 1 [] [] ?_
 refine AW_scope ?_
 refine goC 1 [] [] ?_
 refine AW_seq (AW_label ?_)
 refine goC 2 [] [] ?_
 refine AW_idx xs.length (fun i st=>(∀x∈xs.take i,(ys.any fun y=>meetsB (rawA x l) (rawA y l))=false)∧HasG [(0,rows senc xs),(1,rows senc ys),(2,rows Spell.enc l),(6,db false),(7,db true),(16,rows senc xs),(17,di xs.length),(18,di i)] [] st) ⟨by simp,hasG (G:=[]) ⟨rfl,rfl,rfl,rfl,rfl,rfl,by simp[rows,dlen];rfl,rfl,trivial⟩ rfl⟩ ?_
 rintro i _ hi ⟨h,e,G,rfl⟩
 refine AW_drop (BlL.cons (.pd (pd_rows pdS xs)) (.cons (.pd (pd_rows pdS ys)) (.cons (.pd (pd_rows pdSpell l)) (.v (.v (.cons (.pd (pd_rows pdS xs)) (.v (.v .nil)))))))) BlH.nil (Nat.zero_le _) fun e=>?_
 refine go [] [] (if_ (fun hlt=>?_) (fun hlt=>?_))
 ·simp at hlt
  refine row_at hlt ?_
  have hxi:=hx _ (List.getElem_mem hlt)
  have hti:=fun hf=>take_succ (p:=fun x=>(ys.any fun y=>meetsB (rawA x l) (rawA y l))=false) hlt h hf
  have hmem:=List.getElem_mem hlt
  generalize xs[i]=x at hxi hti hmem
  refine(raw_c x l hxi.sz hl hr hxi.un).call ?_
  refine AW_idx ys.length (fun j st=>(∀y∈ys.take j,meetsB (rawA x l) (rawA y l)=false)∧HasG [(0,rows senc xs),(1,rows senc ys),(2,rows Spell.enc l),(6,db false),(7,db true),(10,.ptr 0 0 0 1),(16,rows senc xs),(17,di xs.length),(18,di i),(25,rows senc ys),(26,di ys.length),(27,di j)] [.arr 75 3 [(rawA x l).enc]] st) ⟨by simp,hasG (G:=[]) ⟨rfl,rfl,rfl,rfl,rfl,rfl,rfl,rfl,rfl,rfl,by simp[rows,dlen];rfl,rfl,trivial⟩ rfl⟩ ?_
  rintro j _ hj ⟨h2,e2,G2,rfl⟩
  refine AW_drop (BlL.cons (.pd (pd_rows pdS xs)) (.cons (.pd (pd_rows pdS ys)) (.cons (.pd (pd_rows pdSpell l)) (.v (.v (.cons (.ptr (by simp)) (.cons (.pd (pd_rows pdS xs)) (.v (.v (.cons (.pd (pd_rows pdS ys)) (.v (.v .nil)))))))))))) (BlH.cons (fun y hy d hd=>by
   rw[List.mem_singleton.1 hy]at hd
   exact .pd (pdAuto _ d hd)) .nil) (Nat.zero_le _) fun e2=>?_
  refine go [] [] (if_ (fun hjt=>?_) (fun hjt=>?_))
  ·simp at hjt
   refine row_at hjt ?_
   have hyi:=hy _ (List.getElem_mem hjt)
   have htj:=fun hf=>take_succ (p:=fun y=>meetsB (rawA x l) (rawA y l)=false) hjt h2 hf
   have hmy:=List.getElem_mem hjt
   generalize ys[j]=y at hyi htj hmy
   have hR:=raw_c y l hyi.sz hl hr hyi.un
   obtain⟨w,ee,hD⟩:=meetD_ex (rawA x l) (rawA y l)
   have hM:=meet_c (rawA x l) (rawA y l)
   rw[hD]at hM
   obtain⟨mt,hmt⟩:∃mt,mt=meetsB (rawA x l) (rawA y l):=⟨_,rfl⟩
   rw[←hmt]at hM htj
   conv=>whnf
   refine AW_fork [] pt114_9 ?_
   repeat' (first | refine ck (by kernel_rfl) ?_ | ((conv=>whnf);(first | refine And.intro ?_ ?_ | refine hR.call ?_ | refine hM.call ?_)))
   all_goals
    refine if_ (fun hq=>?_) fun hq=>?_
    ·have ht:touchB l xs ys=true:=List.any_eq_true.2 ⟨x,hmem,List.any_eq_true.2 ⟨y,hmy,hmt.symm.trans (by simpa using hq)⟩⟩
     rw[ht]
     conv=>whnf
     exact AW_ret (frzb rfl)
    ·refine⟨hjt,htj (by simpa using hq),hasG (G:=[.arr 161 2 [rdE w]]) ⟨rfl,rfl,rfl,rfl,rfl,rfl,rfl,rfl,rfl,rfl,rfl,inc hjt hm,trivial⟩ rfl⟩
  ·simp at hjt
   rw[List.take_of_length_le hjt]at h2
   exact⟨hlt,hti (List.any_eq_false.2 fun y hy=>by rw[h2 y hy];simp),hasG (G:=[.arr 75 3 [(rawA x l).enc]]) ⟨rfl,rfl,rfl,rfl,rfl,rfl,rfl,inc hlt hn,trivial⟩ rfl⟩
 ·simp at hlt
  rw[List.take_of_length_le hlt]at h
  have ht:touchB l xs ys=false:=List.any_eq_false.2 fun x hx=>by rw[h x hx];simp
  rw[ht]
  conv=>whnf
  exact AW_ret (frzb rfl)
end Go.Proofs.YtpndfdfipkadkaaGreatDoor
set_option maxRecDepth 100000
namespace Go.Proofs.YtpndfdfipkadkaaGreatDoor
open Go Go.Wx Go.Ax
theorem ba_ext{x y:ByteArray}(hs:x.size=y.size)(h:∀i,i<x.size→byteAt x i=byteAt y i):x=y:=by
 have hd:x.data=y.data:=by
  refine Array.ext hs fun i h1 h2=>?_
  have:=h i h1
  rw[←byteAt_eq h1,←byteAt_eq h2]at this
  exact UInt8.toNat_inj.1 this
 cases x;cases y;simp only at hd;rw[hd]
theorem occ_at{s f:ByteArray}{p:Nat}(h:occB s p f=true){i:Nat}(hi:i<f.size):byteAt f i=byteAt s (p+i):=by
 unfold occB Lib.hasPrefix at h
 obtain⟨t,ht⟩:=List.isPrefixOf_iff_prefix.1 h
 have hl:i<f.data.toList.length:=by simpa using hi
 have h1:(f.data.toList++t)[i]? =f.data.toList[i]? :=List.getElem?_append_left hl
 have h2:(s.extract p s.size).data.toList=s.data.toList.drop p:=by
  rw[ByteArray.data_extract,Array.toList_extract,List.extract_eq_take_drop]
  refine List.take_of_length_le ?_
  simp
 rw[ht,h2,List.getElem?_drop]at h1
 unfold byteAt
 rw[List.getD_eq_getElem?_getD,List.getD_eq_getElem?_getD,h1]
theorem occ_eq{s f f':ByteArray}{p:Nat}(h:occB s p f=true)(h':occB s p f'=true)(hs:f.size=f'.size):f=f':=
 ba_ext hs fun i hi=>(occ_at h hi).trans (occ_at h' (hs▸hi)).symm
section
variable {l : List Spell} {s : ByteArray} {ms : List Mt} {N : Num}
theorem arcs_mem{x:Arc}(hx:x∈arcsM s l ms N ms.length):(∃j,j<s.size∧x=⟨nmv N j,nmv N (j+1),byteAt s j,0⟩)∨∃q m i,ms[q]? =some m∧i<(ruleOf l m).to.size∧x=chA l N q m i:=by
 unfold arcsM at hx
 rcases List.mem_append.1 hx with hx | hx
 ·unfold letA at hx
  obtain⟨j,hj,rfl⟩:=List.mem_map.1 hx
  exact .inl ⟨j,List.mem_range.1 hj,rfl⟩
 ·obtain⟨q,hq,hx⟩:=List.mem_flatMap.1 hx
  have hq:=List.mem_range.1 hq
  unfold chK at hx
  rw[List.getElem?_eq_getElem hq]at hx
  simp only at hx
  unfold chJ at hx
  obtain⟨i,hi,rfl⟩:=List.mem_map.1 hx
  exact .inr ⟨q,ms[q],i,List.getElem?_eq_getElem hq,List.mem_range.1 hi,rfl⟩
theorem chA_eq{q p k i:Nat}{x:Spell}(hru:ruleOf l ⟨p,k⟩=x):chA l N q ⟨p,k⟩ i=⟨if i=0 then nmv N p else inv N q+(i-1),if i+1=x.to.size then nmv N (p+x.frm.size)else inv N q+i,byteAt x.to i,if i=0 then x.cost else 0⟩:=by
 unfold chA
 rw[hru]
 simp only[Int.toNat_natCast]
theorem arcLt_key{x y:Arc}(h1:arcLt x y=false)(h2:arcLt y x=false):x.frm=y.frm∧x.to=y.to∧x.letter=y.letter:=by
 unfold arcLt at h1 h2
 by_cases a:x.frm=y.frm
 ·by_cases b:x.to=y.to
  ·simp[a,b]at h1 h2
   exact⟨a,b,by omega⟩
  ·have b':¬y.to=x.to:=fun e=>b e.symm
   simp[a,b,b']at h1 h2;omega
 ·have a':¬y.frm=x.frm:=fun e=>a e.symm
  simp[a,a']at h1 h2;omega
theorem uniq_arcs (h : NmOk l s ms N) (hr : RulesOk l) : Uniq (arcsM s l ms N ms.length) := by
  have hrr := hr.ok
  have key : ∀ {j q p k i : Nat} {x : Spell}, j < s.size → ms[q]? = some ⟨p, k⟩ → l[k]? = some x → ruleOf l ⟨p, k⟩ = x → p + x.frm.size ≤ s.size → occB s p x.frm = true → i < x.to.size →
      (if i = 0 then nmv N p else inv N q + (i - 1)) = nmv N j → (if i + 1 = x.to.size then nmv N (p + x.frm.size) else inv N q + i) = nmv N (j + 1) → (byteAt x.to i : Int) = byteAt s j → False := by
    intro j q p k i x hj hq hx hru hle ho hi e1 e2 e3
    have hf := hrr x (List.mem_of_getElem? hx)
    unfold RuleOk at hf
    have hw : mW l ⟨p, k⟩ = x.to.size - 1 := by unfold mW; rw [hru]
    by_cases h0 : i = 0
    · subst h0
      rw [if_pos rfl] at e1
      have hpj := h.inj (by omega) (by omega) e1
      subst hpj
      by_cases h1 : 0 + 1 = x.to.size
      · rw [if_pos h1] at e2
        have := h.inj hle (by omega) e2
        refine hr.ne x (List.mem_of_getElem? hx) (ba_ext (by omega) fun i hi => ?_)
        have hi0 : i = 0 := by omega
        subst hi0
        rw [occ_at ho (by omega), Nat.add_zero]
        omega
      · rw [if_neg h1] at e2
        exact h.ne hrr hq (o := ((0 : Nat) : Int)) (by omega) (by omega) (by omega) e2
    · rw [if_neg h0] at e1
      exact h.ne hrr hq (o := (i : Int) - 1) (by omega) (by omega) (by omega) e1
  intro a ha b hb h1 h2
  obtain ⟨k1, k2, k3⟩ := arcLt_key h1 h2
  clear h1 h2
  rcases arcs_mem ha with ⟨j, hj, rfl⟩ | ⟨q, m, i, hq, hi, rfl⟩ <;> rcases arcs_mem hb with ⟨j', hj', rfl⟩ | ⟨q', m', i', hq', hi', rfl⟩
  · have := h.inj (by omega) (by omega) k1
    subst this; rfl
  · obtain ⟨p', k', x', rfl, hx', hru', hle', ho'⟩ := h.mt q' m' hq'
    rw [chA_eq hru'] at k1 k2 k3
    rw [hru'] at hi'
    exact (key hj hq' hx' hru' hle' ho' hi' k1.symm k2.symm k3.symm).elim
  · obtain ⟨p, k, x, rfl, hx, hru, hle, ho⟩ := h.mt q m hq
    rw [chA_eq hru] at k1 k2 k3
    rw [hru] at hi
    exact (key hj' hq hx hru hle ho hi k1 k2 k3).elim
  · obtain ⟨p, k, x, rfl, hx, hru, hle, ho⟩ := h.mt q m hq
    obtain ⟨p', k', x', rfl, hx', hru', hle', ho'⟩ := h.mt q' m' hq'
    rw [chA_eq hru, chA_eq hru'] at k1 k2 k3
    rw [hru] at hi
    rw [hru'] at hi'
    simp only at k1 k2 k3
    have hf := hrr x (List.mem_of_getElem? hx)
    have hf' := hrr x' (List.mem_of_getElem? hx')
    unfold RuleOk at hf hf'
    have hw : mW l ⟨p, k⟩ = x.to.size - 1 := by unfold mW; rw [hru]
    have hw' : mW l ⟨p', k'⟩ = x'.to.size - 1 := by unfold mW; rw [hru']
    have fin : ∀ o o' : Int, 0 ≤ o → o < mW l ⟨p, k⟩ → 0 ≤ o' → o' < mW l ⟨p', k'⟩ → inv N q + o = inv N q' + o' → (o = o' → i = i') → chA l N q ⟨p, k⟩ i = chA l N q' ⟨p', k'⟩ i' := by
      intro o o' a1 a2 a3 a4 a5 a6
      obtain ⟨b1, b2⟩ := h.same hrr hq hq' a1 a2 a3 a4 a5
      subst b1
      have b3 := a6 b2
      subst b3
      have : (⟨p, k⟩ : Mt) = ⟨p', k'⟩ := by rw [hq] at hq'; exact Option.some.inj hq'
      rw [this]
    by_cases h0 : i = 0 <;> by_cases h0' : i' = 0
    · subst h0; subst h0'
      rw [if_pos rfl, if_pos rfl] at k1
      have hpp := h.inj (by omega) (by omega) k1
      subst hpp
      by_cases g : 0 + 1 = x.to.size <;> by_cases g' : 0 + 1 = x'.to.size
      · rw [if_pos g, if_pos g'] at k2
        have hee := h.inj hle hle' k2
        have hff : x.frm = x'.frm := occ_eq ho ho' (by omega)
        have htt : x.to = x'.to := ba_ext (by omega) fun i hi => by
          have hi0 : i = 0 := by omega
          subst hi0; omega
        have hkk := hr.one k k' x x' hx hx' hff htt
        subst hkk
        rw [hx] at hx'; cases hx'
        rw [chA_eq hru, chA_eq hru, if_pos g, if_pos g]
        rfl
      · rw [if_pos g, if_neg g'] at k2
        exact (h.ne hrr hq' (o := ((0 : Nat) : Int)) (by omega) (by omega) hle k2.symm).elim
      · rw [if_neg g, if_pos g'] at k2
        exact (h.ne hrr hq (o := ((0 : Nat) : Int)) (by omega) (by omega) hle' k2).elim
      · rw [if_neg g, if_neg g'] at k2
        exact fin ((0 : Nat) : Int) ((0 : Nat) : Int) (by omega) (by omega) (by omega) (by omega) k2 fun _ => rfl
    · rw [if_pos h0, if_neg h0'] at k1
      exact (h.ne hrr hq' (o := (i' : Int) - 1) (by omega) (by omega) (by omega) k1.symm).elim
    · rw [if_neg h0, if_pos h0'] at k1
      exact (h.ne hrr hq (o := (i : Int) - 1) (by omega) (by omega) (by omega) k1).elim
    · rw [if_neg h0, if_neg h0'] at k1
      exact fin ((i : Int) - 1) ((i' : Int) - 1) (by omega) (by omega) (by omega) (by omega) k1 fun h => by omega
end
theorem nameOk_of{l:List Spell}(hr:RulesOk l){s:ByteArray}(hs:s.size≤100):NameOk l s:=⟨hs,uniq_arcs (nmOk hr.ok s) hr⟩
end Go.Proofs.YtpndfdfipkadkaaGreatDoor
