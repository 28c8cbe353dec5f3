/- The law holds: part 252. Conditions: none. -/
import Derived.Test.YtpndfdfipkadkaaGreatDoorKS14
import Derived.Test.YtpndfdfipkadkaaGreatDoorKS28
set_option linter.all false
set_option maxRecDepth 100000
namespace Go.Proofs.YtpndfdfipkadkaaGreatDoor
open Go Go.Wx Go.Ax
structure NmI(l:List Spell)(s:ByteArray)(ms:List Mt)(N:Num):Prop where
 mt:∀(q:Nat) (m:Mt),ms[q]? =some m→∃(p k:Nat) (x:Spell),m=⟨p,k⟩∧l[k]? =some x∧ruleOf l m=x∧p+x.frm.size≤s.size∧occB s p x.frm=true
 one:∀(q q':Nat) (m:Mt),ms[q]? =some m→ms[q']? =some m→q=q'
 n0:nmv N 0=0
 up:∀j j',j<j'→j'≤s.size→nmv N j<nmv N j'
 btw:∀(q p k:Nat) (x:Spell),ms[q]? =some ⟨p,k⟩→l[k]? =some x→∀o:Int,0≤o→o+1<x.to.size→nmv N p<inv N q+o∧inv N q+o<nmv N (p+x.frm.size)
 ne:∀(q:Nat) (m:Mt),ms[q]? =some m→∀o:Int,0≤o→o<mW l m→∀j,j≤s.size→inv N q+o≠nmv N j
 same:∀(q q':Nat) (m m':Mt),ms[q]? =some m→ms[q']? =some m'→∀o o':Int,0≤o→o<mW l m→0≤o'→o'<mW l m'→inv N q+o=inv N q'+o'→q=q'∧o=o'
section
variable {l : List Spell} {s : ByteArray} {ms : List Mt} {N N' : Num}
theorem NmI.inj(h:NmI l s ms N){j j':Nat}(hj:j≤s.size)(hs:j'≤s.size)(he:nmv N j=nmv N j'):j=j':=by
 rcases Nat.lt_trichotomy j j' with h1 | h1 | h1
 ·have:=h.up j j' h1 hs;omega
 ·exact h1
 ·have:=h.up j' j h1 hj;omega
theorem NmI.mono(h:NmI l s ms N){j j':Nat}(hj:j≤j')(hs:j'≤s.size):nmv N j≤nmv N j':=by
 rcases Nat.lt_or_eq_of_le hj with h1 | h1
 ·exact Int.le_of_lt (h.up j j' h1 hs)
 ·subst h1;exact Int.le_refl _
theorem NmI.key1 (h : NmI l s ms N) (hr : RulesOk l) {j q p k i : Nat} {x : Spell} (hj : j < s.size) (hq : ms[q]? = some ⟨p, k⟩) (hx : l[k]? = some x) (hru : ruleOf l ⟨p, k⟩ = x) (hle : p + x.frm.size ≤ s.size) (ho : occB s p x.frm = true) (hi : i < x.to.size)
    (e1 : (if i = 0 then nmv N p else inv N q + (i - 1)) = nmv N j) (e2 : (if i + 1 = x.to.size then nmv N (p + x.frm.size) else inv N q + i) = nmv N (j + 1)) (e3 : (byteAt x.to i : Int) = byteAt s j) : False := by
  have hf := hr.ok x (List.mem_of_getElem? hx)
  unfold RuleOk at hf
  have hw : mW l ⟨p, k⟩ = x.to.size - 1 := by unfold mW; rw [hru]
  by_cases h0 : i = 0
  · subst h0
    rw [if_pos rfl] at e1
    have hpj := h.inj (by omega) (by omega) e1
    subst hpj
    by_cases h1 : 0 + 1 = x.to.size
    · rw [if_pos h1] at e2
      have := h.inj hle (by omega) e2
      refine hr.ne x (List.mem_of_getElem? hx) (ba_ext (by omega) fun i hi => ?_)
      have hi0 : i = 0 := by omega
      subst hi0
      rw [occ_at ho (by omega), Nat.add_zero]
      omega
    · rw [if_neg h1] at e2
      exact h.ne q _ hq ((0 : Nat) : Int) (by omega) (by omega) _ (by omega) e2
  · rw [if_neg h0] at e1
    exact h.ne q _ hq ((i : Int) - 1) (by omega) (by omega) _ (by omega) e1
theorem NmI.key2 (h : NmI l s ms N) (hr : RulesOk l) {q p k i q' p' k' i' : Nat} {x x' : Spell} (hq : ms[q]? = some ⟨p, k⟩) (hx : l[k]? = some x) (hru : ruleOf l ⟨p, k⟩ = x) (hle : p + x.frm.size ≤ s.size) (ho : occB s p x.frm = true) (hi : i < x.to.size)
    (hq' : ms[q']? = some ⟨p', k'⟩) (hx' : l[k']? = some x') (hru' : ruleOf l ⟨p', k'⟩ = x') (hle' : p' + x'.frm.size ≤ s.size) (ho' : occB s p' x'.frm = true) (hi' : i' < x'.to.size)
    (k1 : (if i = 0 then nmv N p else inv N q + (i - 1)) = (if i' = 0 then nmv N p' else inv N q' + (i' - 1))) (k2 : (if i + 1 = x.to.size then nmv N (p + x.frm.size) else inv N q + i) = (if i' + 1 = x'.to.size then nmv N (p' + x'.frm.size) else inv N q' + i')) (k3 : (byteAt x.to i : Int) = byteAt x'.to i') : q = q' ∧ i = i' := by
  have hf := hr.ok x (List.mem_of_getElem? hx)
  have hf' := hr.ok x' (List.mem_of_getElem? hx')
  unfold RuleOk at hf hf'
  have hw : mW l ⟨p, k⟩ = x.to.size - 1 := by unfold mW; rw [hru]
  have hw' : mW l ⟨p', k'⟩ = x'.to.size - 1 := by unfold mW; rw [hru']
  by_cases h0 : i = 0 <;> by_cases h0' : i' = 0
  · subst h0; subst h0'
    rw [if_pos rfl, if_pos rfl] at k1
    have hpp := h.inj (by omega) (by omega) k1
    subst hpp
    refine ⟨?_, rfl⟩
    by_cases g : 0 + 1 = x.to.size <;> by_cases g' : 0 + 1 = x'.to.size
    · rw [if_pos g, if_pos g'] at k2
      have hee := h.inj hle hle' k2
      have hff : x.frm = x'.frm := occ_eq ho ho' (by omega)
      have htt : x.to = x'.to := ba_ext (by omega) fun i hi => by
        have hi0 : i = 0 := by omega
        subst hi0; omega
      have hkk := hr.one k k' x x' hx hx' hff htt
      subst hkk
      exact h.one q q' _ hq hq'
    · rw [if_pos g, if_neg g'] at k2
      exact (h.ne q' _ hq' ((0 : Nat) : Int) (by omega) (by omega) _ hle k2.symm).elim
    · rw [if_neg g, if_pos g'] at k2
      exact (h.ne q _ hq ((0 : Nat) : Int) (by omega) (by omega) _ hle' k2).elim
    · rw [if_neg g, if_neg g'] at k2
      exact (h.same q q' _ _ hq hq' ((0 : Nat) : Int) ((0 : Nat) : Int) (by omega) (by omega) (by omega) (by omega) k2).1
  · rw [if_pos h0, if_neg h0'] at k1
    exact (h.ne q' _ hq' ((i' : Int) - 1) (by omega) (by omega) _ (by omega) k1.symm).elim
  · rw [if_neg h0, if_pos h0'] at k1
    exact (h.ne q _ hq ((i : Int) - 1) (by omega) (by omega) _ (by omega) k1).elim
  · rw [if_neg h0, if_neg h0'] at k1
    obtain ⟨b1, b2⟩ := h.same q q' _ _ hq hq' ((i : Int) - 1) ((i' : Int) - 1) (by omega) (by omega) (by omega) (by omega) k1
    exact ⟨b1, by omega⟩
theorem NmI.uniq(h:NmI l s ms N)(hr:RulesOk l):Uniq (arcsM s l ms N ms.length):=by
 intro a ha b hb h1 h2
 obtain⟨k1,k2,k3⟩:=arcLt_key h1 h2
 clear h1 h2
 rcases arcs_mem ha with⟨j,hj,rfl⟩ | ⟨q,m,i,hq,hi,rfl⟩<;>rcases arcs_mem hb with⟨j',hj',rfl⟩ | ⟨q',m',i',hq',hi',rfl⟩
 ·have:=h.inj (by omega) (by omega) k1
  subst this;rfl
 ·obtain⟨p',k',x',rfl,hx',hru',hle',ho'⟩:=h.mt q' m' hq'
  rw[chA_eq hru']at k1 k2 k3
  rw[hru']at hi'
  exact(h.key1 hr hj hq' hx' hru' hle' ho' hi' k1.symm k2.symm k3.symm).elim
 ·obtain⟨p,k,x,rfl,hx,hru,hle,ho⟩:=h.mt q m hq
  rw[chA_eq hru]at k1 k2 k3
  rw[hru]at hi
  exact(h.key1 hr hj' hq hx hru hle ho hi k1 k2 k3).elim
 ·obtain⟨p,k,x,rfl,hx,hru,hle,ho⟩:=h.mt q m hq
  obtain⟨p',k',x',rfl,hx',hru',hle',ho'⟩:=h.mt q' m' hq'
  rw[chA_eq hru,chA_eq hru']at k1 k2 k3
  rw[hru]at hi
  rw[hru']at hi'
  obtain⟨rfl,rfl⟩:=h.key2 hr hq hx hru hle ho hi hq' hx' hru' hle' ho' hi' k1 k2 k3
  rw[hq]at hq'
  rw[Option.some.inj hq']
theorem NmI.nodup(h:NmI l s ms N)(hr:RulesOk l):(arcsM s l ms N ms.length).Pairwise (· ≠ ·):=by
 unfold arcsM
 refine List.pairwise_append.2 ⟨?_,?_,?_⟩
 ·unfold letA
  refine List.pairwise_map.2 (List.pairwise_lt_range.imp_of_mem fun{a b} ha hb hab he=>?_)
  have:=h.inj (by have:=List.mem_range.1 ha;omega) (by have:=List.mem_range.1 hb;omega) (congrArg Arc.frm he)
  omega
 ·refine List.pairwise_flatMap.2 ⟨fun q hq=>?_,List.pairwise_lt_range.imp_of_mem fun{a b} ha hb hab x hx y hy he=>?_⟩
  ·unfold chK
   have hql:=List.mem_range.1 hq
   rw[List.getElem?_eq_getElem hql]
   simp only
   obtain⟨p,k,x,hm,hx,hru,hle,ho⟩:=h.mt q _ (List.getElem?_eq_getElem hql)
   have hmq:ms[q]? =some ⟨p,k⟩:=by rw[List.getElem?_eq_getElem hql,hm]
   rw[hm]at hru ⊢
   unfold chJ
   refine List.pairwise_map.2 (List.pairwise_lt_range.imp_of_mem fun{a b} ha hb hab he=>?_)
   have hal:=List.mem_range.1 ha
   have hbl:=List.mem_range.1 hb
   rw[hru]at hal hbl
   rw[chA_eq hru,chA_eq hru]at he
   have:=(h.key2 hr hmq hx hru hle ho hal hmq hx hru hle ho hbl (congrArg Arc.frm he) (congrArg Arc.to he) (congrArg Arc.letter he)).2
   omega
  ·have hal:=List.mem_range.1 ha
   have hbl:=List.mem_range.1 hb
   obtain⟨p,k,z,hm,hz,hru,hle,ho⟩:=h.mt a _ (List.getElem?_eq_getElem hal)
   obtain⟨p',k',z',hm',hz',hru',hle',ho'⟩:=h.mt b _ (List.getElem?_eq_getElem hbl)
   have hma:ms[a]? =some ⟨p,k⟩:=by rw[List.getElem?_eq_getElem hal,hm]
   have hmb:ms[b]? =some ⟨p',k'⟩:=by rw[List.getElem?_eq_getElem hbl,hm']
   unfold chK at hx hy
   rw[hma]at hx
   rw[hmb]at hy
   simp only at hx hy
   unfold chJ at hx hy
   obtain⟨i,hi,rfl⟩:=List.mem_map.1 hx
   obtain⟨i',hi',hee⟩:=List.mem_map.1 hy
   rw[←hee]at he
   have hi:=List.mem_range.1 hi
   have hi':=List.mem_range.1 hi'
   rw[hm]at hru
   rw[hm']at hru'
   rw[hru]at hi
   rw[hru']at hi'
   rw[chA_eq hru,chA_eq hru']at he
   have:=(h.key2 hr hma hz hru hle ho hi hmb hz' hru' hle' ho' hi' (congrArg Arc.frm he) (congrArg Arc.to he) (congrArg Arc.letter he)).1
   omega
 ·intro x hx y hy he
  unfold letA at hx
  obtain⟨j,hj,rfl⟩:=List.mem_map.1 hx
  have hj:=List.mem_range.1 hj
  obtain⟨q,hq,hy⟩:=List.mem_flatMap.1 hy
  have hql:=List.mem_range.1 hq
  obtain⟨p,k,z,hm,hz,hru,hle,ho⟩:=h.mt q _ (List.getElem?_eq_getElem hql)
  have hma:ms[q]? =some ⟨p,k⟩:=by rw[List.getElem?_eq_getElem hql,hm]
  unfold chK at hy
  rw[hma]at hy
  simp only at hy
  unfold chJ at hy
  obtain⟨i,hi,hee⟩:=List.mem_map.1 hy
  have hi:=List.mem_range.1 hi
  rw[hm]at hru
  rw[hru]at hi
  rw[←hee,chA_eq hru]at he
  exact h.key1 hr hj hma hz hru hle ho hi (congrArg Arc.frm he).symm (congrArg Arc.to he).symm (congrArg Arc.letter he).symm
def rawN(s:ByteArray)(l:List Spell)(ms:List Mt)(N:Num):Auto:=⟨N.next,isort arcLt (arcsM s l ms N ms.length),[⟨nmv N s.size,0⟩]⟩
theorem lst_of_asc{xs:List Arc}(ha:Asc arcLt xs)(hn:xs.Pairwise (· ≠ ·))(hu:Uniq xs):∀i x y,xs[i]? =some x→xs[i+1]? =some y→arcLt x y=true:=by
 intro i x y hx hy
 obtain⟨hi,hx'⟩:=List.getElem?_eq_some_iff.1 hx
 obtain⟨hi1,hy'⟩:=List.getElem?_eq_some_iff.1 hy
 have h1:=List.pairwise_iff_getElem.1 ha i (i+1) hi hi1 (by omega)
 have h2:=List.pairwise_iff_getElem.1 hn i (i+1) hi hi1 (by omega)
 rw[hx',hy']at h1 h2
 cases h:arcLt x y with
 | true=>rfl
 | false=>exact absurd (hu x (List.mem_of_getElem? hx) y (List.mem_of_getElem? hy) h h1) h2
theorem let_of{s:ByteArray}(h:letS s=true){j:Nat}(hj:j<s.size):letB (byteAt s j)=true:=List.all_eq_true.1 h j (List.mem_range.2 hj)
theorem flat_len{α:Type}{f:Nat→List α}{c:Nat}:∀n,(∀q,q<n→(f q).length≤c)→((List.range n).flatMap f).length≤c*n
 | 0,_=>by simp
 | n+1,h=>by
  rw[List.range_succ,List.flatMap_append,List.length_append,Nat.mul_succ]
  have h1:=flat_len n fun q hq=>h q (by omega)
  have h2:=h n (by omega)
  simp only[List.flatMap_cons,List.flatMap_nil,List.append_nil]
  omega
theorem NmI.arcs_len(h:NmI l s ms N)(hr:RulesOk l):(arcsM s l ms N ms.length).length≤s.size+3*ms.length:=by
 unfold arcsM letA
 rw[List.length_append,List.length_map,List.length_range]
 have:=flat_len (f:=chK l ms N) (c:=3) ms.length fun q hq=>by
  obtain⟨p,k,x,hm,hx,hru,hle,ho⟩:=h.mt q _ (List.getElem?_eq_getElem hq)
  unfold chK
  rw[List.getElem?_eq_getElem hq]
  simp only
  unfold chJ
  rw[List.length_map,List.length_range,hru]
  have:=hr.ok x (List.mem_of_getElem? hx)
  unfold RuleOk at this
  omega
 omega
theorem NmI.valid(h:NmI l s ms N)(hr:RulesOk l)(hs:letS s=true)(hz:s.size≤100)(hm:ms.length≤100)(hn:nmv N s.size<N.next)(ht:N.next≤400):Valid (rawN s l ms N):=by
 have hp:=isort_perm (lt:=arcLt) (arcsM s l ms N ms.length)
 have hall:∀x∈arcsM s l ms N ms.length,0≤x.frm∧x.frm<x.to∧x.to<N.next∧letB x.letter=true∧0≤x.cost∧x.cost≤1000000:=fun x hx=>by
  have hnn:∀j,j≤s.size→0≤nmv N j∧nmv N j≤nmv N s.size:=fun j hj=>⟨by have:=h.mono (Nat.zero_le j) hj;have:=h.n0;omega,h.mono hj (Nat.le_refl _)⟩
  rcases arcs_mem hx with⟨j,hj,rfl⟩ | ⟨q,m,i,hq,hi,rfl⟩
  ·have h1:=h.up j (j+1) (by omega) (by omega)
   have h2:=hnn j (by omega)
   have h3:=hnn (j+1) (by omega)
   exact⟨h2.1,h1,by simp only;omega,let_of hs hj,by simp,by simp⟩
  ·obtain⟨p,k,x,rfl,hx,hru,hle,ho⟩:=h.mt q m hq
   have hf:=hr.ok x (List.mem_of_getElem? hx)
   have hlt:=(hr.ltr x (List.mem_of_getElem? hx)).2
   unfold RuleOk at hf
   rw[hru]at hi
   rw[chA_eq hru]
   have hpe:=h.up p (p+x.frm.size) (by omega) hle
   have h2:=hnn p (by omega)
   have h3:=hnn (p+x.frm.size) hle
   have hb:=fun o h0 h1=>h.btw q p k x hq hx o h0 h1
   refine⟨?_,?_,?_,let_of hlt hi,?_,?_⟩
   ·simp only
    split
    ·exact h2.1
    ·have:=hb ((i:Int)-1) (by omega) (by omega);omega
   ·simp only
    by_cases a:i=0<;>by_cases b:i+1=x.to.size
    ·rw[if_pos a,if_pos b];omega
    ·rw[if_pos a,if_neg b]
     have:=hb (i:Int) (by omega) (by omega);omega
    ·rw[if_neg a,if_pos b]
     have:=hb ((i:Int)-1) (by omega) (by omega);omega
    ·rw[if_neg a,if_neg b]
     omega
   ·simp only
    split
    ·omega
    ·have:=hb (i:Int) (by omega) (by omega);omega
   ·simp only
    split<;>omega
   ·simp only
    split<;>omega
 have h0:=h.mono (Nat.zero_le s.size) (Nat.le_refl _)
 have hn0:=h.n0
 have hu:=h.uniq hr
 refine⟨?_,ht,?_,by simp[rawN],fun x hx=>hall x (hp.mem_iff.1 hx),fun x hx=>?_,?_,fun i x y hx hy=>?_⟩
 ·show 1≤N.next
  omega
 ·show(isort arcLt _).length≤4000
  rw[hp.length_eq]
  have:=h.arcs_len hr
  omega
 ·rw[List.mem_singleton.1 hx]
  exact⟨by simp only;omega,hn,by simp,by simp⟩
 ·refine lst_of_asc (isort_asc swoArc _) ((h.nodup hr).perm hp.symm fun h=>Ne.symm h) fun x hx y hy=>hu x (hp.mem_iff.1 hx) y (hp.mem_iff.1 hy)
 ·have hx:=(List.getElem?_eq_some_iff.1 hx).1
  have hy:=(List.getElem?_eq_some_iff.1 hy).1
  simp[rawN]at hx hy
theorem chk_of{a:Auto}(v:Valid a):chkA a=0:=by
 unfold chkA
 rw[if_neg (by have:=v.st2;have:=v.al;have:=v.el;omega),if_neg (by have:=v.st1;omega),if_neg,if_neg]
 ·rw[List.any_eq_true]
  rintro⟨i,hi,hb⟩
  have hi:=List.mem_range.1 hi
  have hx:a.ends[i]? =some a.ends[i]:=List.getElem?_eq_getElem hi
  have:=v.en _ (List.getElem_mem hi)
  unfold endBad at hb
  rw[hx]at hb
  simp only[Bool.or_eq_true,decide_eq_true_eq,Bool.and_eq_true]at hb
  rcases hb with hb | hb | hb | hb | ⟨hb,hc⟩
  ·omega
  ·omega
  ·omega
  ·omega
  ·have hw:a.ends[i-1]? =some a.ends[i-1]:=List.getElem?_eq_getElem (by omega)
   rw[hw]at hc
   simp only[decide_eq_true_eq]at hc
   have:=v.ord2 (i-1) _ _ hw (by rw[show i-1+1=i by omega];exact hx)
   omega
 ·rw[List.any_eq_true]
  rintro⟨i,hi,hb⟩
  have hi:=List.mem_range.1 hi
  have hx:a.arcs[i]? =some a.arcs[i]:=List.getElem?_eq_getElem hi
  have hv:=v.arc _ (List.getElem_mem hi)
  unfold arcBad at hb
  rw[hx]at hb
  simp only[Bool.or_eq_true,decide_eq_true_eq,Bool.and_eq_true,hv.2.2.2.1,Bool.not_true]at hb
  rcases hb with hb | hb | hb | hb | hb | hb | ⟨hb,hc⟩
  ·omega
  ·omega
  ·omega
  ·cases hb
  ·omega
  ·omega
  ·have hw:a.arcs[i-1]? =some a.arcs[i-1]:=List.getElem?_eq_getElem (by omega)
   rw[hw]at hc
   simp only at hc
   rw[v.ord (i-1) _ _ hw (by rw[show i-1+1=i by omega];exact hx)]at hc
   cases hc
open Classical in
noncomputable def isoF(l:List Spell)(s:ByteArray)(ms:List Mt)(N N':Num)(v:Int):Int:=
 if h:∃j,j≤s.size∧v=nmv N j then nmv N' (Classical.choose h)
 else if h:∃p:Nat × Nat,(∃m,ms[p.1]? =some m∧(p.2:Int)<mW l m)∧v=inv N p.1+p.2 then inv N' (Classical.choose h).1+(Classical.choose h).2
 else 0
theorem iso_num(h:NmI l s ms N){j:Nat}(hj:j≤s.size):isoF l s ms N N' (nmv N j)=nmv N' j:=by
 have hx:∃j',j'≤s.size∧nmv N j=nmv N j':=⟨j,hj,rfl⟩
 unfold isoF
 rw[dif_pos hx]
 have:=Classical.choose_spec hx
 rw[h.inj this.1 hj this.2.symm]
theorem iso_in(h:NmI l s ms N){q:Nat}{m:Mt}(hq:ms[q]? =some m){o:Nat}(ho:(o:Int)<mW l m):isoF l s ms N N' (inv N q+o)=inv N' q+o:=by
 have h1:¬∃j,j≤s.size∧inv N q+o=nmv N j:=fun⟨j,hj,he⟩=>h.ne q m hq o (by omega) ho j hj he
 have hx:∃p:Nat × Nat,(∃m,ms[p.1]? =some m∧(p.2:Int)<mW l m)∧inv N q+o=inv N p.1+p.2:=⟨(q,o),⟨m,hq,ho⟩,rfl⟩
 unfold isoF
 rw[dif_neg h1,dif_pos hx]
 obtain⟨⟨m',hm',ho'⟩,he⟩:=Classical.choose_spec hx
 obtain⟨e1,e2⟩:=h.same q _ m m' hq hm' o _ (by omega) ho (by omega) ho' he
 rw[←e1]
 omega
theorem finN{p:Int}:finA (rawN s l ms N) p=if nmv N s.size=p then 0 else -1:=by
 unfold finA rawN
 simp only[List.find?_cons,List.find?_nil]
 by_cases h:nmv N s.size=p
 ·rw[if_pos h,beq_iff_eq.2 h];rfl
 ·rw[if_neg h,beq_eq_false_iff_ne.2 h];rfl
theorem memN{x:Arc}:x∈(rawN s l ms N).arcs↔x∈arcsM s l ms N ms.length:=(isort_perm (lt:=arcLt) _).mem_iff
theorem acc_iso(h:NmI l s ms N)(hr:RulesOk l){p c:Int}{t:ByteArray}(ha:AccA (rawN s l ms N) p t c):AccA (rawN s l ms N') (isoF l s ms N N' p) t c:=by
 induction ha with
 | @fin p hp=>
  rw[finN]at hp ⊢
  split at hp
  ·rename_i he
   rw[if_pos he,←he,iso_num h (Nat.le_refl _)]
   have:=AccA.fin (a:=rawN s l ms N') (p:=nmv N' s.size) (by rw[finN,if_pos rfl];omega)
   rw[finN,if_pos rfl]at this
   exact this
  ·omega
 | @arc x t c hx _ ih=>
  rcases arcs_mem (memN.1 hx)with⟨j,hj,rfl⟩ | ⟨q,m,i,hq,hi,rfl⟩
  ·rw[iso_num h (by omega)]at ih ⊢
   exact AccA.arc (x:=⟨nmv N' j,nmv N' (j+1),byteAt s j,0⟩) (memN.2 (mem_let hj)) ih
  ·obtain⟨p,k,x,rfl,hx,hru,hle,ho⟩:=h.mt q m hq
   have hf:=hr.ok x (List.mem_of_getElem? hx)
   unfold RuleOk at hf
   have hw:mW l ⟨p,k⟩=x.to.size-1:=by unfold mW;rw[hru]
   have hmem:chA l N' q ⟨p,k⟩ i∈arcsM s l ms N' ms.length:=mem_ch hq hi
   rw[hru]at hi
   rw[chA_eq hru]at ih ⊢ hmem
   have e1:isoF l s ms N N' (if i=0 then nmv N p else inv N q+(i-1))=if i=0 then nmv N' p else inv N' q+(i-1):=by
    split
    ·exact iso_num h (by omega)
    ·have:=iso_in (N':=N') h hq (o:=i-1) (by omega)
     rw[show((i:Int)-1)=((i-1:Nat):Int) by omega]
     exact this
   have e2:isoF l s ms N N' (if i+1=x.to.size then nmv N (p+x.frm.size)else inv N q+i)=if i+1=x.to.size then nmv N' (p+x.frm.size)else inv N' q+i:=by
    split
    ·exact iso_num h hle
    ·exact iso_in h hq (by omega)
   simp only at ih ⊢
   rw[e2]at ih
   rw[e1]
   exact AccA.arc (memN.2 hmem) ih
theorem acc_iff(h:NmI l s ms N)(h':NmI l s ms N')(hr:RulesOk l){c:Int}{t:ByteArray}:AccA (rawN s l ms N) 0 t c↔AccA (rawN s l ms N') 0 t c:=by
 have e:isoF l s ms N N' 0=0:=by
  have:=iso_num (N':=N') h (Nat.zero_le s.size)
  rwa[h.n0,h'.n0]at this
 have e':isoF l s ms N' N 0=0:=by
  have:=iso_num (N':=N) h' (Nat.zero_le s.size)
  rwa[h.n0,h'.n0]at this
 refine⟨fun a=>?_,fun a=>?_⟩
 ·have:=acc_iso (N':=N') h hr a
  rwa[e]at this
 ·have:=acc_iso (N':=N) h' hr a
  rwa[e']at this
end
theorem meetA_congr{a a' b b':Auto}(va:Valid a)(va':Valid a')(vb:Valid b)(vb':Valid b')(ha:∀t c,AccA a 0 t c↔AccA a' 0 t c)(hb:∀t c,AccA b 0 t c↔AccA b' 0 t c):meetA a b 0 0=meetA a' b' 0 0:=
 LeastIn.uniq (meetA_least va vb (Int.le_refl 0)) ((meetA_least va' vb' (Int.le_refl 0)).congr fun v=>by
  unfold BothA
  simp only[ha,hb])
end Go.Proofs.YtpndfdfipkadkaaGreatDoor
set_option maxRecDepth 100000
namespace Go.Proofs.YtpndfdfipkadkaaGreatDoor
open Go Go.Wx Go.Ax
theorem mtAt_pw(s:ByteArray)(l:List Spell)(i:Nat):(mtAt s l i).Pairwise (· ≠ ·):=by
 unfold mtAt
 refine List.pairwise_filterMap.2 (List.pairwise_lt_range.imp_of_mem fun{a b} ha hb hab x hx y hy he=>?_)
 have h1:x.rule=a:=by
  split at hx
  ·split at hx
   ·cases hx;rfl
   ·cases hx
  ·cases hx
 have h2:y.rule=b:=by
  split at hy
  ·split at hy
   ·cases hy;rfl
   ·cases hy
  ·cases hy
 rw[he]at h1
 omega
theorem mtAt_at{s:ByteArray}{l:List Spell}{i:Nat}{m:Mt}(h:m∈mtAt s l i):m.at_=i:=by
 unfold mtAt at h
 obtain⟨k,hk,h⟩:=List.mem_filterMap.1 h
 split at h
 ·split at h
  ·cases h;rfl
  ·cases h
 ·cases h
theorem mtL_pw(s:ByteArray)(l:List Spell):(mtL s l).Pairwise (· ≠ ·):=by
 unfold mtL
 refine List.pairwise_flatMap.2 ⟨fun i _=>mtAt_pw s l i,List.pairwise_lt_range.imp_of_mem fun{a b} ha hb hab x hx y hy he=>?_⟩
 have h1:=mtAt_at hx
 have h2:=mtAt_at hy
 rw[he]at h1
 omega
theorem one_of{ms:List Mt}(h:ms.Pairwise (· ≠ ·))(q q':Nat)(m:Mt)(hq:ms[q]? =some m)(hq':ms[q']? =some m):q=q':=by
 obtain⟨h1,e1⟩:=List.getElem?_eq_some_iff.1 hq
 obtain⟨h2,e2⟩:=List.getElem?_eq_some_iff.1 hq'
 have hp:=List.pairwise_iff_getElem.1 h
 rcases Nat.lt_trichotomy q q' with hlt | he | hlt
 ·exact absurd (e1.trans e2.symm) (hp q q' h1 h2 hlt)
 ·exact he
 ·exact absurd (e2.trans e1.symm) (hp q' q h2 h1 hlt)
theorem mtL_mt{l:List Spell}{s:ByteArray}(q:Nat)(m:Mt)(h:(mtL s l)[q]? =some m):∃(p k:Nat) (x:Spell),m=⟨p,k⟩∧l[k]? =some x∧ruleOf l m=x∧p+x.frm.size≤s.size∧occB s p x.frm=true:=by
 obtain⟨p,k,x,rfl,h1,h2,h3⟩:=(mtL_ok m (List.mem_of_getElem? h)).ex
 exact⟨p,k,x,rfl,h2,by simp[ruleOf,h2],occ_le h1 h3,h3⟩
theorem inK_none{l:List Spell}{ms:List Mt}{i:Nat}(h:∀m∈ms,mEnd l m≠i):∀(k:Nat) (st:Int × List Int),inK l ms i k st=st
 | 0,_=>rfl
 | k+1,st=>by
  cases hm:ms[k]? with
  | none=>unfold inK;rw[hm];exact inK_none h k st
  | some m=>rw[inK_some hm,if_neg (h m (List.mem_of_getElem? hm))];exact inK_none h k st
theorem numU_n0{l:List Spell}{ms:List Mt}(h:∀m∈ms,mEnd l m≠0):∀i,(numU l ms (i+1)).nums.getD 0 0=0
 | 0=>by
  show([]++[(inK l ms 0 ms.length (0,List.replicate ms.length 0)).1]).getD 0 0=0
  rw[inK_none h]
  rfl
 | i+1=>by
  show((numU l ms (i+1)).nums++[_]).getD 0 0=0
  rw[getD_app_lt]
  ·exact numU_n0 h i
  ·show 0<((numU l ms i).nums++[_]).length
   simp
theorem take_succ_some{α:Type}{xs:List α}{k:Nat}{x:α}(h:xs[k]? =some x):xs.take (k+1)=xs.take k++[x]:=by
 rw[List.take_succ,h];rfl
theorem inK_cnt{l:List Spell}{ms:List Mt}{i:Nat}(hr:∀m∈ms,RuleOk (ruleOf l m)):∀(k:Nat) (st:Int × List Int),(inK l ms i k st).1≤st.1+2*(((ms.take k).countP fun m=>decide (mEnd l m=i):Nat):Int)
 | 0,st=>by simp[inK]
 | k+1,st=>by
  have ih:=inK_cnt hr (i:=i) k st
  cases hm:ms[k]? with
  | none=>
   unfold inK
   rw[hm,List.take_succ,hm]
   simpa using ih
  | some m=>
   rw[inK_some hm,take_succ_some hm,List.countP_append]
   have:=hr m (List.mem_of_getElem? hm)
   unfold RuleOk at this
   split
   ·rename_i he
    simp only[List.countP_cons,List.countP_nil,he,decide_true,if_true]
    unfold mW
    omega
   ·omega
theorem cnt_lt{l:List Spell}(i:Nat):∀ms:List Mt,(ms.countP fun m=>decide (mEnd l m=(i:Int)))+(ms.countP fun m=>decide (mEnd l m<(i:Int)))=ms.countP fun m=>decide (mEnd l m<((i+1:Nat):Int))
 |[]=>rfl
 | m::ms=>by
  have ih:=cnt_lt (l:=l) i ms
  simp only[List.countP_cons]
  rcases Int.lt_trichotomy (mEnd l m) i with h | h | h
  ·rw[if_neg (by simp;omega),if_pos (by simp;omega),if_pos (by simp;omega)];omega
  ·rw[if_pos (by simp;omega),if_neg (by simp;omega),if_pos (by simp;omega)];omega
  ·rw[if_neg (by simp;omega),if_neg (by simp;omega),if_neg (by simp;omega)];omega
theorem numU_next{l:List Spell}{ms:List Mt}(hr:∀m∈ms,RuleOk (ruleOf l m)):∀i,(numU l ms i).next≤i+2*((ms.countP fun m=>decide (mEnd l m<(i:Int)):Nat):Int)
 | 0=>by
  show(0:Int)≤_
  omega
 | i+1=>by
  have ih:=numU_next hr i
  have h1:=inK_cnt hr (i:=i) ms.length ((numU l ms i).next,(numU l ms i).inner)
  have h2:=cnt_lt (l:=l) i ms
  rw[List.take_length]at h1
  show(inK l ms i ms.length ((numU l ms i).next,(numU l ms i).inner)).1+1≤_
  simp only at h1
  omega
theorem nmI_prog{l:List Spell}(hr:RulesOk l)(s:ByteArray):NmI l s (mtL s l) (numU l (mtL s l) (s.size+1)):=by
 have h:=nmOk hr.ok s
 have hne:∀m∈mtL s l,mEnd l m≠0:=fun m hm=>by
  obtain⟨q,hq⟩:=List.getElem?_of_mem hm
  obtain⟨p,k,x,rfl,hx,hru,_⟩:=mtL_mt q m hq
  have:=hr.ok x (List.mem_of_getElem? hx)
  unfold RuleOk at this
  unfold mEnd
  rw[hru]
  simp only
  omega
 refine⟨h.mt,one_of (mtL_pw s l),numU_n0 hne _,fun j j' h1 h2=>h.lay.nn j j' h1 (by omega),fun q p k x hq hx o h0 h1=>?_,fun q m hq o h0 h1 j hj=>h.ne hr.ok hq h0 h1 hj,fun q q' m m' hq hq' o o' a b c d e=>h.same hr.ok hq hq' a b c d e⟩
 have hf:=hr.ok x (List.mem_of_getElem? hx)
 unfold RuleOk at hf
 have hru:ruleOf l ⟨p,k⟩=x:=by simp[ruleOf,hx]
 obtain⟨e,g1,g2,g3,g4⟩:=h.btw hr.ok hq (o:=o) h0 (by unfold mW;rw[hru];omega)
 have he:e+1=p+x.frm.size:=by
  unfold mEnd at g2
  rw[hru]at g2
  simp only at g2
  omega
 rw[←he]
 have:=h.mono (j:=p) (j':=e) (by omega) (by omega)
 exact⟨by omega,g4⟩
theorem numU_top{l:List Spell}(hr:RulesOk l)(s:ByteArray)(hm:(mtL s l).length≤100)(hs:s.size≤100):nmv (numU l (mtL s l) (s.size+1)) s.size<(numU l (mtL s l) (s.size+1)).next∧(numU l (mtL s l) (s.size+1)).next≤400:=by
 have h:=nmOk hr.ok s
 have h1:=numU_next (l:=l) (ms:=mtL s l) (fun m hm=>by
  obtain⟨q,hq⟩:=List.getElem?_of_mem hm
  obtain⟨p,k,x,rfl,hx,hru,_⟩:=mtL_mt q m hq
  rw[hru]
  exact hr.ok x (List.mem_of_getElem? hx)) (s.size+1)
 have h2:=List.countP_le_length (p:=fun m=>decide (mEnd l m<((s.size+1:Nat):Int))) (l:=mtL s l)
 exact⟨(h.lay.num s.size (by omega)).2,by omega⟩
theorem raw_valid{l:List Spell}(hr:RulesOk l){s:ByteArray}(hl:letS s=true)(hs:s.size≤100)(hm:(mtL s l).length≤100):Valid (rawA s l):=
 (nmI_prog hr s).valid hr hl hs hm (numU_top hr s hm hs).1 (numU_top hr s hm hs).2
def rK(l:List Spell)(ms:List Mt)(i:Int):Nat→Int→Int
 | 0,n=>n
 | k+1,n=>match ms[k]? with
  | some m=>if m.at_=i then rK l ms i k n+mW l m else rK l ms i k n
  | none=>rK l ms i k n
def refU(l:List Spell)(ms:List Mt):Nat→Int × List Int
 | 0=>(0,[])
 | i+1=>(rK l ms i ms.length ((refU l ms i).1+1),(refU l ms i).2++[(refU l ms i).1])
def ownR(l:List Spell)(ms:List Mt)(st:List Int)(q:Nat):Int:=match ms[q]? with
 | some m=>rK l ms m.at_ q (st.getD m.at_.toNat 0+1)
 | none=>0
def refNum(l:List Spell)(s:ByteArray)(ms:List Mt):Num:=⟨(refU l ms (s.size+1)).1,(List.range ms.length).map (ownR l ms (refU l ms (s.size+1)).2),(refU l ms (s.size+1)).2⟩
theorem rK_succ{l:List Spell}{ms:List Mt}{i:Int}{k:Nat}{m:Mt}(h:ms[k]? =some m)(n:Int):rK l ms i (k+1) n=if m.at_=i then rK l ms i k n+mW l m else rK l ms i k n:=by
 conv=>lhs;unfold rK
 rw[h]
theorem rK_mono{l:List Spell}{ms:List Mt}(hr:∀m∈ms,RuleOk (ruleOf l m)){i n:Int}{k:Nat}:∀d,rK l ms i k n≤rK l ms i (k+d) n
 | 0=>Int.le_refl _
 | d+1=>by
  have ih:=rK_mono hr (i:=i) (n:=n) (k:=k) d
  show _≤rK l ms i (k+d+1) n
  cases hm:ms[k+d]? with
  | none=>
   have:rK l ms i (k+d+1) n=rK l ms i (k+d) n:=by
    conv=>lhs;unfold rK
    rw[hm]
   rw[this];exact ih
  | some m=>
   rw[rK_succ hm]
   have:=hr m (List.mem_of_getElem? hm)
   unfold RuleOk at this
   split
   ·unfold mW;omega
   ·exact ih
theorem rK_add{l:List Spell}{ms:List Mt}{i n:Int}{q q':Nat}{m:Mt}(hr:∀m∈ms,RuleOk (ruleOf l m))(hq:ms[q]? =some m)(ha:m.at_=i)(h:q<q'):rK l ms i q n+mW l m≤rK l ms i q' n:=by
 have h1:=rK_succ (l:=l) (i:=i) hq n
 rw[if_pos ha]at h1
 have h2:=rK_mono hr (i:=i) (n:=n) (k:=q+1) (q' -(q+1))
 rw[show q+1+(q' -(q+1))=q' by omega]at h2
 omega
theorem refU_len(l:List Spell)(ms:List Mt):∀i,(refU l ms i).2.length=i
 | 0=>rfl
 | i+1=>by
  show((refU l ms i).2++[_]).length=i+1
  rw[List.length_append,refU_len l ms i];rfl
theorem refU_at(l:List Spell)(ms:List Mt){j:Nat}:∀i,j<i→(refU l ms i).2.getD j 0=(refU l ms j).1
 | 0,h=>absurd h (Nat.not_lt_zero _)
 | i+1,h=>by
  show((refU l ms i).2++[_]).getD j 0=_
  by_cases hj:j=i
  ·subst hj
   rw[getD_app_eq (refU_len l ms j)]
  ·rw[getD_app_lt (by rw[refU_len];omega)]
   exact refU_at l ms i (by omega)
theorem refU_lt{l:List Spell}{ms:List Mt}(hr:∀m∈ms,RuleOk (ruleOf l m)){j:Nat}:∀d,(refU l ms j).1<(refU l ms (j+1+d)).1
 | 0=>by
  show _<rK l ms j ms.length ((refU l ms j).1+1)
  have:=rK_mono hr (i:=(j:Int)) (n:=(refU l ms j).1+1) (k:=0) ms.length
  rw[Nat.zero_add]at this
  have h0:rK l ms j 0 ((refU l ms j).1+1)=(refU l ms j).1+1:=rfl
  omega
 | d+1=>by
  have ih:=refU_lt hr (j:=j) d
  have:=rK_mono hr (i:=((j+1+d:Nat):Int)) (n:=(refU l ms (j+1+d)).1+1) (k:=0) ms.length
  rw[Nat.zero_add]at this
  have h0:rK l ms ((j+1+d:Nat):Int) 0 ((refU l ms (j+1+d)).1+1)=(refU l ms (j+1+d)).1+1:=rfl
  show _<rK l ms ((j+1+d:Nat):Int) ms.length ((refU l ms (j+1+d)).1+1)
  omega
theorem refNum_nm{l:List Spell}{s:ByteArray}{ms:List Mt}{j:Nat}(h:j≤s.size):nmv (refNum l s ms) j=(refU l ms j).1:=refU_at l ms _ (by omega)
theorem refNum_in{l:List Spell}{s:ByteArray}{ms:List Mt}{q p k:Nat}(hq:ms[q]? =some ⟨p,k⟩)(hp:p≤s.size):inv (refNum l s ms) q=rK l ms p q ((refU l ms p).1+1):=by
 show((List.range ms.length).map (ownR l ms (refU l ms (s.size+1)).2)).getD q 0=_
 rw[List.getD_eq_getElem?_getD,List.getElem?_map,List.getElem?_range (List.getElem?_eq_some_iff.1 hq).1]
 show ownR l ms _ q=_
 unfold ownR
 rw[hq]
 simp only[Int.toNat_natCast]
 rw[refU_at l ms _ (by omega)]
theorem nmI_ref{l:List Spell}(hr:RulesOk l)(s:ByteArray):NmI l s (mtL s l) (refNum l s (mtL s l)):=by
 have hmt:=mtL_mt (l:=l) (s:=s)
 have hone:=one_of (mtL_pw s l)
 generalize mtL s l=ms at hmt hone
 have hrm:∀m∈ms,RuleOk (ruleOf l m):=fun m hm=>by
  obtain⟨q,hq⟩:=List.getElem?_of_mem hm
  obtain⟨p,k,x,rfl,hx,hru,_⟩:=hmt q m hq
  rw[hru]
  exact hr.ok x (List.mem_of_getElem? hx)
 have hup:∀j j',j<j'→(refU l ms j).1<(refU l ms j').1:=fun j j' h=>by
  have:=refU_lt hrm (j:=j) (j' -(j+1))
  rwa[show j+1+(j' -(j+1))=j' by omega]at this
 have bt:∀(q p k:Nat),ms[q]? =some ⟨p,k⟩→p<s.size→∀o:Int,0≤o→o<mW l ⟨p,k⟩→(refU l ms p).1<inv (refNum l s ms) q+o∧inv (refNum l s ms) q+o<(refU l ms (p+1)).1:=fun q p k hq hp o h0 h1=>by
  rw[refNum_in hq (by omega)]
  have g1:=rK_mono hrm (i:=(p:Int)) (n:=(refU l ms p).1+1) (k:=0) q
  rw[Nat.zero_add]at g1
  have g0:rK l ms p 0 ((refU l ms p).1+1)=(refU l ms p).1+1:=rfl
  have g2:=rK_add hrm hq (i:=(p:Int)) rfl (n:=(refU l ms p).1+1) (q':=ms.length) (List.getElem?_eq_some_iff.1 hq).1
  have g3:(refU l ms (p+1)).1=rK l ms p ms.length ((refU l ms p).1+1):=rfl
  omega
 have hps:∀(q:Nat) (m:Mt),ms[q]? =some m→∃p k:Nat,m=⟨p,k⟩∧p<s.size:=fun q m hq=>by
  obtain⟨p,k,x,rfl,hx,hru,hle,_⟩:=hmt q m hq
  have:=hr.ok x (List.mem_of_getElem? hx)
  unfold RuleOk at this
  exact⟨p,k,rfl,by omega⟩
 refine⟨hmt,hone,refNum_nm (Nat.zero_le _),fun j j' h1 h2=>?_,fun q p k x hq hx o h0 h1=>?_,fun q m hq o h0 h1 j hj=>?_,fun q q' m m' hq hq' o o' a b c d e=>?_⟩
 ·rw[refNum_nm (by omega),refNum_nm h2]
  exact hup j j' h1
 ·obtain⟨p',k',x',he,hx',hru,hle,_⟩:=hmt q _ hq
  cases he
  rw[hx]at hx';cases hx'
  have hf:=hr.ok x (List.mem_of_getElem? hx)
  unfold RuleOk at hf
  have:=bt q p k hq (by omega) o h0 (by unfold mW;rw[hru];omega)
  rw[refNum_nm (by omega),refNum_nm hle]
  refine⟨this.1,?_⟩
  rcases Nat.lt_or_eq_of_le (show p+1≤p+x.frm.size by omega)with h | h
  ·have:=hup _ _ h;omega
  ·rw[←h];exact this.2
 ·obtain⟨p,k,rfl,hp⟩:=hps q m hq
  have:=bt q p k hq hp o h0 h1
  rw[refNum_nm hj]
  rcases Nat.lt_or_ge p j with h | h
  ·rcases Nat.lt_or_eq_of_le (show p+1≤j by omega)with h | h
   ·have:=hup _ _ h;omega
   ·rw[←h];omega
  ·rcases Nat.lt_or_eq_of_le h with h | h
   ·have:=hup _ _ h;omega
   ·rw[h];omega
 ·obtain⟨p,k,rfl,hp⟩:=hps q m hq
  obtain⟨p',k',rfl,hp'⟩:=hps q' m' hq'
  have b1:=bt q p k hq hp o a b
  have b2:=bt q' p' k' hq' hp' o' c d
  have hpp:p=p':=by
   rcases Nat.lt_trichotomy p p' with h | h | h
   ·rcases Nat.lt_or_eq_of_le (show p+1≤p' by omega)with h | h
    ·have:=hup _ _ h;omega
    ·rw[h]at b1;omega
   ·exact h
   ·rcases Nat.lt_or_eq_of_le (show p'+1≤p by omega)with h | h
    ·have:=hup _ _ h;omega
    ·rw[h]at b2;omega
  subst hpp
  rw[refNum_in hq (by omega),refNum_in hq' (by omega)]at e
  rcases Nat.lt_trichotomy q q' with h | h | h
  ·have:=rK_add hrm hq (i:=(p:Int)) rfl (n:=(refU l ms p).1+1) h
   omega
  ·subst h;exact⟨rfl,by omega⟩
  ·have:=rK_add hrm hq' (i:=(p:Int)) rfl (n:=(refU l ms p).1+1) h
   omega
theorem rK_cnt{l:List Spell}{ms:List Mt}(hr:∀m∈ms,RuleOk (ruleOf l m)){i:Int}:∀(k:Nat) (n:Int),rK l ms i k n≤n+2*(((ms.take k).countP fun m=>decide (m.at_=i):Nat):Int)
 | 0,n=>by simp[rK]
 | k+1,n=>by
  have ih:=rK_cnt hr (i:=i) k n
  cases hm:ms[k]? with
  | none=>
   unfold rK
   rw[hm,List.take_succ,hm]
   simpa using ih
  | some m=>
   rw[rK_succ hm,take_succ_some hm,List.countP_append]
   have:=hr m (List.mem_of_getElem? hm)
   unfold RuleOk at this
   split
   ·rename_i he
    simp only[List.countP_cons,List.countP_nil,he,decide_true,if_true]
    unfold mW
    omega
   ·omega
theorem cnt_at(i:Nat):∀ms:List Mt,(ms.countP fun m=>decide (m.at_=(i:Int)))+(ms.countP fun m=>decide (m.at_<(i:Int)))=ms.countP fun m=>decide (m.at_<((i+1:Nat):Int))
 |[]=>rfl
 | m::ms=>by
  have ih:=cnt_at i ms
  simp only[List.countP_cons]
  rcases Int.lt_trichotomy m.at_ i with h | h | h
  ·rw[if_neg (by simp;omega),if_pos (by simp;omega),if_pos (by simp;omega)];omega
  ·rw[if_pos (by simp;omega),if_neg (by simp;omega),if_pos (by simp;omega)];omega
  ·rw[if_neg (by simp;omega),if_neg (by simp;omega),if_neg (by simp;omega)];omega
theorem refU_next{l:List Spell}{ms:List Mt}(hr:∀m∈ms,RuleOk (ruleOf l m)):∀i,(refU l ms i).1≤i+2*((ms.countP fun m=>decide (m.at_<(i:Int)):Nat):Int)
 | 0=>by
  show(0:Int)≤_
  omega
 | i+1=>by
  have ih:=refU_next hr i
  have h1:=rK_cnt hr (i:=(i:Int)) ms.length ((refU l ms i).1+1)
  have h2:=cnt_at i ms
  rw[List.take_length]at h1
  show rK l ms i ms.length ((refU l ms i).1+1)≤_
  omega
def rawR(s:ByteArray)(l:List Spell):Auto:=rawN s l (mtL s l) (refNum l s (mtL s l))
theorem mt_rules{l:List Spell}(hr:RulesOk l)(s:ByteArray):∀m∈mtL s l,RuleOk (ruleOf l m):=fun m hm=>by
 obtain⟨q,hq⟩:=List.getElem?_of_mem hm
 obtain⟨p,k,x,rfl,hx,hru,_⟩:=mtL_mt q m hq
 rw[hru]
 exact hr.ok x (List.mem_of_getElem? hx)
theorem rawR_valid{l:List Spell}(hr:RulesOk l){s:ByteArray}(hl:letS s=true)(hs:s.size≤100)(hm:(mtL s l).length≤100):Valid (rawR s l):=by
 have h1:=refU_next (mt_rules hr s) (s.size+1)
 have h2:=List.countP_le_length (p:=fun m:Mt=>decide (m.at_<((s.size+1:Nat):Int))) (l:=mtL s l)
 refine(nmI_ref hr s).valid hr hl hs hm ?_ ?_
 ·rw[refNum_nm (Nat.le_refl _)]
  exact refU_lt (mt_rules hr s) 0
 ·show(refU l (mtL s l) (s.size+1)).1≤400
  omega
theorem raw_same{l:List Spell}(hr:RulesOk l)(s:ByteArray){t:ByteArray}{c:Int}:AccA (rawA s l) 0 t c↔AccA (rawR s l) 0 t c:=acc_iff (nmI_prog hr s) (nmI_ref hr s) hr
end Go.Proofs.YtpndfdfipkadkaaGreatDoor
set_option maxRecDepth 100000
namespace Go.Proofs.YtpndfdfipkadkaaGreatDoor
open Go Go.Wx Go.Ax
def ins(xs:List Arc):List Arc:=xs.foldl (fun acc a=>isortIn arcLt a acc) []
theorem ins_snoc(xs:List Arc)(a:Arc):ins (xs++[a])=isortIn arcLt a (ins xs):=by
 unfold ins
 rw[List.foldl_append]
 rfl
theorem ins_perm(xs:List Arc):(ins xs).Perm xs:=by
 have h:∀(xs acc:List Arc),(xs.foldl (fun acc a=>isortIn arcLt a acc) acc).Perm (acc++xs):=fun xs=>by
  induction xs with
  | nil=>intro acc;simp
  | cons a xs ih=>
   intro acc
   rw[List.foldl_cons]
   refine(ih _).trans ?_
   refine((isortIn_perm (lt:=arcLt) a acc).append_right xs).trans ?_
   rw[List.cons_append]
   exact List.perm_middle.symm
 unfold ins
 simpa using h xs []
theorem ins_asc(xs:List Arc):Asc arcLt (ins xs):=by
 have h:∀(xs acc:List Arc),Asc arcLt acc→Asc arcLt (xs.foldl (fun acc a=>isortIn arcLt a acc) acc):=fun xs=>by
  induction xs with
  | nil=>intro acc h;exact h
  | cons a xs ih=>intro acc h;exact ih _ (isortIn_asc swoArc a acc h)
 exact h xs [] .nil
theorem ins_eq{xs ys:List Arc}(hp:xs.Perm ys)(hu:Uniq ys):ins xs=isort arcLt ys:=isort_unique swoArc ((ins_perm xs).trans hp) (ins_asc xs) hu
def chI(l:List Spell)(ms:List Mt)(N:Num)(i k:Nat):List Arc:=(List.range k).flatMap fun q=>match ms[q]? with
 | some m=>if m.at_=(i:Int)then chJ l N q m (ruleOf l m).to.size else []
 | none=>[]
def insL(s:ByteArray)(l:List Spell)(ms:List Mt)(N:Num)(i:Nat):List Arc:=⟨nmv N i,nmv N (i+1),byteAt s i,0⟩::chI l ms N i ms.length
def insF(s:ByteArray)(l:List Spell)(ms:List Mt)(N:Num)(i:Nat):List Arc:=(List.range i).flatMap (insL s l ms N)
theorem chI_succ{l:List Spell}{ms:List Mt}{N:Num}{i k:Nat}{m:Mt}(h:ms[k]? =some m):chI l ms N i (k+1)=chI l ms N i k++(if m.at_=(i:Int)then chJ l N k m (ruleOf l m).to.size else []):=by
 unfold chI
 rw[List.range_succ,List.flatMap_append]
 simp only[List.flatMap_cons,List.flatMap_nil,List.append_nil,h]
theorem insF_succ(s:ByteArray)(l:List Spell)(ms:List Mt)(N:Num)(i:Nat):insF s l ms N (i+1)=insF s l ms N i++insL s l ms N i:=by
 unfold insF
 rw[List.range_succ,List.flatMap_append]
 simp
theorem flat_app{α β:Type}(f g:α→List β):∀xs:List α,(xs.flatMap fun q=>f q++g q).Perm (xs.flatMap f++xs.flatMap g)
 |[]=> .refl _
 | x::xs=>by
  simp only[List.flatMap_cons]
  refine((flat_app f g xs).append_left _).trans ?_
  rw[List.append_assoc,List.append_assoc]
  refine List.Perm.append_left _ ?_
  rw[←List.append_assoc,←List.append_assoc]
  exact List.perm_append_comm.append_right _
theorem flat_swap{α β γ:Type}(h:α→β→List γ)(ys:List β):∀xs:List α,(xs.flatMap fun i=>ys.flatMap (h i)).Perm (ys.flatMap fun q=>xs.flatMap fun i=>h i q)
 |[]=>by simp
 | x::xs=>by
  simp only[List.flatMap_cons]
  exact((flat_swap h ys xs).append_left _).trans (flat_app (h x) (fun q=>xs.flatMap fun i=>h i q) ys).symm
theorem flat_sel{β:Type}(p:Nat)(c:List β):∀n,((List.range n).flatMap fun(i:Nat)=>if(p:Int)=(i:Int)then c else [])=if p<n then c else []
 | 0=>by simp
 | n+1=>by
  rw[List.range_succ,List.flatMap_append,flat_sel p c n]
  simp only[List.flatMap_cons,List.flatMap_nil,List.append_nil]
  by_cases h1:p<n
  ·rw[if_pos h1,if_neg (by omega),if_pos (by omega),List.append_nil]
  ·by_cases h2:p=n
   ·subst h2
    rw[if_neg h1,if_pos rfl,if_pos (by omega),List.nil_append]
   ·rw[if_neg h1,if_neg (by omega),if_neg (by omega),List.nil_append]
theorem flat_congr{α β:Type}{f g:α→List β}:∀{xs:List α},(∀x∈xs,f x=g x)→xs.flatMap f=xs.flatMap g
 |[],_=>rfl
 | x::xs,h=>by
  simp only[List.flatMap_cons]
  rw[h x (by simp),flat_congr fun y hy=>h y (by simp[hy])]
theorem insF_perm{s:ByteArray}{l:List Spell}{ms:List Mt}{N:Num}(hm:∀(q:Nat) (m:Mt),ms[q]? =some m→∃p k:Nat,m=⟨p,k⟩∧p<s.size):(insF s l ms N s.size).Perm (arcsM s l ms N ms.length):=by
 unfold insF arcsM
 have h1:((List.range s.size).flatMap (insL s l ms N)).Perm ((List.range s.size).flatMap (fun i=>[(⟨nmv N i,nmv N (i+1),byteAt s i,0⟩:Arc)])++(List.range s.size).flatMap fun i=>chI l ms N i ms.length):=flat_app (fun i=>[(⟨nmv N i,nmv N (i+1),byteAt s i,0⟩:Arc)]) (fun i=>chI l ms N i ms.length) _
 refine h1.trans ?_
 have h2:(List.range s.size).flatMap (fun i=>[(⟨nmv N i,nmv N (i+1),byteAt s i,0⟩:Arc)])=letA s N s.size:=by
  unfold letA
  rw[List.map_eq_flatMap]
 rw[h2]
 refine List.Perm.append_left _ ?_
 unfold chI
 refine(flat_swap _ _ _).trans ?_
 rw[flat_congr (g:=chK l ms N) fun q hq=>?_]
 obtain⟨m,hmq⟩:∃m,ms[q]? =some m:=⟨_,List.getElem?_eq_getElem (List.mem_range.1 hq)⟩
 obtain⟨p,k,rfl,hp⟩:=hm q m hmq
 unfold chK
 simp only[hmq]
 rw[flat_sel,if_pos hp]
theorem insF_eq{l:List Spell}(hr:RulesOk l)(s:ByteArray):ins (insF s l (mtL s l) (refNum l s (mtL s l)) s.size)=(rawR s l).arcs:=by
 refine ins_eq (insF_perm fun q m hq=>?_) ((nmI_ref hr s).uniq hr)
 obtain⟨p,k,x,rfl,hx,hru,hle,_⟩:=mtL_mt q m hq
 have:=hr.ok x (List.mem_of_getElem? hx)
 unfold RuleOk at this
 exact⟨p,k,rfl,by omega⟩
theorem insF_le(s:ByteArray)(l:List Spell)(ms:List Mt)(N:Num)(i:Nat):∀d,(insF s l ms N i).length≤(insF s l ms N (i+d)).length
 | 0=>Nat.le_refl _
 | d+1=>by
  have ih:=insF_le s l ms N i d
  rw[show i+(d+1)=(i+d)+1 by omega,insF_succ,List.length_append]
  omega
theorem chI_len{l:List Spell}{ms:List Mt}(hr:∀m∈ms,RuleOk (ruleOf l m))(N:Num)(i k:Nat):(chI l ms N i k).length≤3*k:=by
 unfold chI
 refine flat_len k fun q _=>?_
 cases hm:ms[q]? with
 | none=>simp
 | some m=>
  have:=hr m (List.mem_of_getElem? hm)
  unfold RuleOk at this
  simp only
  split
  ·unfold chJ
   rw[List.length_map,List.length_range]
   omega
  ·simp
theorem wArc_f{a x:Arc}{r:List Arc}(h:arcLt a x=true):isortIn arcLt a (x::r)=a::x::r:=by
 unfold isortIn
 rw[if_pos h]
theorem wArc_n{a x:Arc}{r:List Arc}(h:arcLt a x=false):isortIn arcLt a (x::r)=x::isortIn arcLt a r:=by
 conv=>lhs;unfold isortIn
 rw[if_neg (by rw[h];simp)]
end Go.Proofs.YtpndfdfipkadkaaGreatDoor
