/- The law holds: part 373. Conditions: none. -/
import Derived.Test.YtpndfdfipkadkaaGreatDoorKU13
import Derived.Test.YtpndfdfipkadkaaGreatDoorKU27
set_option linter.all false
set_option maxRecDepth 100000
namespace Go.Proofs.YtpndfdfipkadkaaGreatDoor
open Go Go.Wx Go.Ax
structure NmI(l:List Spell)(s:ByteArray)(ms:List Mt)(N:Num):Prop where
 mt:∀(q:Nat) (m:Mt),ms[q]? =some m→∃(p k:Nat) (x:Spell),m=⟨p,k⟩∧l[k]? =some x∧ruleOf l m=x∧p+x.frm.size≤s.size∧occB s p x.frm=true
 one:∀(q q':Nat) (m:Mt),ms[q]? =some m→ms[q']? =some m→q=q'
 n0:nmv N 0=0
 up:∀j j',j<j'→j'≤s.size→nmv N j<nmv N j'
 btw:∀(q p k:Nat) (x:Spell),ms[q]? =some ⟨p,k⟩→l[k]? =some x→∀o:Int,0≤o→o+1<x.to.size→nmv N p<inv N q+o∧inv N q+o<nmv N (p+x.frm.size)
 ne:∀(q:Nat) (m:Mt),ms[q]? =some m→∀o:Int,0≤o→o<mW l m→∀j,j≤s.size→inv N q+o≠nmv N j
 same:∀(q q':Nat) (m m':Mt),ms[q]? =some m→ms[q']? =some m'→∀o o':Int,0≤o→o<mW l m→0≤o'→o'<mW l m'→inv N q+o=inv N q'+o'→q=q'∧o=o'
section
variable {l : List Spell} {s : ByteArray} {ms : List Mt} {N N' : Num}
theorem NmI.inj(h:NmI l s ms N){j j':Nat}(hj:j≤s.size)(hs:j'≤s.size)(he:nmv N j=nmv N j'):j=j':=by
 rcases Nat.lt_trichotomy j j' with h1 | h1 | h1
 ·have:=h.up j j' h1 hs;omega
 ·exact h1
 ·have:=h.up j' j h1 hj;omega
theorem NmI.mono(h:NmI l s ms N){j j':Nat}(hj:j≤j')(hs:j'≤s.size):nmv N j≤nmv N j':=by
 rcases Nat.lt_or_eq_of_le hj with h1 | h1
 ·exact Int.le_of_lt (h.up j j' h1 hs)
 ·subst h1;exact Int.le_refl _
theorem NmI.key1 (h : NmI l s ms N) (hr : RulesOk l) {j q p k i : Nat} {x : Spell} (hj : j < s.size) (hq : ms[q]? = some ⟨p, k⟩) (hx : l[k]? = some x) (hru : ruleOf l ⟨p, k⟩ = x) (hle : p + x.frm.size ≤ s.size) (ho : occB s p x.frm = true) (hi : i < x.to.size)
    (e1 : (if i = 0 then nmv N p else inv N q + (i - 1)) = nmv N j) (e2 : (if i + 1 = x.to.size then nmv N (p + x.frm.size) else inv N q + i) = nmv N (j + 1)) (e3 : (byteAt x.to i : Int) = byteAt s j) : False := by
  have hf := hr.ok x (List.mem_of_getElem? hx)
  unfold RuleOk at hf
  have hw : mW l ⟨p, k⟩ = x.to.size - 1 := by unfold mW; rw [hru]
  by_cases h0 : i = 0
  · subst h0
    rw [if_pos rfl] at e1
    have hpj := h.inj (by omega) (by omega) e1
    subst hpj
    by_cases h1 : 0 + 1 = x.to.size
    · rw [if_pos h1] at e2
      have := h.inj hle (by omega) e2
      refine hr.ne x (List.mem_of_getElem? hx) (ba_ext (by omega) fun i hi => ?_)
      have hi0 : i = 0 := by omega
      subst hi0
      rw [occ_at ho (by omega), Nat.add_zero]
      omega
    · rw [if_neg h1] at e2
      exact h.ne q _ hq ((0 : Nat) : Int) (by omega) (by omega) _ (by omega) e2
  · rw [if_neg h0] at e1
    exact h.ne q _ hq ((i : Int) - 1) (by omega) (by omega) _ (by omega) e1
theorem NmI.key2 (h : NmI l s ms N) (hr : RulesOk l) {q p k i q' p' k' i' : Nat} {x x' : Spell} (hq : ms[q]? = some ⟨p, k⟩) (hx : l[k]? = some x) (hru : ruleOf l ⟨p, k⟩ = x) (hle : p + x.frm.size ≤ s.size) (ho : occB s p x.frm = true) (hi : i < x.to.size)
    (hq' : ms[q']? = some ⟨p', k'⟩) (hx' : l[k']? = some x') (hru' : ruleOf l ⟨p', k'⟩ = x') (hle' : p' + x'.frm.size ≤ s.size) (ho' : occB s p' x'.frm = true) (hi' : i' < x'.to.size)
    (k1 : (if i = 0 then nmv N p else inv N q + (i - 1)) = (if i' = 0 then nmv N p' else inv N q' + (i' - 1))) (k2 : (if i + 1 = x.to.size then nmv N (p + x.frm.size) else inv N q + i) = (if i' + 1 = x'.to.size then nmv N (p' + x'.frm.size) else inv N q' + i')) (k3 : (byteAt x.to i : Int) = byteAt x'.to i') : q = q' ∧ i = i' := by
  have hf := hr.ok x (List.mem_of_getElem? hx)
  have hf' := hr.ok x' (List.mem_of_getElem? hx')
  unfold RuleOk at hf hf'
  have hw : mW l ⟨p, k⟩ = x.to.size - 1 := by unfold mW; rw [hru]
  have hw' : mW l ⟨p', k'⟩ = x'.to.size - 1 := by unfold mW; rw [hru']
  by_cases h0 : i = 0 <;> by_cases h0' : i' = 0
  · subst h0; subst h0'
    rw [if_pos rfl, if_pos rfl] at k1
    have hpp := h.inj (by omega) (by omega) k1
    subst hpp
    refine ⟨?_, rfl⟩
    by_cases g : 0 + 1 = x.to.size <;> by_cases g' : 0 + 1 = x'.to.size
    · rw [if_pos g, if_pos g'] at k2
      have hee := h.inj hle hle' k2
      have hff : x.frm = x'.frm := occ_eq ho ho' (by omega)
      have htt : x.to = x'.to := ba_ext (by omega) fun i hi => by
        have hi0 : i = 0 := by omega
        subst hi0; omega
      have hkk := hr.one k k' x x' hx hx' hff htt
      subst hkk
      exact h.one q q' _ hq hq'
    · rw [if_pos g, if_neg g'] at k2
      exact (h.ne q' _ hq' ((0 : Nat) : Int) (by omega) (by omega) _ hle k2.symm).elim
    · rw [if_neg g, if_pos g'] at k2
      exact (h.ne q _ hq ((0 : Nat) : Int) (by omega) (by omega) _ hle' k2).elim
    · rw [if_neg g, if_neg g'] at k2
      exact (h.same q q' _ _ hq hq' ((0 : Nat) : Int) ((0 : Nat) : Int) (by omega) (by omega) (by omega) (by omega) k2).1
  · rw [if_pos h0, if_neg h0'] at k1
    exact (h.ne q' _ hq' ((i' : Int) - 1) (by omega) (by omega) _ (by omega) k1.symm).elim
  · rw [if_neg h0, if_pos h0'] at k1
    exact (h.ne q _ hq ((i : Int) - 1) (by omega) (by omega) _ (by omega) k1).elim
  · rw [if_neg h0, if_neg h0'] at k1
    obtain ⟨b1, b2⟩ := h.same q q' _ _ hq hq' ((i : Int) - 1) ((i' : Int) - 1) (by omega) (by omega) (by omega) (by omega) k1
    exact ⟨b1, by omega⟩
theorem NmI.uniq(h:NmI l s ms N)(hr:RulesOk l):Uniq (arcsM s l ms N ms.length):=by
 intro a ha b hb h1 h2
 obtain⟨k1,k2,k3⟩:=arcLt_key h1 h2
 clear h1 h2
 rcases arcs_mem ha with⟨j,hj,rfl⟩ | ⟨q,m,i,hq,hi,rfl⟩<;>rcases arcs_mem hb with⟨j',hj',rfl⟩ | ⟨q',m',i',hq',hi',rfl⟩
 ·have:=h.inj (by omega) (by omega) k1
  subst this;rfl
 ·obtain⟨p',k',x',rfl,hx',hru',hle',ho'⟩:=h.mt q' m' hq'
  rw[chA_eq hru']at k1 k2 k3
  rw[hru']at hi'
  exact(h.key1 hr hj hq' hx' hru' hle' ho' hi' k1.symm k2.symm k3.symm).elim
 ·obtain⟨p,k,x,rfl,hx,hru,hle,ho⟩:=h.mt q m hq
  rw[chA_eq hru]at k1 k2 k3
  rw[hru]at hi
  exact(h.key1 hr hj' hq hx hru hle ho hi k1 k2 k3).elim
 ·obtain⟨p,k,x,rfl,hx,hru,hle,ho⟩:=h.mt q m hq
  obtain⟨p',k',x',rfl,hx',hru',hle',ho'⟩:=h.mt q' m' hq'
  rw[chA_eq hru,chA_eq hru']at k1 k2 k3
  rw[hru]at hi
  rw[hru']at hi'
  obtain⟨rfl,rfl⟩:=h.key2 hr hq hx hru hle ho hi hq' hx' hru' hle' ho' hi' k1 k2 k3
  rw[hq]at hq'
  rw[Option.some.inj hq']
theorem NmI.nodup(h:NmI l s ms N)(hr:RulesOk l):(arcsM s l ms N ms.length).Pairwise (· ≠ ·):=by
 unfold arcsM
 refine List.pairwise_append.2 ⟨?_,?_,?_⟩
 ·unfold letA
  refine List.pairwise_map.2 (List.pairwise_lt_range.imp_of_mem fun{a b} ha hb hab he=>?_)
  have:=h.inj (by have:=List.mem_range.1 ha;omega) (by have:=List.mem_range.1 hb;omega) (congrArg Arc.frm he)
  omega
 ·refine List.pairwise_flatMap.2 ⟨fun q hq=>?_,List.pairwise_lt_range.imp_of_mem fun{a b} ha hb hab x hx y hy he=>?_⟩
  ·unfold chK
   have hql:=List.mem_range.1 hq
   rw[List.getElem?_eq_getElem hql]
   simp only
   obtain⟨p,k,x,hm,hx,hru,hle,ho⟩:=h.mt q _ (List.getElem?_eq_getElem hql)
   have hmq:ms[q]? =some ⟨p,k⟩:=by rw[List.getElem?_eq_getElem hql,hm]
   rw[hm]at hru ⊢
   unfold chJ
   refine List.pairwise_map.2 (List.pairwise_lt_range.imp_of_mem fun{a b} ha hb hab he=>?_)
   have hal:=List.mem_range.1 ha
   have hbl:=List.mem_range.1 hb
   rw[hru]at hal hbl
   rw[chA_eq hru,chA_eq hru]at he
   have:=(h.key2 hr hmq hx hru hle ho hal hmq hx hru hle ho hbl (congrArg Arc.frm he) (congrArg Arc.to he) (congrArg Arc.letter he)).2
   omega
  ·have hal:=List.mem_range.1 ha
   have hbl:=List.mem_range.1 hb
   obtain⟨p,k,z,hm,hz,hru,hle,ho⟩:=h.mt a _ (List.getElem?_eq_getElem hal)
   obtain⟨p',k',z',hm',hz',hru',hle',ho'⟩:=h.mt b _ (List.getElem?_eq_getElem hbl)
   have hma:ms[a]? =some ⟨p,k⟩:=by rw[List.getElem?_eq_getElem hal,hm]
   have hmb:ms[b]? =some ⟨p',k'⟩:=by rw[List.getElem?_eq_getElem hbl,hm']
   unfold chK at hx hy
   rw[hma]at hx
   rw[hmb]at hy
   simp only at hx hy
   unfold chJ at hx hy
   obtain⟨i,hi,rfl⟩:=List.mem_map.1 hx
   obtain⟨i',hi',hee⟩:=List.mem_map.1 hy
   rw[←hee]at he
   have hi:=List.mem_range.1 hi
   have hi':=List.mem_range.1 hi'
   rw[hm]at hru
   rw[hm']at hru'
   rw[hru]at hi
   rw[hru']at hi'
   rw[chA_eq hru,chA_eq hru']at he
   have:=(h.key2 hr hma hz hru hle ho hi hmb hz' hru' hle' ho' hi' (congrArg Arc.frm he) (congrArg Arc.to he) (congrArg Arc.letter he)).1
   omega
 ·intro x hx y hy he
  unfold letA at hx
  obtain⟨j,hj,rfl⟩:=List.mem_map.1 hx
  have hj:=List.mem_range.1 hj
  obtain⟨q,hq,hy⟩:=List.mem_flatMap.1 hy
  have hql:=List.mem_range.1 hq
  obtain⟨p,k,z,hm,hz,hru,hle,ho⟩:=h.mt q _ (List.getElem?_eq_getElem hql)
  have hma:ms[q]? =some ⟨p,k⟩:=by rw[List.getElem?_eq_getElem hql,hm]
  unfold chK at hy
  rw[hma]at hy
  simp only at hy
  unfold chJ at hy
  obtain⟨i,hi,hee⟩:=List.mem_map.1 hy
  have hi:=List.mem_range.1 hi
  rw[hm]at hru
  rw[hru]at hi
  rw[←hee,chA_eq hru]at he
  exact h.key1 hr hj hma hz hru hle ho hi (congrArg Arc.frm he).symm (congrArg Arc.to he).symm (congrArg Arc.letter he).symm
def rawN(s:ByteArray)(l:List Spell)(ms:List Mt)(N:Num):Auto:=⟨N.next,isort arcLt (arcsM s l ms N ms.length),[⟨nmv N s.size,0⟩]⟩
theorem lst_of_asc{xs:List Arc}(ha:Asc arcLt xs)(hn:xs.Pairwise (· ≠ ·))(hu:Uniq xs):∀i x y,xs[i]? =some x→xs[i+1]? =some y→arcLt x y=true:=by
 intro i x y hx hy
 obtain⟨hi,hx'⟩:=List.getElem?_eq_some_iff.1 hx
 obtain⟨hi1,hy'⟩:=List.getElem?_eq_some_iff.1 hy
 have h1:=List.pairwise_iff_getElem.1 ha i (i+1) hi hi1 (by omega)
 have h2:=List.pairwise_iff_getElem.1 hn i (i+1) hi hi1 (by omega)
 rw[hx',hy']at h1 h2
 cases h:arcLt x y with
 | true=>rfl
 | false=>exact absurd (hu x (List.mem_of_getElem? hx) y (List.mem_of_getElem? hy) h h1) h2
theorem let_of{s:ByteArray}(h:letS s=true){j:Nat}(hj:j<s.size):letB (byteAt s j)=true:=List.all_eq_true.1 h j (List.mem_range.2 hj)
theorem flat_len{α:Type}{f:Nat→List α}{c:Nat}:∀n,(∀q,q<n→(f q).length≤c)→((List.range n).flatMap f).length≤c*n
 | 0,_=>by simp
 | n+1,h=>by
  rw[List.range_succ,List.flatMap_append,List.length_append,Nat.mul_succ]
  have h1:=flat_len n fun q hq=>h q (by omega)
  have h2:=h n (by omega)
  simp only[List.flatMap_cons,List.flatMap_nil,List.append_nil]
  omega
theorem NmI.arcs_len(h:NmI l s ms N)(hr:RulesOk l):(arcsM s l ms N ms.length).length≤s.size+3*ms.length:=by
 unfold arcsM letA
 rw[List.length_append,List.length_map,List.length_range]
 have:=flat_len (f:=chK l ms N) (c:=3) ms.length fun q hq=>by
  obtain⟨p,k,x,hm,hx,hru,hle,ho⟩:=h.mt q _ (List.getElem?_eq_getElem hq)
  unfold chK
  rw[List.getElem?_eq_getElem hq]
  simp only
  unfold chJ
  rw[List.length_map,List.length_range,hru]
  have:=hr.ok x (List.mem_of_getElem? hx)
  unfold RuleOk at this
  omega
 omega
theorem NmI.valid(h:NmI l s ms N)(hr:RulesOk l)(hs:letS s=true)(hz:s.size≤100)(hm:ms.length≤100)(hn:nmv N s.size<N.next)(ht:N.next≤400):Valid (rawN s l ms N):=by
 have hp:=isort_perm (lt:=arcLt) (arcsM s l ms N ms.length)
 have hall:∀x∈arcsM s l ms N ms.length,0≤x.frm∧x.frm<x.to∧x.to<N.next∧letB x.letter=true∧0≤x.cost∧x.cost≤1000000:=fun x hx=>by
  have hnn:∀j,j≤s.size→0≤nmv N j∧nmv N j≤nmv N s.size:=fun j hj=>⟨by have:=h.mono (Nat.zero_le j) hj;have:=h.n0;omega,h.mono hj (Nat.le_refl _)⟩
  rcases arcs_mem hx with⟨j,hj,rfl⟩ | ⟨q,m,i,hq,hi,rfl⟩
  ·have h1:=h.up j (j+1) (by omega) (by omega)
   have h2:=hnn j (by omega)
   have h3:=hnn (j+1) (by omega)
   exact⟨h2.1,h1,by simp only;omega,let_of hs hj,by simp,by simp⟩
  ·obtain⟨p,k,x,rfl,hx,hru,hle,ho⟩:=h.mt q m hq
   have hf:=hr.ok x (List.mem_of_getElem? hx)
   have hlt:=(hr.ltr x (List.mem_of_getElem? hx)).2
   unfold RuleOk at hf
   rw[hru]at hi
   rw[chA_eq hru]
   have hpe:=h.up p (p+x.frm.size) (by omega) hle
   have h2:=hnn p (by omega)
   have h3:=hnn (p+x.frm.size) hle
   have hb:=fun o h0 h1=>h.btw q p k x hq hx o h0 h1
   refine⟨?_,?_,?_,let_of hlt hi,?_,?_⟩
   ·simp only
    split
    ·exact h2.1
    ·have:=hb ((i:Int)-1) (by omega) (by omega);omega
   ·simp only
    by_cases a:i=0<;>by_cases b:i+1=x.to.size
    ·rw[if_pos a,if_pos b];omega
    ·rw[if_pos a,if_neg b]
     have:=hb (i:Int) (by omega) (by omega);omega
    ·rw[if_neg a,if_pos b]
     have:=hb ((i:Int)-1) (by omega) (by omega);omega
    ·rw[if_neg a,if_neg b]
     omega
   ·simp only
    split
    ·omega
    ·have:=hb (i:Int) (by omega) (by omega);omega
   ·simp only
    split<;>omega
   ·simp only
    split<;>omega
 have h0:=h.mono (Nat.zero_le s.size) (Nat.le_refl _)
 have hn0:=h.n0
 have hu:=h.uniq hr
 refine⟨?_,ht,?_,by simp[rawN],fun x hx=>hall x (hp.mem_iff.1 hx),fun x hx=>?_,?_,fun i x y hx hy=>?_⟩
 ·show 1≤N.next
  omega
 ·show(isort arcLt _).length≤4000
  rw[hp.length_eq]
  have:=h.arcs_len hr
  omega
 ·rw[List.mem_singleton.1 hx]
  exact⟨by simp only;omega,hn,by simp,by simp⟩
 ·refine lst_of_asc (isort_asc swoArc _) ((h.nodup hr).perm hp.symm fun h=>Ne.symm h) fun x hx y hy=>hu x (hp.mem_iff.1 hx) y (hp.mem_iff.1 hy)
 ·have hx:=(List.getElem?_eq_some_iff.1 hx).1
  have hy:=(List.getElem?_eq_some_iff.1 hy).1
  simp[rawN]at hx hy
theorem chk_of{a:Auto}(v:Valid a):chkA a=0:=by
 unfold chkA
 rw[if_neg (by have:=v.st2;have:=v.al;have:=v.el;omega),if_neg (by have:=v.st1;omega),if_neg,if_neg]
 ·rw[List.any_eq_true]
  rintro⟨i,hi,hb⟩
  have hi:=List.mem_range.1 hi
  have hx:a.ends[i]? =some a.ends[i]:=List.getElem?_eq_getElem hi
  have:=v.en _ (List.getElem_mem hi)
  unfold endBad at hb
  rw[hx]at hb
  simp only[Bool.or_eq_true,decide_eq_true_eq,Bool.and_eq_true]at hb
  rcases hb with hb | hb | hb | hb | ⟨hb,hc⟩
  ·omega
  ·omega
  ·omega
  ·omega
  ·have hw:a.ends[i-1]? =some a.ends[i-1]:=List.getElem?_eq_getElem (by omega)
   rw[hw]at hc
   simp only[decide_eq_true_eq]at hc
   have:=v.ord2 (i-1) _ _ hw (by rw[show i-1+1=i by omega];exact hx)
   omega
 ·rw[List.any_eq_true]
  rintro⟨i,hi,hb⟩
  have hi:=List.mem_range.1 hi
  have hx:a.arcs[i]? =some a.arcs[i]:=List.getElem?_eq_getElem hi
  have hv:=v.arc _ (List.getElem_mem hi)
  unfold arcBad at hb
  rw[hx]at hb
  simp only[Bool.or_eq_true,decide_eq_true_eq,Bool.and_eq_true,hv.2.2.2.1,Bool.not_true]at hb
  rcases hb with hb | hb | hb | hb | hb | hb | ⟨hb,hc⟩
  ·omega
  ·omega
  ·omega
  ·cases hb
  ·omega
  ·omega
  ·have hw:a.arcs[i-1]? =some a.arcs[i-1]:=List.getElem?_eq_getElem (by omega)
   rw[hw]at hc
   simp only at hc
   rw[v.ord (i-1) _ _ hw (by rw[show i-1+1=i by omega];exact hx)]at hc
   cases hc
open Classical in
end
end Go.Proofs.YtpndfdfipkadkaaGreatDoor
set_option maxRecDepth 100000
namespace Go.Proofs.YtpndfdfipkadkaaGreatDoor
open Go Go.Wx Go.Ax
theorem mtAt_pw(s:ByteArray)(l:List Spell)(i:Nat):(mtAt s l i).Pairwise (· ≠ ·):=by
 unfold mtAt
 refine List.pairwise_filterMap.2 (List.pairwise_lt_range.imp_of_mem fun{a b} ha hb hab x hx y hy he=>?_)
 have h1:x.rule=a:=by
  split at hx
  ·split at hx
   ·cases hx;rfl
   ·cases hx
  ·cases hx
 have h2:y.rule=b:=by
  split at hy
  ·split at hy
   ·cases hy;rfl
   ·cases hy
  ·cases hy
 rw[he]at h1
 omega
theorem mtAt_at{s:ByteArray}{l:List Spell}{i:Nat}{m:Mt}(h:m∈mtAt s l i):m.at_=i:=by
 unfold mtAt at h
 obtain⟨k,hk,h⟩:=List.mem_filterMap.1 h
 split at h
 ·split at h
  ·cases h;rfl
  ·cases h
 ·cases h
theorem mtL_pw(s:ByteArray)(l:List Spell):(mtL s l).Pairwise (· ≠ ·):=by
 unfold mtL
 refine List.pairwise_flatMap.2 ⟨fun i _=>mtAt_pw s l i,List.pairwise_lt_range.imp_of_mem fun{a b} ha hb hab x hx y hy he=>?_⟩
 have h1:=mtAt_at hx
 have h2:=mtAt_at hy
 rw[he]at h1
 omega
theorem one_of{ms:List Mt}(h:ms.Pairwise (· ≠ ·))(q q':Nat)(m:Mt)(hq:ms[q]? =some m)(hq':ms[q']? =some m):q=q':=by
 obtain⟨h1,e1⟩:=List.getElem?_eq_some_iff.1 hq
 obtain⟨h2,e2⟩:=List.getElem?_eq_some_iff.1 hq'
 have hp:=List.pairwise_iff_getElem.1 h
 rcases Nat.lt_trichotomy q q' with hlt | he | hlt
 ·exact absurd (e1.trans e2.symm) (hp q q' h1 h2 hlt)
 ·exact he
 ·exact absurd (e2.trans e1.symm) (hp q' q h2 h1 hlt)
theorem mtL_mt{l:List Spell}{s:ByteArray}(q:Nat)(m:Mt)(h:(mtL s l)[q]? =some m):∃(p k:Nat) (x:Spell),m=⟨p,k⟩∧l[k]? =some x∧ruleOf l m=x∧p+x.frm.size≤s.size∧occB s p x.frm=true:=by
 obtain⟨p,k,x,rfl,h1,h2,h3⟩:=(mtL_ok m (List.mem_of_getElem? h)).ex
 exact⟨p,k,x,rfl,h2,by simp[ruleOf,h2],occ_le h1 h3,h3⟩
theorem inK_none{l:List Spell}{ms:List Mt}{i:Nat}(h:∀m∈ms,mEnd l m≠i):∀(k:Nat) (st:Int × List Int),inK l ms i k st=st
 | 0,_=>rfl
 | k+1,st=>by
  cases hm:ms[k]? with
  | none=>unfold inK;rw[hm];exact inK_none h k st
  | some m=>rw[inK_some hm,if_neg (h m (List.mem_of_getElem? hm))];exact inK_none h k st
theorem numU_n0{l:List Spell}{ms:List Mt}(h:∀m∈ms,mEnd l m≠0):∀i,(numU l ms (i+1)).nums.getD 0 0=0
 | 0=>by
  show([]++[(inK l ms 0 ms.length (0,List.replicate ms.length 0)).1]).getD 0 0=0
  rw[inK_none h]
  rfl
 | i+1=>by
  show((numU l ms (i+1)).nums++[_]).getD 0 0=0
  rw[getD_app_lt]
  ·exact numU_n0 h i
  ·show 0<((numU l ms i).nums++[_]).length
   simp
theorem take_succ_some{α:Type}{xs:List α}{k:Nat}{x:α}(h:xs[k]? =some x):xs.take (k+1)=xs.take k++[x]:=by
 rw[List.take_succ,h];rfl
theorem inK_cnt{l:List Spell}{ms:List Mt}{i:Nat}(hr:∀m∈ms,RuleOk (ruleOf l m)):∀(k:Nat) (st:Int × List Int),(inK l ms i k st).1≤st.1+2*(((ms.take k).countP fun m=>decide (mEnd l m=i):Nat):Int)
 | 0,st=>by simp[inK]
 | k+1,st=>by
  have ih:=inK_cnt hr (i:=i) k st
  cases hm:ms[k]? with
  | none=>
   unfold inK
   rw[hm,List.take_succ,hm]
   simpa using ih
  | some m=>
   rw[inK_some hm,take_succ_some hm,List.countP_append]
   have:=hr m (List.mem_of_getElem? hm)
   unfold RuleOk at this
   split
   ·rename_i he
    simp only[List.countP_cons,List.countP_nil,he,decide_true,if_true]
    unfold mW
    omega
   ·omega
theorem cnt_lt{l:List Spell}(i:Nat):∀ms:List Mt,(ms.countP fun m=>decide (mEnd l m=(i:Int)))+(ms.countP fun m=>decide (mEnd l m<(i:Int)))=ms.countP fun m=>decide (mEnd l m<((i+1:Nat):Int))
 |[]=>rfl
 | m::ms=>by
  have ih:=cnt_lt (l:=l) i ms
  simp only[List.countP_cons]
  rcases Int.lt_trichotomy (mEnd l m) i with h | h | h
  ·rw[if_neg (by simp;omega),if_pos (by simp;omega),if_pos (by simp;omega)];omega
  ·rw[if_pos (by simp;omega),if_neg (by simp;omega),if_pos (by simp;omega)];omega
  ·rw[if_neg (by simp;omega),if_neg (by simp;omega),if_neg (by simp;omega)];omega
theorem numU_next{l:List Spell}{ms:List Mt}(hr:∀m∈ms,RuleOk (ruleOf l m)):∀i,(numU l ms i).next≤i+2*((ms.countP fun m=>decide (mEnd l m<(i:Int)):Nat):Int)
 | 0=>by
  show(0:Int)≤_
  omega
 | i+1=>by
  have ih:=numU_next hr i
  have h1:=inK_cnt hr (i:=i) ms.length ((numU l ms i).next,(numU l ms i).inner)
  have h2:=cnt_lt (l:=l) i ms
  rw[List.take_length]at h1
  show(inK l ms i ms.length ((numU l ms i).next,(numU l ms i).inner)).1+1≤_
  simp only at h1
  omega
theorem nmI_prog{l:List Spell}(hr:RulesOk l)(s:ByteArray):NmI l s (mtL s l) (numU l (mtL s l) (s.size+1)):=by
 have h:=nmOk hr.ok s
 have hne:∀m∈mtL s l,mEnd l m≠0:=fun m hm=>by
  obtain⟨q,hq⟩:=List.getElem?_of_mem hm
  obtain⟨p,k,x,rfl,hx,hru,_⟩:=mtL_mt q m hq
  have:=hr.ok x (List.mem_of_getElem? hx)
  unfold RuleOk at this
  unfold mEnd
  rw[hru]
  simp only
  omega
 refine⟨h.mt,one_of (mtL_pw s l),numU_n0 hne _,fun j j' h1 h2=>h.lay.nn j j' h1 (by omega),fun q p k x hq hx o h0 h1=>?_,fun q m hq o h0 h1 j hj=>h.ne hr.ok hq h0 h1 hj,fun q q' m m' hq hq' o o' a b c d e=>h.same hr.ok hq hq' a b c d e⟩
 have hf:=hr.ok x (List.mem_of_getElem? hx)
 unfold RuleOk at hf
 have hru:ruleOf l ⟨p,k⟩=x:=by simp[ruleOf,hx]
 obtain⟨e,g1,g2,g3,g4⟩:=h.btw hr.ok hq (o:=o) h0 (by unfold mW;rw[hru];omega)
 have he:e+1=p+x.frm.size:=by
  unfold mEnd at g2
  rw[hru]at g2
  simp only at g2
  omega
 rw[←he]
 have:=h.mono (j:=p) (j':=e) (by omega) (by omega)
 exact⟨by omega,g4⟩
theorem numU_top{l:List Spell}(hr:RulesOk l)(s:ByteArray)(hm:(mtL s l).length≤100)(hs:s.size≤100):nmv (numU l (mtL s l) (s.size+1)) s.size<(numU l (mtL s l) (s.size+1)).next∧(numU l (mtL s l) (s.size+1)).next≤400:=by
 have h:=nmOk hr.ok s
 have h1:=numU_next (l:=l) (ms:=mtL s l) (fun m hm=>by
  obtain⟨q,hq⟩:=List.getElem?_of_mem hm
  obtain⟨p,k,x,rfl,hx,hru,_⟩:=mtL_mt q m hq
  rw[hru]
  exact hr.ok x (List.mem_of_getElem? hx)) (s.size+1)
 have h2:=List.countP_le_length (p:=fun m=>decide (mEnd l m<((s.size+1:Nat):Int))) (l:=mtL s l)
 exact⟨(h.lay.num s.size (by omega)).2,by omega⟩
theorem raw_valid{l:List Spell}(hr:RulesOk l){s:ByteArray}(hl:letS s=true)(hs:s.size≤100)(hm:(mtL s l).length≤100):Valid (rawA s l):=
 (nmI_prog hr s).valid hr hl hs hm (numU_top hr s hm hs).1 (numU_top hr s hm hs).2
end Go.Proofs.YtpndfdfipkadkaaGreatDoor
set_option maxRecDepth 100000
namespace Go.Proofs.YtpndfdfipkadkaaGreatDoor
open Go Go.Wx Go.Ax
def ins(xs:List Arc):List Arc:=xs.foldl (fun acc a=>isortIn arcLt a acc) []
end Go.Proofs.YtpndfdfipkadkaaGreatDoor
