/- The law holds: part 345. Conditions: none. -/
import Derived.Test.YtpndfdfipkadkaaGreatDoorKU11
import Derived.Test.YtpndfdfipkadkaaGreatDoorKU12
import Derived.Lib.Strings
set_option linter.all false
set_option maxRecDepth 100000
namespace Go.Proofs.YtpndfdfipkadkaaGreatDoor
open Go Go.Wx Go.Ax
structure End where
 state:Int
 cost:Int
def End.enc(x:End):List D:=[di x.state,di x.cost]
structure Auto where
 states:Int
 arcs:List Arc
 ends:List End
def Auto.enc(a:Auto):List D:=[di a.states,rows Arc.enc a.arcs,rows End.enc a.ends]
theorem pdEnd:∀x:End,PdL x.enc:=fun _=> .cons (.v _) (.cons (.v _) .nil)
theorem pdAuto(a:Auto):PdL a.enc:= .cons (.v _) (.cons (pd_rows pdArc _) (.cons (pd_rows pdEnd _) .nil))
def arcLt(x y:Arc):Bool:=if x.frm≠y.frm then decide (x.frm<y.frm)else if x.to≠y.to then decide (x.to<y.to)else decide (x.letter<y.letter)
theorem arcCmp_lt(x y:Arc):decide (arcCmp x y≥0)= !arcLt x y:=by
 unfold arcCmp arcLt orI cmpI
 by_cases h1:x.frm=y.frm
 ·by_cases h2:x.to=y.to
  ·by_cases h3:x.letter<y.letter
   ·simp[h1,h2,h3]
   ·by_cases h4:x.letter>y.letter
    ·simp[h1,h2,h3,h4]
    ·simp[h1,h2,h3,h4]
  ·by_cases h3:x.to<y.to
   ·simp[h1,h2,h3]
   ·have h4:x.to>y.to:=by omega
    simp[h1,h2,h3,h4]
 ·by_cases h3:x.frm<y.frm
  ·simp[h1,h3]
  ·have h4:x.frm>y.frm:=by omega
   simp[h1,h3,h4]
def arcBad(a:Auto)(i:Nat):Bool:=match a.arcs[i]? with
 | none=>false
 | some x=>decide (x.frm<0)||(decide (x.frm≥x.to)||(decide (x.to≥a.states)||(!letB x.letter||(decide (x.cost<0)||(decide (x.cost>1000000)||(decide (0<i)&& !(match a.arcs[i-1]? with | none=>true | some w=>arcLt w x)))))))
def endBad(a:Auto)(i:Nat):Bool:=match a.ends[i]? with
 | none=>false
 | some x=>decide (x.state<0)||(decide (x.state≥a.states)||(decide (x.cost<0)||(decide (x.cost>1000000)||(decide (0<i)&&(match a.ends[i-1]? with | none=>false | some w=>decide (w.state≥x.state))))))
def chkA(a:Auto):Int:=if a.states>400∨a.arcs.length>4000∨a.ends.length>400 then 2 else if a.states<1 then 1 else if(List.range a.arcs.length).any (arcBad a)then 1 else if(List.range a.ends.length).any (endBad a)then 1 else 0
structure Valid(a:Auto):Prop where
 st1:1≤a.states
 st2:a.states≤400
 al:a.arcs.length≤4000
 el:a.ends.length≤400
 arc:∀x∈a.arcs,0≤x.frm∧x.frm<x.to∧x.to<a.states∧letB x.letter=true∧0≤x.cost∧x.cost≤1000000
 en:∀x∈a.ends,0≤x.state∧x.state<a.states∧0≤x.cost∧x.cost≤1000000
 ord:∀i x y,a.arcs[i]? =some x→a.arcs[i+1]? =some y→arcLt x y=true
 ord2:∀i x y,a.ends[i]? =some x→a.ends[i+1]? =some y→x.state<y.state
theorem any_range_f{p:Nat→Bool}{n:Nat}:(List.range n).any p=false↔∀j,j<n→p j=false:=by simp[List.any_eq_false]
theorem valid_of{a:Auto}(h:chkA a=0):Valid a:=by
 unfold chkA at h
 split at h
 ·cases h
 rename_i h1
 split at h
 ·cases h
 rename_i h2
 split at h
 ·cases h
 rename_i h3
 split at h
 ·cases h
 rename_i h4
 simp only[Bool.not_eq_true]at h3 h4
 rw[any_range_f]at h3 h4
 have ha:∀i x,a.arcs[i]? =some x→arcBad a i=false:=fun i x hx=>h3 i (List.getElem?_eq_some_iff.1 hx).1
 have he:∀i x,a.ends[i]? =some x→endBad a i=false:=fun i x hx=>h4 i (List.getElem?_eq_some_iff.1 hx).1
 refine⟨by omega,by omega,by omega,by omega,fun x hx=>?_,fun x hx=>?_,fun i x y hx hy=>?_,fun i x y hx hy=>?_⟩
 ·obtain⟨i,hi⟩:=List.getElem?_of_mem hx
  have:=ha i x hi
  simp only[arcBad,hi,Bool.or_eq_false_iff,decide_eq_false_iff_not,Bool.not_eq_false']at this
  exact⟨by omega,by omega,by omega,this.2.2.2.1,by omega,by omega⟩
 ·obtain⟨i,hi⟩:=List.getElem?_of_mem hx
  have:=he i x hi
  simp only[endBad,hi,Bool.or_eq_false_iff,decide_eq_false_iff_not]at this
  exact⟨by omega,by omega,by omega,by omega⟩
 ·have:=ha (i+1) y hy
  simp only[arcBad,hy,Bool.or_eq_false_iff,Nat.add_sub_cancel,hx]at this
  simpa using this.2.2.2.2.2.2
 ·have:=he (i+1) y hy
  simp only[endBad,hy,Bool.or_eq_false_iff,Nat.add_sub_cancel,hx]at this
  simpa using this.2.2.2.2
structure Rd where
 text:ByteArray
 cost:Int
def rdLt(r w:Rd):Bool:=decide (r.cost<w.cost)||(r.cost==w.cost&&strLt r.text w.text)
def betterO(o:Option Rd)(r:Rd):Option Rd:=match o with
 | none=>some r
 | some w=>if rdLt r w then some r else some w
def rdC:Option Rd→List D
 | none=>[ds' ⟨#[]⟩,di 0,db false]
 | some r=>[ds' r.text,di r.cost,db true]
def consT(c:Int)(t:ByteArray):ByteArray:=strOf [c]++t
def outA(a:Auto)(p:Int):List Arc:=a.arcs.filter (·.frm==p)
def finA(a:Auto)(p:Int):Int:=((a.ends.find? (·.state==p)).map (·.cost)).getD (-1)
def startA(a b:Auto)(p q:Int):Option Rd:=if decide (finA a p≥0)&&decide (finA b q≥0)then some ⟨⟨#[]⟩,finA a p+finA b q⟩else none
def stepQ(rc:Int→Int→Option Rd)(x:Arc)(o:Option Rd)(y:Arc):Option Rd:=
 if x.letter==y.letter then match rc x.to y.to with
  | none=>o
  | some r=>betterO o ⟨consT x.letter r.text,x.cost+y.cost+r.cost⟩
 else o
def stepP(rc:Int→Int→Option Rd)(ys:List Arc)(o:Option Rd)(x:Arc):Option Rd:=ys.foldl (stepQ rc x) o
def meetN(a b:Auto):Nat→Int→Int→Option Rd
 | 0,_,_=>none
 | n+1,p,q=>(outA a p).foldl (stepP (meetN a b n) (outA b q)) (startA a b p q)
theorem foldl_same{α β:Type}{f g:β→α→β}:∀{l:List α} {o:β},(∀x∈l,∀o,f o x=g o x)→l.foldl f o=l.foldl g o
 |[],_,_=>rfl
 | x::l,o,h=>by
  rw[List.foldl_cons,List.foldl_cons,h x (by simp)]
  exact foldl_same fun y hy=>h y (by simp[hy])
theorem mem_out{a:Auto}{p:Int}{x:Arc}:x∈outA a p↔x∈a.arcs∧x.frm=p:=by simp[outA]
theorem meetN_succ{a b:Auto}(va:Valid a):∀{n:Nat} {p q:Int},a.states-p≤n→meetN a b (n+1) p q=meetN a b n p q
 | 0,p,q,h=>by
  have hn:outA a p=[]:=by
   refine List.eq_nil_iff_forall_not_mem.2 fun x hx=>?_
   obtain⟨h1,h2⟩:=mem_out.1 hx
   have:=va.arc x h1
   omega
  have hf:finA a p= -1:=by
   unfold finA
   rw[List.find?_eq_none.2 fun x hx=>?_]
   ·rfl
   ·have:=va.en x hx
    simp;omega
  show(outA a p).foldl (stepP (meetN a b 0) (outA b q)) (startA a b p q)=none
  rw[hn]
  simp[startA,hf]
 | n+1,p,q,h=>by
  rw[meetN]
  conv=>rhs;rw[meetN]
  refine foldl_same fun x hx o=>foldl_same fun y hy o=>?_
  obtain⟨h1,h2⟩:=mem_out.1 hx
  have:=va.arc x h1
  unfold stepQ
  rw[meetN_succ va (n:=n) (by omega)]
def meetA(a b:Auto)(p q:Int):Option Rd:=meetN a b (a.states.toNat+1) p q
theorem meetA_eq{a b:Auto}(va:Valid a){p q:Int}(hp:0≤p):meetA a b p q=(outA a p).foldl (stepP (meetA a b) (outA b q)) (startA a b p q):=by
 show meetN a b (a.states.toNat+1) p q=_
 rw[←meetN_succ va (n:=a.states.toNat+1) (by have:=va.st1;omega)]
 rw[meetN]
 rfl
def Small(n:Nat)(o:Option Rd):Prop:=∀r,o=some r→0≤r.cost∧r.cost≤2000000*n∧r.text.size≤n
theorem Small.mono{n m:Nat}{o:Option Rd}(h:Small n o)(hm:n≤m):Small m o:=fun r hr=>by have:=h r hr;omega
theorem consT_size(c:Int)(t:ByteArray):(consT c t).size=t.size+1:=by
 unfold consT strOf
 rw[ByteArray.size_append]
 simp only[List.map_cons,List.map_nil]
 show 1+t.size=_
 omega
theorem betterO_small{n:Nat}{o:Option Rd}{r:Rd}(h:Small n o)(hr:Small n (some r)):Small n (betterO o r):=by
 cases o with
 | none=>exact hr
 | some w=>
  unfold betterO
  simp only
  split
  ·exact hr
  ·exact h
theorem foldl_inv{α β:Type}{f:β→α→β}{I:β→Prop}:∀{l:List α} {o:β},I o→(∀x∈l,∀o,I o→I (f o x))→I (l.foldl f o)
 |[],_,h,_=>h
 | x::l,o,h,hs=>by
  rw[List.foldl_cons]
  exact foldl_inv (hs x (by simp) o h) fun y hy=>hs y (by simp[hy])
theorem finA_le{a:Auto}(va:Valid a)(p:Int): -1≤finA a p∧finA a p≤1000000:=by
 unfold finA
 cases h:a.ends.find? (·.state==p)with
 | none=>simp
 | some x=>
  have:=va.en x (List.mem_of_find?_eq_some h)
  simp only[Option.map_some,Option.getD_some]
  omega
theorem stepQ_small{n:Nat}{rc:Int→Int→Option Rd}{x y:Arc}{o:Option Rd}(hx:0≤x.cost∧x.cost≤1000000)(hy:0≤y.cost∧y.cost≤1000000)(h:Small (n+1) o)(hr:Small n (rc x.to y.to)):Small (n+1) (stepQ rc x o y):=by
 unfold stepQ
 split
 ·split
  ·exact h
  ·rename_i r he
   refine betterO_small h fun w hw=>?_
   cases hw
   have:=hr r he
   rw[consT_size]
   simp only
   omega
 ·exact h
theorem meetN_small{a b:Auto}(va:Valid a)(vb:Valid b):∀(n:Nat) (p q:Int),Small n (meetN a b n p q)
 | 0,p,q=>fun r h=>by cases h
 | n+1,p,q=>by
  rw[meetN]
  refine foldl_inv (I:=Small (n+1)) ?_ fun x hx o ho=>foldl_inv (I:=Small (n+1)) ho fun y hy o ho=>?_
  ·unfold startA
   have h1:=finA_le va p
   have h2:=finA_le vb q
   split
   ·intro r hr
    cases hr
    rename_i hc
    simp at hc
    refine⟨?_,?_,?_⟩
    ·show 0≤finA a p+finA b q;omega
    ·show finA a p+finA b q≤_;omega
    ·exact Nat.zero_le _
   ·intro r hr;cases hr
  ·have g1:=va.arc x (mem_out.1 hx).1
   have g2:=vb.arc y (mem_out.1 hy).1
   exact stepQ_small ⟨by omega,by omega⟩ ⟨by omega,by omega⟩ ho (meetN_small va vb n x.to y.to)
theorem meetA_small{a b:Auto}(va:Valid a)(vb:Valid b)(p q:Int):Small 401 (meetA a b p q):=(meetN_small va vb _ p q).mono (by have:=va.st2;omega)
structure Mt where
 at_:Int
 rule:Int
def Mt.enc(x:Mt):List D:=[di x.at_,di x.rule]
theorem pdMt:∀x:Mt,PdL x.enc:=fun _=> .cons (.v _) (.cons (.v _) .nil)
def occB(s:ByteArray)(i:Nat)(x:ByteArray):Bool:=Lib.hasPrefix (s.extract i s.size).data.toList x.data.toList
def mtAt(s:ByteArray)(l:List Spell)(i:Nat):List Mt:=(List.range l.length).filterMap fun k=>match l[k]? with
 | some x=>if occB s i x.frm then some ⟨i,k⟩else none
 | none=>none
def mtL(s:ByteArray)(l:List Spell):List Mt:=(List.range s.size).flatMap (mtAt s l)
def manyL(ns:List ByteArray)(l:List Spell):Int:=if ns.any (fun s=>decide ((mtL s l).length>100))then 2 else 0
end Go.Proofs.YtpndfdfipkadkaaGreatDoor
set_option maxRecDepth 100000
namespace Go.Proofs.YtpndfdfipkadkaaGreatDoor
open Go Go.Wx Go.Ax Go.Sort
theorem rdLt_iff{r w:Rd}:rdLt r w=true↔r.cost<w.cost∨r.cost=w.cost∧strLt r.text w.text=true:=by simp[rdLt]
theorem rdLt_irr(r:Rd):rdLt r r=false:=by
 cases h:rdLt r r with
 | false=>rfl
 | true=>
  rcases rdLt_iff.1 h with h | ⟨_,h⟩
  ·omega
  ·exact absurd h (strLt_irr _)
theorem rdLt_tr{r v w:Rd}(h1:rdLt r v=true)(h2:rdLt v w=true):rdLt r w=true:=by
 rw[rdLt_iff]at*
 rcases h1 with h1 | ⟨h1,h3⟩<;>rcases h2 with h2 | ⟨h2,h4⟩
 ·exact .inl (by omega)
 ·exact .inl (by omega)
 ·exact .inl (by omega)
 ·exact .inr ⟨by omega,strLt_tr _ _ _ h3 h4⟩
theorem rdLt_anti{r w:Rd}(h1:rdLt r w=false)(h2:rdLt w r=false):r=w:=by
 have n1:¬rdLt r w=true:=by rw[h1];simp
 have n2:¬rdLt w r=true:=by rw[h2];simp
 rw[rdLt_iff]at n1 n2
 have hc:r.cost=w.cost:=by omega
 have ht:r.text=w.text:=by
  refine strLt_anti ?_ ?_
  ·cases h:strLt r.text w.text with
   | false=>rfl
   | true=>exact absurd (.inr ⟨hc,h⟩) n1
  ·cases h:strLt w.text r.text with
   | false=>rfl
   | true=>exact absurd (.inr ⟨hc.symm,h⟩) n2
 cases r;cases w
 simp only at hc ht
 rw[hc,ht]
structure LeastIn(S:Rd→Prop)(o:Option Rd):Prop where
 none_:o=none→∀v,¬S v
 in_:∀w,o=some w→S w
 least:∀w,o=some w→∀v,S v→rdLt v w=false
theorem LeastIn.uniq{S:Rd→Prop}{o o':Option Rd}(h:LeastIn S o)(h':LeastIn S o'):o=o':=by
 cases o with
 | none=>
  cases o' with
  | none=>rfl
  | some w=>exact absurd (h'.in_ w rfl) (h.none_ rfl w)
 | some v=>
  cases o' with
  | none=>exact absurd (h.in_ v rfl) (h'.none_ rfl v)
  | some w=>rw[rdLt_anti (h'.least w rfl v (h.in_ v rfl)) (h.least v rfl w (h'.in_ w rfl))]
theorem LeastIn.congr{S S':Rd→Prop}{o:Option Rd}(h:LeastIn S o)(hs:∀v,S v↔S' v):LeastIn S' o:=(funext fun v=>propext (hs v):S=S')▸h
theorem LeastIn.better{S:Rd→Prop}{o:Option Rd}(h:LeastIn S o)(r:Rd):LeastIn (fun v=>S v∨v=r) (betterO o r):=by
 cases o with
 | none=>
  refine⟨fun e=>(by cases e),fun w e=>(by cases e;exact .inr rfl),fun w e v hv=>?_⟩
  cases e
  rcases hv with hv | rfl
  ·exact absurd hv (h.none_ rfl v)
  ·exact rdLt_irr _
 | some u=>
  unfold betterO
  simp only
  split
  ·rename_i hlt
   refine⟨fun e=>(by cases e),fun w e=>(by cases e;exact .inr rfl),fun w e v hv=>?_⟩
   cases e
   rcases hv with hv | rfl
   ·cases hvr:rdLt v r with
    | false=>rfl
    | true=>
     have:=h.least u rfl v hv
     rw[rdLt_tr hvr hlt]at this;cases this
   ·exact rdLt_irr _
  ·rename_i hlt
   refine⟨fun e=>(by cases e),fun w e=>(by cases e;exact .inl (h.in_ u rfl)),fun w e v hv=>?_⟩
   cases e
   rcases hv with hv | rfl
   ·exact h.least u rfl v hv
   ·simpa using hlt
theorem LeastIn.fold{α:Type}{f:Option Rd→α→Option Rd}{c:α→Rd→Prop}(hf:∀x o (S:Rd→Prop),LeastIn S o→LeastIn (fun v=>S v∨c x v) (f o x)):∀{l:List α} {o:Option Rd} {S:Rd→Prop},LeastIn S o→LeastIn (fun v=>S v∨∃x∈l,c x v) (l.foldl f o)
 |[],o,S,h=>h.congr fun v=>by simp
 | x::l,o,S,h=>by
  rw[List.foldl_cons]
  refine(LeastIn.fold hf (l:=l) (hf x o S h)).congr fun v=>?_
  simp only[List.mem_cons,exists_eq_or_imp,or_assoc]
def ByA(rc:Int→Int→Option Rd)(x y:Arc)(r:Rd):Prop:=x.letter=y.letter∧∃w,rc x.to y.to=some w∧r=⟨consT x.letter w.text,x.cost+y.cost+w.cost⟩
theorem stepQ_least{rc:Int→Int→Option Rd}{x y:Arc}{o:Option Rd}{S:Rd→Prop}(h:LeastIn S o):LeastIn (fun v=>S v∨ByA rc x y v) (stepQ rc x o y):=by
 unfold stepQ
 by_cases hl:x.letter=y.letter
 ·rw[if_pos (by simpa using hl)]
  cases hr:rc x.to y.to with
  | none=>exact h.congr fun v=>by simp[ByA,hr]
  | some w=>exact(h.better _).congr fun v=>by simp[ByA,hr,hl]
 ·rw[if_neg (by simpa using hl)]
  exact h.congr fun v=>by simp[ByA,hl]
theorem stepP_least{rc:Int→Int→Option Rd}{x:Arc}{ys:List Arc}{o:Option Rd}{S:Rd→Prop}(h:LeastIn S o):LeastIn (fun v=>S v∨∃y∈ys,ByA rc x y v) (stepP rc ys o x):=
 LeastIn.fold (f:=stepQ rc x) (c:=fun y v=>ByA rc x y v) (fun y o S h=>stepQ_least h) h
theorem startA_least(a b:Auto)(p q:Int):LeastIn (fun v=>0≤finA a p∧0≤finA b q∧v=⟨⟨#[]⟩,finA a p+finA b q⟩) (startA a b p q):=by
 unfold startA
 by_cases h:(decide (finA a p≥0)&&decide (finA b q≥0))=true
 ·rw[if_pos h]
  simp only[Bool.and_eq_true,decide_eq_true_eq]at h
  exact⟨fun e=>(by cases e),fun w e=>(by cases e;exact⟨h.1,h.2,rfl⟩),fun w e v hv=>(by cases e;rw[hv.2.2];exact rdLt_irr _)⟩
 ·rw[if_neg h]
  simp only[Bool.and_eq_true,decide_eq_true_eq]at h
  exact⟨fun _ v hv=>h ⟨hv.1,hv.2.1⟩,fun w e=>(by cases e),fun w e=>(by cases e)⟩
end Go.Proofs.YtpndfdfipkadkaaGreatDoor
