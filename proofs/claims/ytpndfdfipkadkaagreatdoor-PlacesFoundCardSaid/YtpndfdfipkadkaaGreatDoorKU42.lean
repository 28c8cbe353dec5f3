/- The law holds: part 374. Conditions: none. -/
import Derived.Test.YtpndfdfipkadkaaGreatDoorKU13
import Derived.Test.YtpndfdfipkadkaaGreatDoorKU27
import Derived.Test.YtpndfdfipkadkaaGreatDoorKU39
import Derived.Test.YtpndfdfipkadkaaGreatDoorKU41
set_option linter.all false
set_option maxRecDepth 100000
namespace Go.Proofs.YtpndfdfipkadkaaGreatDoor
open Go Go.Wx Go.Ax Go.Sort
abbrev Tbl:=Int→Int→Option Rd
def SetL(a b:Auto)(L:List Arc)(p q:Int)(v:Rd):Prop:=(0≤finA a p∧0≤finA b q∧v=⟨⟨#[]⟩,finA a p+finA b q⟩)∨∃x∈L,x.frm=p∧∃y∈b.arcs,y.frm=q∧ByA (meetA a b) x y v
theorem meetA_set{a b:Auto}(va:Valid a){p q:Int}(hp:0≤p):LeastIn (SetL a b a.arcs p q) (meetA a b p q):=by
 have key:=LeastIn.fold (f:=stepP (meetA a b) (outA b q)) (c:=fun x v=>∃y∈outA b q,ByA (meetA a b) x y v) (fun x o S h=>stepP_least h) (l:=outA a p) (startA_least a b p q)
 rw[←meetA_eq va hp]at key
 refine key.congr fun v=>?_
 unfold SetL
 refine or_congr Iff.rfl ⟨fun⟨x,hx,y,hy,h⟩=>?_,fun⟨x,hx,h1,y,hy,h2,h⟩=>⟨x,mem_out.2 ⟨hx,h1⟩,y,mem_out.2 ⟨hy,h2⟩,h⟩⟩
 obtain⟨hx1,hx2⟩:=mem_out.1 hx
 obtain⟨hy1,hy2⟩:=mem_out.1 hy
 exact⟨x,hx1,hx2,y,hy1,hy2,h⟩
def tStep(x:Arc)(T:Tbl)(y:Arc):Tbl:=fun p q=>if p=x.frm∧q=y.frm then stepQ T x (T p q) y else T p q
def TOk(a b:Auto)(L:List Arc)(T:Tbl):Prop:=∀p q,LeastIn (SetL a b L p q) (T p q)
def TOk2(a b:Auto)(L:List Arc)(x:Arc)(L2:List Arc)(T:Tbl):Prop:=∀p q,LeastIn (fun v=>SetL a b L p q v∨p=x.frm∧∃y∈L2,y.frm=q∧ByA (meetA a b) x y v) (T p q)
def Behind(a:Auto)(x:Arc)(L:List Arc):Prop:=∀z∈a.arcs,z.frm=x.to→z∈L
theorem TOk2.zero{a b:Auto}{L:List Arc}{T:Tbl}(x:Arc)(h:TOk a b L T):TOk2 a b L x [] T:=fun p q=>(h p q).congr fun v=>by simp
theorem TOk2.at{a b:Auto}(va:Valid a){L L2:List Arc}{T:Tbl}{x:Arc}(h:TOk2 a b L x L2 T)(hL:∀z∈L,z∈a.arcs)(hx:x∈a.arcs)(hb:Behind a x L)(q:Int):T x.to q=meetA a b x.to q:=by
 have hxx:=va.arc x hx
 refine LeastIn.uniq (h x.to q) ((meetA_set va (q:=q) (by omega)).congr fun v=>?_)
 have hne:¬x.to=x.frm:=by omega
 simp only[hne,false_and,or_false]
 unfold SetL
 refine or_congr Iff.rfl ⟨fun⟨z,h1,h2,h3⟩=>⟨z,hb z h1 h2,h2,h3⟩,fun⟨z,h1,h2,h3⟩=>⟨z,hL z h1,h2,h3⟩⟩
theorem TOk2.step{a b:Auto}(va:Valid a){L L2:List Arc}{T:Tbl}{x y:Arc}(h:TOk2 a b L x L2 T)(hL:∀z∈L,z∈a.arcs)(hx:x∈a.arcs)(hb:Behind a x L):TOk2 a b L x (y::L2) (tStep x T y):=by
 intro p q
 have hT:=h.at va hL hx hb y.to
 unfold tStep
 split
 ·rename_i hpq
  obtain⟨rfl,rfl⟩:=hpq
  have hs:stepQ T x (T x.frm y.frm) y=stepQ (meetA a b) x (T x.frm y.frm) y:=by
   unfold stepQ
   rw[hT]
  rw[hs]
  refine(stepQ_least (h x.frm y.frm)).congr fun v=>?_
  simp only[List.mem_cons,exists_eq_or_imp,true_and]
  rw[or_assoc]
  refine or_congr Iff.rfl or_comm
 ·rename_i hpq
  refine(h p q).congr fun v=>?_
  refine or_congr Iff.rfl ⟨fun⟨h1,y',h2,h3⟩=>⟨h1,y',List.mem_cons_of_mem _ h2,h3⟩,fun⟨h1,y',h2,h3,h4⟩=>?_⟩
  rcases List.mem_cons.1 h2 with rfl | h2
  ·exact absurd ⟨h1,h3.symm⟩ hpq
  ·exact⟨h1,y',h2,h3,h4⟩
theorem TOk.done{a b:Auto}(va:Valid a){T:Tbl}(h:TOk a b a.arcs T){p:Int}(hp:0≤p)(q:Int):T p q=meetA a b p q:=LeastIn.uniq (h p q) (meetA_set va hp)
theorem finA_at{a:Auto}(va:Valid a){x:End}(hx:x∈a.ends):finA a x.state=x.cost:=by
 obtain⟨i,hi⟩:=List.getElem?_of_mem hx
 have up:∀(d i:Nat) x y,a.ends[i]? =some x→a.ends[i+(d+1)]? =some y→x.state<y.state:=fun d=>by
  induction d with
  | zero=>intro i x y h1 h2;exact va.ord2 i x y h1 h2
  | succ d ih=>
   intro i x y h1 h2
   have hl:=(List.getElem?_eq_some_iff.1 h2).1
   have hz:a.ends[i+(d+1)]? =some a.ends[i+(d+1)]:=List.getElem?_eq_getElem (by omega)
   have:=ih i x _ h1 hz
   have:=va.ord2 (i+(d+1)) _ y hz h2
   omega
 have hone:∀y∈a.ends,y.state=x.state→y=x:=fun y hy he=>by
  obtain⟨j,hj⟩:=List.getElem?_of_mem hy
  rcases Nat.lt_trichotomy i j with h | h | h
  ·have:=up (j-i-1) i x y hi (by rw[show i+(j-i-1+1)=j by omega];exact hj)
   omega
  ·subst h
   rw[hi]at hj
   exact(Option.some.inj hj).symm
  ·have:=up (i-j-1) j y x hj (by rw[show j+(i-j-1+1)=i by omega];exact hi)
   omega
 unfold finA
 cases hf:a.ends.find? (·.state==x.state)with
 | none=>
  have:=List.find?_eq_none.1 hf x hx
  simp at this
 | some y=>
  have h1:=List.mem_of_find?_eq_some hf
  have h2:=List.find?_some hf
  rw[hone y h1 (by simpa using h2)]
  rfl
theorem finA_ge{a:Auto}(va:Valid a){p:Int}:0≤finA a p↔∃x∈a.ends,x.state=p:=by
 constructor
 ·intro h
  unfold finA at h
  cases hf:a.ends.find? (·.state==p)with
  | none=>rw[hf]at h;simp at h
  | some y=>exact⟨y,List.mem_of_find?_eq_some hf,by simpa using List.find?_some hf⟩
 ·rintro⟨x,hx,rfl⟩
  rw[finA_at va hx]
  exact(va.en x hx).2.2.1
def endStep(x:End)(T:Tbl)(y:End):Tbl:=fun p q=>if p=x.state∧q=y.state then some ⟨⟨#[]⟩,x.cost+y.cost⟩else T p q
def EOk(a b:Auto)(E:Int→Int→Prop)(T:Tbl):Prop:=∀p q,(E p q→T p q=some ⟨⟨#[]⟩,finA a p+finA b q⟩)∧(¬E p q→T p q=none)
theorem EOk.congr{a b:Auto}{E E':Int→Int→Prop}{T:Tbl}(h:EOk a b E T)(he:∀p q,E p q↔E' p q):EOk a b E' T:=fun p q=>⟨fun k=>(h p q).1 ((he p q).2 k),fun k=>(h p q).2 fun k2=>k ((he p q).1 k2)⟩
theorem EOk.step{a b:Auto}(va:Valid a)(vb:Valid b){E:Int→Int→Prop}{T:Tbl}(h:EOk a b E T){x y:End}(hx:x∈a.ends)(hy:y∈b.ends):EOk a b (fun p q=>E p q∨p=x.state∧q=y.state) (endStep x T y):=by
 intro p q
 unfold endStep
 split
 ·rename_i he
  refine⟨fun _=>?_,fun k=>absurd (.inr he) k⟩
  rw[he.1,he.2,finA_at va hx,finA_at vb hy]
 ·rename_i he
  exact⟨fun k=>(h p q).1 (k.elim id fun k=>absurd k he),fun k=>(h p q).2 fun k2=>k (.inl k2)⟩
theorem EOk.done{a b:Auto}(va:Valid a)(vb:Valid b){T:Tbl}(h:EOk a b (fun p q=>(∃x∈a.ends,x.state=p)∧∃y∈b.ends,y.state=q) T):T=startA a b:=by
 funext p q
 unfold startA
 by_cases hb:(∃x∈a.ends,x.state=p)∧∃y∈b.ends,y.state=q
 ·rw[(h p q).1 hb,if_pos]
  rw[decide_eq_true ((finA_ge va).2 hb.1),decide_eq_true ((finA_ge vb).2 hb.2)]
  rfl
 ·rw[(h p q).2 hb,if_neg]
  simp only[Bool.and_eq_true,decide_eq_true_eq]
  rintro⟨h1,h2⟩
  exact hb ⟨(finA_ge va).1 h1,(finA_ge vb).1 h2⟩
end Go.Proofs.YtpndfdfipkadkaaGreatDoor
set_option maxRecDepth 100000
namespace Go.Proofs.YtpndfdfipkadkaaGreatDoor
open Go Go.Wx Go.Ax
def NmU(s:List Pl):Prop:=∀x∈s,∀u∈x.uses,nameB u.name=true
theorem mem_mod1{p:Int}{f:Pl→Pl}:∀{s:List Pl} {x:Pl},x∈modP s p f→x∈s∨∃y∈s,x=f y
 |[],_,h=>by cases h
 | y::r,x,h=>by
  unfold modP at h
  split at h
  ·rcases List.mem_cons.1 h with rfl | h
   ·exact .inr ⟨y,List.mem_cons_self,rfl⟩
   ·exact .inl (List.mem_cons_of_mem _ h)
  ·rcases List.mem_cons.1 h with rfl | h
   ·exact .inl List.mem_cons_self
   ·rcases mem_mod1 h with h | ⟨z,hz,he⟩
    ·exact .inl (List.mem_cons_of_mem _ h)
    ·exact .inr ⟨z,List.mem_cons_of_mem _ hz,he⟩
theorem NmU.mod{s:List Pl}(h:NmU s){p:Int}{f:Pl→Pl}(hf:∀y∈s,∀u∈(f y).uses,nameB u.name=true):NmU (modP s p f):=fun x hx u hu=>by
 rcases mem_mod1 hx with hx | ⟨y,hy,rfl⟩
 ·exact h x hx u hu
 ·exact hf y hy u hu
theorem setAt_names{k:Int}{t:Int}{l:List Use}{u:Use}(h:u∈setAt k t l):∃v∈l,v.name=u.name:=by
 unfold setAt at h
 obtain⟨i,hi,rfl⟩:=List.mem_mapIdx.1 h
 refine⟨l[i],List.getElem_mem hi,?_⟩
 split<;>rfl
theorem NmU.after{s:List Pl}(h:NmU s){e:Ev}(f:EvForm e):NmU (afterL s e):=by
 unfold afterL
 split
 ·rename_i hk
  intro x hx u hu
  rcases List.mem_append.1 hx with hx | hx
  ·exact h x hx u hu
  ·rw[List.mem_singleton.1 hx]at hu
   rw[List.mem_singleton.1 hu]
   exact f.named (.inl (by simpa using hk))
 split
 ·rename_i hk
  refine h.mod fun y hy u hu=>?_
  unfold renL at hu
  rcases List.mem_append.1 hu with hu | hu
  ·obtain⟨v,hv,hn⟩:=setAt_names hu
   rw[←hn]
   exact h y hy v hv
  ·rw[List.mem_singleton.1 hu]
   exact f.named (.inr (.inl (by simpa using hk)))
 split
 ·exact h.mod fun y hy u hu=>h y hy u hu
 split
 ·intro x hx u hu
  obtain⟨n,hn,rfl⟩:=List.mem_map.1 hx
  have hu:u∈n.uses:=by
   split at hu
   ·exact hu
   ·exact hu
  have hother:∀v∈((get s e.place).elim [] (·.uses)),nameB v.name=true:=fun v hv=>by
   cases hg:get s e.place with
   | none=>rw[hg]at hv;cases hv
   | some z=>rw[hg]at hv;exact h z (get_mem hg).1 v hv
  refine NmU.mod (NmU.mod h fun y hy u hu=>?_) (fun y hy u hu=>?_) n hn u hu
  ·rw[merged_app]at hu
   rcases List.mem_append.1 hu with hu | hu
   ·exact h y hy u hu
   ·obtain⟨nm,hnm,rfl⟩:=List.mem_map.1 hu
    obtain⟨v,hv,_,he⟩:=mem_using.1 (List.mem_filter.1 hnm).1
    show nameB nm=true
    rw[←he]
    exact hother v hv
  ·simp only[capT]at hu
   obtain⟨v,hv,rfl⟩:=List.mem_map.1 hu
   rcases mem_mod1 hy with hy | ⟨z,hz,rfl⟩
   ·exact h y hy v hv
   ·rw[merged_app]at hv
    rcases List.mem_append.1 hv with hv | hv
    ·exact h z hz v hv
    ·obtain⟨nm,hnm,rfl⟩:=List.mem_map.1 hv
     obtain⟨w,hw,_,he⟩:=mem_using.1 (List.mem_filter.1 hnm).1
     show nameB nm=true
     rw[←he]
     exact hother w hw
 split
 ·rename_i hk
  refine h.mod fun y hy u hu=>?_
  rcases List.mem_append.1 hu with hu | hu
  ·exact h y hy u hu
  ·rw[List.mem_singleton.1 hu]
   exact f.named (.inr (.inr (by simpa using hk)))
 ·exact h
theorem on_names{l:List Ev}(ha:Acc l)(d:Int):NmU (onL l d):=by
 unfold onL
 split
 ·intro x hx;cases hx
 ·unfold upToL
  refine foldl_inv (I:=NmU) (fun x hx=>by cases hx) fun e he s hs=>?_
  split
  ·exact hs.after (ha.ok.form e he)
  ·exact hs
theorem names_ok{l:List Ev}(ha:Acc l)(p d:Int):∀n∈namesL (onL l d) p d,nameB n=true:=by
 intro n hn
 unfold namesL at hn
 split at hn
 ·rename_i x hx
  split at hn
  ·obtain⟨u,hu,_,rfl⟩:=mem_using.1 hn
   exact on_names ha d x (get_mem hx).1 u hu
  ·cases hn
 ·cases hn
end Go.Proofs.YtpndfdfipkadkaaGreatDoor
set_option maxRecDepth 100000
namespace Go.Proofs.YtpndfdfipkadkaaGreatDoor
open Go Go.Wx Go.Ax
def lessI(o:Option Int)(c:Int):Option Int:=match o with
 | none=>some c
 | some b=>if c<b then some c else some b
def fitStep(raw:ByteArray→Auto)(a:Auto)(o:Option Int)(s:ByteArray):Option Int:=match meetA (raw s) a 0 0 with
 | none=>o
 | some r=>lessI o r.cost
def fitL(raw:ByteArray→Auto)(a:Auto)(ns:List ByteArray):Option Int:=ns.foldl (fitStep raw a) none
structure NmV(l:List Spell)(s:ByteArray):Prop where
 nm:nameB s=true
 few:(mtL s l).length≤100
theorem NmV.letS{l:List Spell}{s:ByteArray}(h:NmV l s):letS s=true:=by
 have:=h.nm
 unfold nameB at this
 simp only[Bool.and_eq_true]at this
 exact this.2.2.1
theorem NmV.vA{l:List Spell}(hr:RulesOk l){s:ByteArray}(h:NmV l s):Valid (rawA s l):=raw_valid hr h.letS (by have:=nameB_size h.nm;omega) h.few
theorem many_ok{ns:List ByteArray}{l:List Spell}(hn:∀s∈ns,nameB s=true)(h:manyL ns l=0):∀s∈ns,NmV l s:=fun s hs=>⟨hn s hs,by
 unfold manyL at h
 split at h
 ·cases h
 ·rename_i hx
  apply Classical.byContradiction
  intro hc
  exact hx (List.any_eq_true.2 ⟨s,hs,by simp;omega⟩)⟩
theorem many_no{ns:List ByteArray}{l:List Spell}(h:manyL ns l≠0):manyL ns l=2∧∃s∈ns,(mtL s l).length>100:=by
 unfold manyL at h ⊢
 split
 ·rename_i hx
  obtain⟨s,hs,hd⟩:=List.any_eq_true.1 hx
  exact⟨rfl,s,hs,by simpa using hd⟩
 ·rename_i hx
  rw[if_neg hx]at h
  exact absurd rfl h
end Go.Proofs.YtpndfdfipkadkaaGreatDoor
